/- IndexOf (layer 12): whatever the pages and the number, the law returns true, and the arguments read as they did. Conditions: none. -/
import Derived.Test.YtlbnimbgodmagaaVsF
import Derived.Test.YtlbnimbgodmagaaVrH
namespace Go.VL
open Go.Proofs

theorem Tp.keep {σ σ' : St} {g2 k g1 g' n : Nat} (h : Tp σ σ' g2 k) (h1 : g2 ≠ g1) (h2 : g2 ≠ g') (r : Res) (wf : WF σ) (hg1 : σ.next ≤ g1) (hg' : σ.next ≤ g') : Tp σ (((σ'.up n).del g1).set g' r) g2 k where
  lo := h.lo
  hi := by have := h.hi; simp; omega
  at_ := by rw [St.set_other _ _ h2]; simp only [St.del]; rw [if_neg h1]; exact h.at_
  old := fun m x hr => by
    have hn : m < σ.next := by
      rcases Nat.lt_or_ge m σ.next with h' | h'
      · exact h'
      · rw [wf m h'] at hr; cases hr
    rw [St.set_other _ _ (by omega)]
    simp only [St.del]
    rw [if_neg (by omega)]; exact h.old m x hr
theorem Tp.keep' {σ σ' : St} {g2 k g' n : Nat} (h : Tp σ σ' g2 k) (r : Res) (wf : WF σ) (hg' : σ'.next ≤ g') : Tp σ ((σ'.up n).set g' r) g2 k where
  lo := h.lo
  hi := by have := h.hi; simp; omega
  at_ := by rw [St.set_other _ _ (by have := h.hi; omega)]; exact h.at_
  old := set_quiet wf (Nat.le_trans h.lo (Nat.le_of_lt h.hi)) h.old r hg'

def rofB (l : List (List Tc)) : AV := if l.all (fun p => !p.isEmpty) = true then .tup [.sl (nums .u64 (natI (firsts l))) .none, .bool (risB l.flatten && decide (l.length ≤ 200))] else .tup [.sl [] .none, .bool false]

set_option maxRecDepth 10000 in
set_option maxHeartbeats 2000000 in
theorem rof_ok {l : List (List Tc)} {g : Ver} {σ : St} (hl : l.length ≤ 1000000000) (hs : l.flatten.length ≤ 1000000000) (hsp : ∀ p ∈ l, ∀ t ∈ p, t.sp.length ≤ 9223372036854775807) :
    ACalls Try.prog n_rof [.sl (pgsAV l) g] σ (fun v σ' => v = rofB l ∧ σ' = σ) := by
  refine s_rof (fun wf => ?_)
  unfold c_rof
  refine T.seq_k (fun K_h1 h1 => ?_)
  refine T.regi hm ?_
  simp only [↓reduceIte, namesOf, List.any, I.names, aopsI, astep, ev, setd, List.set, List.cons_append, List.nil_append, List.length_cons, List.length_nil, List.replicate, then_normal, Bool.or_false, Bool.false_eq_true, up_zero, Nat.reduceAdd, Nat.reduceSub]
  refine h1 _ _ ?_
  try clear h1 K_h1
  refine T.seq_k (fun K_h1 h1 => ?_)
  refine T.regi hm ?_
  simp only [↓reduceIte, namesOf, List.any, I.names, aopsI, astep, ev, setd, List.set, then_normal, Bool.or_false, Bool.false_eq_true, up_zero]
  refine h1 _ _ ?_
  try clear h1 K_h1
  refine T.seq_k (fun K_h1 h1 => ?_)
  refine T.regi hm ?_
  simp only [↓reduceIte, namesOf, List.any, I.names, aopsI, astep, ev, setd, List.set, then_normal, Bool.or_false, Bool.false_eq_true, up_zero]
  refine h1 _ _ ?_
  try clear h1 K_h1
  refine T.seq_k (fun K_h1 h1 => ?_)
  refine T.seq_k (fun K_h2 h2 => ?_)
  refine T.regi hm ?_
  simp only [↓reduceIte, namesOf, List.any, I.names, aopsI, astep, ev, setd, List.set, then_normal, Bool.or_false, Bool.false_eq_true, up_zero]
  refine h2 _ _ ?_
  try clear h2 K_h2
  refine T.block ?_
  refine T.gh (Gh.keep [0, 4, 5, 6]) ?_
  refine T.loopi (fun i ρ σ' => (l.take i).all (fun p => !p.isEmpty) = true ∧ ((i = 0 ∧ σ.next ≤ σ'.next ∧ (∀ n x, σ.res n = some x → σ'.res n = some x) ∧ ρ = [.sl (pgsAV l) g, .any, .any, .any, .sl [] .nil, .sl [] .nil, .int .i64 (0 : Int)] ++ List.replicate 38 .any) ∨
    ∃ g1 g2, g1 ≠ g2 ∧ Tp σ σ' g1 1 ∧ Tp σ σ' g2 2 ∧ ρ = [.sl (pgsAV l) g, .any, .any, .any, .sl (nums .u64 (natI (firsts (l.take i)))) (.tip g1), .sl (tcsAV (l.take i).flatten) (.tip g2), .int .i64 (i : Int)] ++ List.replicate 38 .any))
    l.length 0 (Nat.zero_le _) ⟨by simp, .inl ⟨rfl, Nat.le_refl _, fun _ _ h => h, rfl⟩⟩ ?_
  rintro i ρ σ2 hi ⟨hpre, hJ⟩
  have hold : σ.next ≤ σ2.next ∧ ∀ n x, σ.res n = some x → σ2.res n = some x := by
    rcases hJ with ⟨_, h1, h2, _⟩ | ⟨g1, g2, _, t1, _, _⟩
    · exact ⟨h1, h2⟩
    · exact ⟨Nat.le_trans t1.lo (Nat.le_of_lt t1.hi), t1.old⟩
  obtain ⟨x4, x5, rfl, hx⟩ : ∃ x4 x5, ρ = [.sl (pgsAV l) g, .any, .any, .any, x4, x5, .int .i64 (i : Int)] ++ List.replicate 38 .any ∧ ((i = 0 ∧ x4 = .sl [] .nil ∧ x5 = .sl [] .nil) ∨
      ∃ g1 g2, g1 ≠ g2 ∧ Tp σ σ2 g1 1 ∧ Tp σ σ2 g2 2 ∧ x4 = .sl (nums .u64 (natI (firsts (l.take i)))) (.tip g1) ∧ x5 = .sl (tcsAV (l.take i).flatten) (.tip g2)) := by
    rcases hJ with ⟨rfl, _, _, rfl⟩ | ⟨g1, g2, h0, t1, t2, rfl⟩
    · exact ⟨_, _, rfl, .inl ⟨rfl, rfl, rfl⟩⟩
    · exact ⟨_, _, rfl, .inr ⟨g1, g2, h0, t1, t2, rfl, rfl⟩⟩
  clear hJ
  refine T.seq_k (fun K_h2 h2 => ?_)
  refine T.seq_k (fun K_h3 h3 => ?_)
  refine T.regi hm ?_
  simp only [↓reduceIte, namesOf, List.any, I.names, aopsI, astep, ev, setd, List.set, List.getD, List.getElem?_cons_zero, List.getElem?_cons_succ, List.cons_append, List.nil_append, List.replicate, then_normal, Option.getD_some, Bool.or_false, Bool.false_eq_true, up_zero, binv, ↓opt_def, lt_len, eq_self, reduceCtorEq, pgs_len]
  refine h3 _ _ ?_
  try clear h3 K_h3
  refine T.cond rfl (fun hb => ?_) (fun hb => ?_)
  · refine T.skip ?_
    refine h2 _ _ ?_
    try clear h2 K_h2
    have hil : i < l.length := by simpa using hb
    clear hb
    have hw := inc64 hil (by omega)
    refine T.seq_k (fun K_h2 h2 => ?_)
    refine T.block ?_
    refine T.seq_k (fun K_h3 h3 => ?_)
    refine T.seq_k (fun K_h4 h4 => ?_)
    cases hp : l[i] with
    | nil =>
      have e1 : (((0 : Nat) : Int) == 0) = true := rfl
      refine T.regi hm ?_
      simp only [↓reduceIte, namesOf, List.any, I.names, aopsI, astep, ev, setd, List.set, List.getD, List.getElem?_cons_zero, List.getElem?_cons_succ, List.cons_append, List.nil_append, List.length_cons, List.length_nil, List.replicate, then_normal, Option.getD_some, Bool.or_false, Bool.false_eq_true, up_zero, Nat.reduceAdd, binv, ↓opt_def, AV.cells, ldc, List.map_nil, Int.natCast_nonneg, lt_len, Int.toNat_natCast, true_and, and_true, eq_self, reduceCtorEq, decide_true, pgs_len, pgs_get hil, hil, hp, tcsAV, e1]
      refine h4 _ _ ?_
      try clear h4 K_h4
      refine T.cond rfl (fun _ => ?_) (fun h => by cases h)
      refine T.seq_k (fun K_h4 h4 => ?_)
      refine T.regi hm ?_
      simp only [↓reduceIte, namesOf, List.any, I.names, aopsI, astep, ev, setd, List.set, List.cons_append, List.nil_append, List.replicate, then_normal, Bool.or_false, Bool.false_eq_true, up_zero, reduceCtorEq]
      refine h4 _ _ ?_
      try clear h4 K_h4
      have hf : rofB l = .tup [.sl [] .none, .bool false] := by
        unfold rofB
        rw [all_ff hil (by rw [hp]; rfl)]; rfl
      exact T.ret (Fin.quietw rfl (Wk.tup2 (Wk.sl _ _)) ⟨⟨trivial, trivial⟩, trivial, trivial⟩ hold.2 ⟨by rw [hf]; rfl, rfl⟩)
    | cons t r =>
      have e1 : (((tcsAV (t :: r)).length : Int) == 0) = false := by simp [tcs_len]; try omega
      refine T.regi hm ?_
      simp only [↓reduceIte, namesOf, List.any, I.names, aopsI, astep, ev, setd, List.set, List.getD, List.getElem?_cons_zero, List.getElem?_cons_succ, List.cons_append, List.nil_append, List.length_cons, List.length_nil, List.replicate, then_normal, Option.getD_some, Bool.or_false, Bool.false_eq_true, up_zero, Nat.reduceAdd, binv, ↓opt_def, AV.cells, ldc, Int.natCast_nonneg, lt_len, Int.toNat_natCast, true_and, and_true, eq_self, reduceCtorEq, decide_true, pgs_len, pgs_get hil, hil, hp, e1]
      refine h4 _ _ ?_
      try clear h4 K_h4
      refine T.cond rfl (fun h => by cases h) (fun _ => T.skip ?_)
      refine h3 _ _ ?_
      try clear h3 K_h3
      have hlt : (0 : Int) < (((tcsAV (t :: r)).length : Nat) : Int) := by simp [tcs_len]; try omega
      have hg0 : (tcsAV (t :: r))[Int.toNat 0]? = some t.av := rfl
      have hft := firsts_take hil hp
      have hfl := flat_take1 hil
      rw [hp] at hfl
      have hle := flat_take_le (l := l) (i + 1)
      have hnl : (firsts (l.take i)).length = i := by simp [firsts]; try omega
      have hne : (tcsAV (t :: r)).isEmpty = false := rfl
      rcases hx with ⟨rfl, rfl, rfl⟩ | ⟨g1, g2, h0, t1, t2, rfl, rfl⟩
      · refine T.seq_k (fun K_h3 h3 => ?_)
        refine T.regi hm ?_
        simp only [↓reduceIte, namesOf, List.any, I.names, aopsI, astep, ev, setd, List.set, List.getD, List.getElem?_cons_zero, List.getElem?_cons_succ, List.cons_append, List.nil_append, List.length_cons, List.length_nil, List.replicate, then_normal, Option.getD_some, Bool.or_false, Bool.or_true, Bool.false_eq_true, Nat.reduceAdd, ↓opt_def, AV.isAny, AV.cells, ldc, List.map_cons, List.map_nil, Int.natCast_nonneg, lt_len, Int.toNat_natCast, true_and, and_true, eq_self, reduceCtorEq, er_int, pgs_len, pgs_get hil, hil, hp, hlt, hg0, tcav', Int.le_refl, and_self, held, srcOf, AV.fits, AV.one, List.all_cons, List.all_nil, Bool.not_false, Bool.and_self, Nat.zero_add, List.drop, Nat.reduceLeDiff, List.isEmpty, List.nil_append, beq_self_eq_true]
        rw [if_pos (by decide)]
        have t1 : Tp σ ((σ2.up 11).set (σ2.next + 9) (.tip 1)) (σ2.next + 9) 1 := Tp.new wf hold.1 hold.2 (by omega)
        generalize hs3 : ((σ2.up 11).set (σ2.next + 9) (.tip 1)) = s3 at t1 ⊢
        generalize σ2.next + 9 = g1 at t1 ⊢
        clear hs3
        refine h3 _ _ ?_
        try clear h3 K_h3
        refine T.regi hm ?_
        simp only [↓reduceIte, namesOf, List.any, I.names, aopsI, astep, ev, setd, List.set, List.getD, List.getElem?_cons_zero, List.getElem?_cons_succ, List.cons_append, List.nil_append, List.length_cons, List.length_nil, List.replicate, then_normal, inBlock_normal, Option.getD_some, Bool.or_false, Bool.or_true, Bool.false_eq_true, Nat.reduceAdd, ↓opt_def, AV.cells, ldc, Int.natCast_nonneg, lt_len, Int.toNat_natCast, true_and, and_true, eq_self, reduceCtorEq, pgs_len, pgs_get hil, hil, hp, srcOf, tcs_er, tcs_fits, Bool.true_and, List.nil_append, hne]
        rw [if_pos (by rw [hfl, List.length_append] at hle; simp only [tcs_len, decide_eq_true_eq, List.length_cons] at hle ⊢; omega)]
        have t2 : Tp σ ((s3.up 7).set (s3.next + 5) (.tip 2)) (s3.next + 5) 2 := Tp.new wf (Nat.le_trans t1.lo (Nat.le_of_lt t1.hi)) t1.old (by omega)
        have t1' := t1.keep' (n := 7) (.tip 2) wf (g' := s3.next + 5) (by omega)
        refine h2 _ _ ?_
        try clear h2 K_h2
        refine T.regi hm ?_
        simp only [↓reduceIte, namesOf, List.any, I.names, aopsI, astep, ev, setd, List.set, List.getD, List.getElem?_cons_zero, List.getElem?_cons_succ, List.cons_append, List.nil_append, List.replicate, then_normal, Option.getD_some, Bool.or_false, Bool.false_eq_true, up_zero, Nat.reduceAdd, binv, ↓opt_def, eq_self, reduceCtorEq, hw]
        refine ⟨hil, _, _, Gh.keep [0, 4, 5, 6], take_all hil hpre (by rw [hp]; rfl), .inr ⟨g1, s3.next + 5, by have := t1.hi; omega, t1', t2, ?_⟩⟩
        rw [hft, hfl]; rfl
      · refine T.seq_k (fun K_h3 h3 => ?_)
        refine T.regi hm ?_
        simp only [↓reduceIte, namesOf, List.any, I.names, aopsI, astep, ev, setd, List.set, List.getD, List.getElem?_cons_zero, List.getElem?_cons_succ, List.cons_append, List.nil_append, List.length_cons, List.length_nil, List.replicate, then_normal, Option.getD_some, Bool.or_false, Bool.or_true, Nat.reduceAdd, ↓opt_def, AV.isAny, AV.cells, ldc, List.map_cons, List.map_nil, Int.natCast_nonneg, lt_len, Int.toNat_natCast, true_and, eq_self, reduceCtorEq, er_int, pgs_len, pgs_get hil, hil, hp, hlt, hg0, tcav', Int.le_refl, and_self, held, srcOf, AV.fits, AV.one, List.all_cons, List.all_nil, Bool.not_false, Bool.and_self, Nat.zero_add, List.drop, Nat.reduceLeDiff, List.isEmpty, List.nil_append, beq_self_eq_true, t1.at_, St.up_res, nums_all', nums_snoc, ← natI_snoc, ← hft]
        rw [if_pos (by simp [nums_len, natI_len, hnl]; try omega)]
        have t1' : Tp σ (((σ2.up 11).del g1).set (σ2.next + 9) (.tip 1)) (σ2.next + 9) 1 := (t1.up 11).mv wf (by have := hold.1; omega) (by simp)
        have t2' := t2.keep (n := 11) (g1 := g1) (g' := σ2.next + 9) (Ne.symm h0) (by have := t2.hi; omega) (.tip 1) wf t1.lo (by have := hold.1; omega)
        have h9 : σ2.next + 9 ≠ g2 := by have := t2.hi; omega
        generalize (((σ2.up 11).del g1).set (σ2.next + 9) (.tip 1)) = s3 at t1' t2' ⊢
        generalize σ2.next + 9 = g3 at t1' t2' h9 ⊢
        refine h3 _ _ ?_
        try clear h3 K_h3
        refine T.regi hm ?_
        simp only [↓reduceIte, namesOf, List.any, I.names, aopsI, astep, ev, setd, List.set, List.getD, List.getElem?_cons_zero, List.getElem?_cons_succ, List.cons_append, List.nil_append, List.length_cons, List.length_nil, List.replicate, then_normal, inBlock_normal, Option.getD_some, Bool.or_false, Bool.or_true, Nat.reduceAdd, ↓opt_def, AV.cells, ldc, Int.natCast_nonneg, lt_len, Int.toNat_natCast, true_and, and_true, eq_self, reduceCtorEq, pgs_len, pgs_get hil, hil, hp, srcOf, tcs_er, tcs_fits, Bool.true_and, t2'.at_, St.up_res, tcs_app, ← hfl]
        rw [if_pos (by rw [hfl, List.length_append] at hle; simp only [tcs_len, decide_eq_true_eq, List.length_cons] at hle ⊢; omega)]
        have hl3 : σ.next ≤ s3.next + 5 := by have := t1'.lo; have := t1'.hi; omega
        have t2'' : Tp σ (((s3.up 7).del g2).set (s3.next + 5) (.tip 2)) (s3.next + 5) 2 := (t2'.up 7).mv wf hl3 (by simp)
        have t1'' := t1'.keep (n := 7) (g1 := g2) (g' := s3.next + 5) h9 (by have := t1'.hi; omega) (.tip 2) wf t2'.lo hl3
        refine h2 _ _ ?_
        try clear h2 K_h2
        refine T.regi hm ?_
        simp only [↓reduceIte, namesOf, List.any, I.names, aopsI, astep, ev, setd, List.set, List.getD, List.getElem?_cons_zero, List.getElem?_cons_succ, List.cons_append, List.nil_append, List.replicate, then_normal, Option.getD_some, Bool.or_false, Bool.false_eq_true, up_zero, binv, ↓opt_def, eq_self, reduceCtorEq, hw]
        exact ⟨hil, _, _, Gh.keep [0, 4, 5, 6], take_all hil hpre (by rw [hp]; rfl), .inr ⟨g3, s3.next + 5, by have := t1'.hi; omega, t1'', t2'', rfl⟩⟩
  · refine T.exit ?_
    have : i = l.length := by simp at hb; omega
    subst this
    rw [List.take_length] at hx hpre
    try simp only [List.cons_append, List.nil_append, List.replicate, then_normal, reduceCtorEq, inBlock_exit, then_exit]
    refine h1 _ _ ?_
    try clear h1 K_h1
    have hfs : ∀ t ∈ l.flatten, t.sp.length ≤ 9223372036854775807 := by
      intro t ht
      obtain ⟨p, hp, htp⟩ := List.mem_flatten.1 ht
      exact hsp p hp t htp
    have h5 : ∃ v, x5 = .sl (tcsAV l.flatten) v := by
      rcases hx with ⟨h0, _, rfl⟩ | ⟨g1, g2, _, _, _, _, rfl⟩
      · have hnil : l = [] := List.eq_nil_of_length_eq_zero h0
        subst hnil; exact ⟨_, rfl⟩
      · exact ⟨_, rfl⟩
    have h4 : ∃ v, x4 = .sl (nums .u64 (natI (firsts l))) v := by
      rcases hx with ⟨h0, rfl, _⟩ | ⟨g1, g2, _, _, _, rfl, _⟩
      · have hnil : l = [] := List.eq_nil_of_length_eq_zero h0
        subst hnil; exact ⟨_, rfl⟩
      · exact ⟨_, rfl⟩
    obtain ⟨v5, rfl⟩ := h5
    obtain ⟨v4, rfl⟩ := h4
    clear hx
    have hfin : rofB l = .tup [.sl (nums .u64 (natI (firsts l))) .none, .bool (risB l.flatten && decide (l.length ≤ 200))] := by unfold rofB; rw [if_pos hpre]
    refine T.seq_k (fun K_h1 h1 => ?_)
    refine T.regi hm ?_
    simp only [↓reduceIte, namesOf, List.any, I.names, aopsI, astep, ev, setd, List.set, List.getD, List.getElem?_cons_zero, List.getElem?_cons_succ, then_normal, Option.getD_some, Bool.or_false, Bool.false_eq_true, up_zero, List.map_cons, List.map_nil]
    refine (ris_ok (by omega) hfs).mono ?_
    rintro v σ3 ⟨rfl, rfl⟩
    try simp only [↓reduceIte, namesOf, List.any, I.names, aops, aopsI, aopsT, qstep, CPt, qget, Tbl.get, astep, ev, setd, List.set, List.getD, List.getElem?_cons_zero, List.getElem?_cons_succ, List.getElem?_nil, List.cons_append, List.nil_append, List.length_cons, List.length_nil, List.replicate, then_normal, inBlock_normal, Option.getD_some, Option.getD_none, Bool.or_false, Bool.or_true, Bool.true_or, Bool.false_or, Bool.false_eq_true, if_false, if_true, up_zero, Nat.reduceAdd, Nat.reduceSub, binv, ↓opt_def, AV.isAny, AV.cells, ldc, List.map_cons, List.map_nil, St.set_next, St.set_same, St.up_next, Int.natCast_nonneg, lt_len, le_len, Int.toNat_natCast, true_and, and_true, eq_self, reduceCtorEq, decide_true, List.length_singleton, er_int, er_bool, er_str, up_zero]
    refine h1 _ _ ?_
    try clear h1 K_h1
    refine T.seq_k (fun K_h1 h1 => ?_)
    cases hb : risB l.flatten with
    | false =>
      refine T.regi hm ?_
      simp only [↓reduceIte, namesOf, List.any, I.names, aopsI, astep, ev, setd, List.set, List.getD, List.getElem?_cons_zero, List.getElem?_cons_succ, then_normal, Option.getD_some, Bool.or_false, Bool.false_eq_true, up_zero]
      refine h1 _ _ ?_
      try clear h1 K_h1
      exact T.ret (Fin.quietw rfl (Wk.tup2 (Wk.sl _ _)) ⟨⟨nb_nums _ _ _, trivial⟩, trivial, trivial⟩ hold.2 ⟨by rw [hfin, hb]; rfl, rfl⟩)
    | true =>
      have e1 : decide ((l.length : Int) ≤ 200) = decide (l.length ≤ 200) := by rw [decide_eq_decide]; omega
      refine T.regi hm ?_
      simp only [↓reduceIte, namesOf, List.any, I.names, aopsI, astep, ev, setd, List.set, List.getD, List.getElem?_cons_zero, List.getElem?_cons_succ, then_normal, Option.getD_some, Bool.or_false, Bool.false_eq_true, up_zero, binv, ↓opt_def, eq_self, pgs_len, e1]
      refine h1 _ _ ?_
      try clear h1 K_h1
      exact T.ret (Fin.quietw rfl (Wk.tup2 (Wk.sl _ _)) ⟨⟨nb_nums _ _ _, trivial⟩, trivial, trivial⟩ hold.2 ⟨by rw [hfin, hb]; rfl, rfl⟩)

set_option maxRecDepth 10000 in
set_option maxHeartbeats 2000000 in
theorem indexOf_ok {l : List (List Tc)} {g : Ver} {id : Int} {σ : St} (hl : PgOk l) :
    ACalls Try.prog n_indexOf [.sl (pgsAV l) g, .int .u64 id] σ (fun v σ' => v = .bool true ∧ σ' = σ) := by
  refine s_indexOf (fun wf => ?_)
  unfold c_indexOf
  refine T.seq_k (fun K_h1 h1 => ?_)
  refine T.regi hm ?_
  simp only [↓reduceIte, namesOf, List.any, I.names, aopsI, astep, ev, setd, List.set, List.cons_append, List.nil_append, List.length_cons, List.length_nil, List.replicate, then_normal, Bool.or_false, Bool.false_eq_true, up_zero, Nat.reduceAdd, Nat.reduceSub]
  refine h1 _ _ ?_
  try clear h1 K_h1
  refine T.seq_k (fun K_h1 h1 => ?_)
  refine T.regi hm ?_
  simp only [↓reduceIte, namesOf, List.any, I.names, aopsI, astep, ev, setd, List.set, List.getD, List.getElem?_cons_zero, List.getElem?_cons_succ, then_normal, Option.getD_some, Bool.or_false, Bool.false_eq_true, up_zero, List.map_nil]
  refine up12_ok.mono ?_
  rintro v σ1 ⟨rfl, rfl⟩
  try simp only [↓reduceIte, namesOf, List.any, I.names, aops, aopsI, aopsT, qstep, CPt, qget, Tbl.get, astep, ev, setd, List.set, List.getD, List.getElem?_cons_zero, List.getElem?_cons_succ, List.getElem?_nil, List.cons_append, List.nil_append, List.length_cons, List.length_nil, List.replicate, then_normal, inBlock_normal, Option.getD_some, Option.getD_none, Bool.or_false, Bool.or_true, Bool.true_or, Bool.false_or, Bool.false_eq_true, if_false, if_true, up_zero, Nat.reduceAdd, Nat.reduceSub, binv, ↓opt_def, AV.isAny, AV.cells, ldc, List.map_cons, List.map_nil, St.set_next, St.set_same, St.up_next, Int.natCast_nonneg, lt_len, le_len, Int.toNat_natCast, true_and, and_true, eq_self, reduceCtorEq, decide_true, List.length_singleton, er_int, er_bool, er_str, up_zero]
  refine h1 _ _ ?_
  try clear h1 K_h1
  refine T.seq_k (fun K_h1 h1 => ?_)
  refine T.regi hm ?_
  simp only [↓reduceIte, namesOf, List.any, I.names, aopsI, astep, ev, setd, List.set, List.getD, List.getElem?_cons_zero, List.getElem?_cons_succ, then_normal, Option.getD_some, Bool.or_false, Bool.false_eq_true, up_zero, List.map_cons, List.map_nil]
  refine (small_ok hl.1 (fun p hp => ⟨(hl.2 p hp).1, fun t ht => ((hl.2 p hp).2 t ht).2⟩)).mono ?_
  rintro v σ2 ⟨rfl, rfl⟩
  try simp only [↓reduceIte, namesOf, List.any, I.names, aops, aopsI, aopsT, qstep, CPt, qget, Tbl.get, astep, ev, setd, List.set, List.getD, List.getElem?_cons_zero, List.getElem?_cons_succ, List.getElem?_nil, List.cons_append, List.nil_append, List.length_cons, List.length_nil, List.replicate, then_normal, inBlock_normal, Option.getD_some, Option.getD_none, Bool.or_false, Bool.or_true, Bool.true_or, Bool.false_or, Bool.false_eq_true, if_false, if_true, up_zero, Nat.reduceAdd, Nat.reduceSub, binv, ↓opt_def, AV.isAny, AV.cells, ldc, List.map_cons, List.map_nil, St.set_next, St.set_same, St.up_next, Int.natCast_nonneg, lt_len, le_len, Int.toNat_natCast, true_and, and_true, eq_self, reduceCtorEq, decide_true, List.length_singleton, er_int, er_bool, er_str, up_zero]
  refine h1 _ _ ?_
  try clear h1 K_h1
  refine T.seq_k (fun K_h1 h1 => ?_)
  refine T.seq_k (fun K_h2 h2 => ?_)
  refine T.regi hm ?_
  simp only [↓reduceIte, namesOf, List.any, I.names, aopsI, astep, ev, setd, List.set, List.getD, List.getElem?_cons_zero, List.getElem?_cons_succ, then_normal, Option.getD_some, Bool.or_false, Bool.false_eq_true, up_zero]
  refine h2 _ _ ?_
  try clear h2 K_h2
  cases hsm : smallB l with
  | false =>
    refine T.cond rfl (fun _ => ?_) (fun h => by simp at h)
    refine T.seq_k (fun K_h2 h2 => ?_)
    refine T.regi hm ?_
    simp only [↓reduceIte, namesOf, List.any, I.names, aopsI, astep, ev, setd, List.set, List.getD, List.getElem?_cons_zero, List.getElem?_cons_succ, then_normal, Option.getD_some, Bool.or_false, Bool.false_eq_true, up_zero]
    refine h2 _ _ ?_
    try clear h2 K_h2
    exact T.ret (Fin.ret rfl ⟨rfl, rfl⟩)
  | true =>
  refine T.cond rfl (fun h => by simp at h) (fun _ => T.skip ?_)
  refine h1 _ _ ?_
  try clear h1 K_h1
  obtain ⟨h300, hf300, hsp⟩ := small_facts hsm
  have hsp' : ∀ p ∈ l, ∀ t ∈ p, t.sp.length ≤ 9223372036854775807 := fun p hp t ht => by have := hsp p hp t ht; omega
  have hofd : ofB l = (l.all (fun p => !p.isEmpty) && (risB l.flatten && decide (l.length ≤ 200))) := by
    unfold ofB; rw [is_doc]
    cases l.all (fun p => !p.isEmpty) <;> cases decide (l.length ≤ 200) <;> cases risB l.flatten <;> rfl
  refine T.seq_k (fun K_h1 h1 => ?_)
  refine T.regi hm ?_
  simp only [↓reduceIte, namesOf, List.any, I.names, aopsI, astep, ev, setd, List.set, List.getD, List.getElem?_cons_zero, List.getElem?_cons_succ, then_normal, Option.getD_some, Bool.or_false, Bool.false_eq_true, up_zero, ↓opt_def, List.map_cons, List.map_nil]
  refine (iof_ok (by omega) (by omega) hsp').mono ?_
  rintro v σ3 ⟨rfl, rfl⟩
  cases hof : ofB l with
  | false =>
    rw [if_neg (by simp), errAV_eq 1 (by omega)]
    try simp only [List.getElem?_cons_zero, List.getElem?_cons_succ]
    refine h1 _ _ ?_
    try clear h1 K_h1
    refine T.seq_k (fun K_h1 h1 => ?_)
    refine T.regi hm ?_
    simp only [↓reduceIte, namesOf, List.any, I.names, aopsI, astep, ev, setd, List.set, List.getD, List.getElem?_cons_zero, List.getElem?_cons_succ, then_normal, Option.getD_some, Bool.or_false, Bool.false_eq_true, up_zero, ↓opt_def, List.map_cons, List.map_nil]
    refine (rof_ok (by omega) (by omega) hsp').mono ?_
    rintro v σ4 ⟨rfl, rfl⟩
    have hro : ∃ x, rofB l = .tup [.sl x .none, .bool false] := by
      unfold rofB
      rw [hof] at hofd
      cases ha : l.all (fun p => !p.isEmpty) with
      | false => exact ⟨_, by simp; rfl⟩
      | true =>
        rw [ha, Bool.true_and] at hofd
        exact ⟨nums .u64 (natI (firsts l)), by rw [← hofd]; simp⟩
    obtain ⟨x, hx⟩ := hro
    rw [hx]
    try simp only [List.getElem?_cons_zero, List.getElem?_cons_succ]
    refine h1 _ _ ?_
    try clear h1 K_h1
    refine T.seq_k (fun K_h1 h1 => ?_)
    refine T.seq_k (fun K_h2 h2 => ?_)
    refine T.regi hm ?_
    simp only [↓reduceIte, namesOf, List.any, I.names, aopsI, astep, ev, setd, List.set, List.getD, List.getElem?_cons_zero, List.getElem?_cons_succ, then_normal, Option.getD_some, Bool.or_false, Bool.false_eq_true, up_zero, Bool.not_false]
    refine h2 _ _ ?_
    try clear h2 K_h2
    refine T.cond rfl (fun _ => ?_) (fun h => by cases h)
    refine T.seq_k (fun K_h2 h2 => ?_)
    refine T.regi hm ?_
    simp only [↓reduceIte, namesOf, List.any, I.names, aopsI, astep, ev, setd, List.set, List.getD, List.getElem?_cons_zero, List.getElem?_cons_succ, List.length_nil, then_normal, Option.getD_some, Bool.or_false, Bool.false_eq_true, up_zero, binv, ↓opt_def, eq_self, decide_true, eqIv, beq_self_eq_true, Bool.and_self, Bool.bne_false, show (((0 : Nat) : Int) == 0) = true by rfl]
    refine h2 _ _ ?_
    try clear h2 K_h2
    exact T.ret (Fin.ret rfl ⟨rfl, rfl⟩)
  | true =>
  rw [if_pos rfl]
  try simp only [List.getElem?_cons_zero, List.getElem?_cons_succ]
  refine h1 _ _ ?_
  try clear h1 K_h1
  refine T.seq_k (fun K_h1 h1 => ?_)
  refine T.regi hm ?_
  simp only [↓reduceIte, namesOf, List.any, I.names, aopsI, astep, ev, setd, List.set, List.getD, List.getElem?_cons_zero, List.getElem?_cons_succ, then_normal, Option.getD_some, Bool.or_false, Bool.false_eq_true, up_zero, ↓opt_def, List.map_cons, List.map_nil]
  refine (rof_ok (by omega) (by omega) hsp').mono ?_
  rintro v σ4 ⟨rfl, rfl⟩
  have hro : rofB l = .tup [.sl (nums .u64 (natI (firsts l))) .none, .bool true] := by
    rw [hof] at hofd
    have h := hofd.symm
    rw [Bool.and_eq_true] at h
    unfold rofB
    rw [if_pos h.1, h.2]
  rw [hro]
  try simp only [List.getElem?_cons_zero, List.getElem?_cons_succ]
  refine h1 _ _ ?_
  try clear h1 K_h1
  refine T.seq_k (fun K_h1 h1 => ?_)
  refine T.seq_k (fun K_h2 h2 => ?_)
  refine T.regi hm ?_
  simp only [↓reduceIte, namesOf, List.any, I.names, aopsI, astep, ev, setd, List.set, List.getD, List.getElem?_cons_zero, List.getElem?_cons_succ, then_normal, Option.getD_some, Bool.or_false, Bool.false_eq_true, up_zero, Bool.not_true]
  refine h2 _ _ ?_
  try clear h2 K_h2
  refine T.cond rfl (fun h => by cases h) (fun _ => T.skip ?_)
  refine h1 _ _ ?_
  try clear h1 K_h1
  have hup : Up (natI (firsts l)) := by
    by_cases hu : Up (natI (firsts l))
    · exact hu
    · have := firsts_up hof; rw [risesB_no hu] at this; cases this
  have hln : (natI (firsts l)).length ≤ 300 := by rw [natI_len, firsts_len]; exact h300
  refine T.seq_k (fun K_h1 h1 => ?_)
  refine T.regt hm (tbl := []) Tbl.ok_nil ?_
  refine aopsT_cut 9 (fun K_c h_c => ?_)
  try simp only [↓reduceIte, namesOf, List.any, I.names, aopsT, qstep, CPt, Tbl.get, astep, ev, setd, List.set, List.getD, List.getElem?_cons_zero, List.getElem?_cons_succ, Option.getD_some, Bool.or_false, Bool.false_eq_true, up_zero, List.map_cons, List.map_nil, eq_self, List.take_succ_cons, List.take_zero, eqIv, Bool.bne_false]
  refine (ids_ok (by omega)).mono ?_
  rintro v σ5 ⟨rfl, rfl⟩
  try simp only [eq_self, decide_true, decide_true]
  refine h_c _ _ ?_
  clear h_c K_c
  simp only [List.drop_succ_cons, List.drop_zero, Nat.zero_add]
  refine aopsT_cut 5 (fun K_c h_c => ?_)
  try simp only [↓reduceIte, aopsT, qstep, CPt, Tbl.get, astep, ev, setd, List.set, List.getD, List.getElem?_cons_zero, List.getElem?_cons_succ, Option.getD_some, List.map_cons, List.map_nil, eq_self, List.take_succ_cons, List.take_zero]
  refine (ifind_ok (by omega)).mono ?_
  rintro v s2 ⟨c, hc, rfl, hlo, hhi, rfl⟩
  try simp only [↓reduceIte, namesOf, List.any, I.names, aops, aopsI, aopsT, qstep, CPt, qget, Tbl.get, astep, ev, setd, List.set, List.getD, List.getElem?_cons_zero, List.getElem?_cons_succ, List.getElem?_nil, List.cons_append, List.nil_append, List.length_cons, List.length_nil, List.replicate, then_normal, inBlock_normal, Option.getD_some, Option.getD_none, Bool.or_false, Bool.or_true, Bool.true_or, Bool.false_or, Bool.false_eq_true, if_false, if_true, up_zero, Nat.reduceAdd, Nat.reduceSub, binv, ↓opt_def, AV.isAny, AV.cells, ldc, List.map_cons, List.map_nil, St.set_next, St.set_same, St.up_next, Int.natCast_nonneg, lt_len, le_len, Int.toNat_natCast, true_and, and_true, eq_self, reduceCtorEq, decide_true, List.length_singleton, er_int, er_bool, er_str, up_zero]
  refine h_c _ _ ?_
  clear h_c K_c
  simp only [List.drop_succ_cons, List.drop_zero, Nat.reduceAdd]
  refine aopsT_cut 3 (fun K_c h_c => ?_)
  try simp only [↓reduceIte, aopsT, qstep, CPt, Tbl.get, astep, ev, setd, List.set, List.getD, List.getElem?_cons_zero, List.getElem?_cons_succ, Option.getD_some, List.map_cons, List.map_nil, eq_self, List.take_succ_cons, List.take_zero]
  refine (rfindB_ok (by omega)).mono ?_
  rintro v s3 ⟨rfl, rfl⟩
  rw [find_doc hup hc hlo hhi]
  try simp only [↓reduceIte, namesOf, List.any, I.names, aops, aopsI, aopsT, qstep, CPt, qget, Tbl.get, astep, ev, setd, List.set, List.getD, List.getElem?_cons_zero, List.getElem?_cons_succ, List.getElem?_nil, List.cons_append, List.nil_append, List.length_cons, List.length_nil, List.replicate, then_normal, inBlock_normal, Option.getD_some, Option.getD_none, Bool.or_false, Bool.or_true, Bool.true_or, Bool.false_or, Bool.false_eq_true, if_false, if_true, up_zero, Nat.reduceAdd, Nat.reduceSub, binv, ↓opt_def, AV.isAny, AV.cells, ldc, List.map_cons, List.map_nil, St.set_next, St.set_same, St.up_next, Int.natCast_nonneg, lt_len, le_len, Int.toNat_natCast, true_and, and_true, eq_self, reduceCtorEq, decide_true, List.length_singleton, er_int, er_bool, er_str, up_zero]
  refine h_c _ _ ?_
  clear h_c K_c
  simp only [List.drop_succ_cons, List.drop_zero, Nat.reduceAdd]
  try simp only [↓reduceIte, aopsT, qstep, astep, ev, setd, List.set, List.getD, List.getElem?_cons_zero, List.getElem?_cons_succ, then_normal, Option.getD_some, binv, ↓opt_def, eq_self, beq_self_eq_true]
  refine h1 _ _ ?_
  try clear h1 K_h1
  exact T.ret (Fin.ret rfl ⟨rfl, rfl⟩)
end Go.VL

namespace Go.Proofs.Ytlbnimbgodmagaa
open Go.ChangeShapes Go.WideShapes Go.ChangeAt Go.RowKit Go.VL

set_option maxRecDepth 100000 in
theorem indexOf_lifted (os : Os) (started : os.Started) (H : Type) (enc : TypeId × Value → H) :
    ReturnsInHanded {} Try.checked os n_indexOf .any (Rows.indexOfSpec.pre6 enc Try.prog Try.f4 Rows.indexOfRow.domain false) (Rows.indexOfSpec.post enc Try.prog Try.f4 false true false false) := by
  refine returnsInHanded_of_change (C := Try.checked) own started (by kernel_rfl) Try.func4
    (ChangeSpec.witness6 (enc := enc) (C := Try.checked) false ⟨#[], #[.slice none 0 0, .int .u64 0], []⟩ 8 (by kernel_rfl) (by kernel_rfl) (by kernel_rfl) (by kernel_rfl)) ?_
  intro W base args ds gs before hval0 hW hcnd _
  refine law_calls 7 (tb := 4) laidOut (by kernel_rfl) rfl (by kernel_rfl) (by kernel_rfl) (fun ds hds => ?_) (fun xs hxs => ?_) hval0 hW
  · match ds, hds with
    | [d1, d2], _ => rfl
  · have hxs' : HasAll Try.prog 7 [_, _] xs := hxs
    cases hxs' with
    | cons h1 r =>
      cases r with
      | cons h2 r =>
        cases r
        obtain ⟨ys, rfl, hlen, h1⟩ := has_slice pages_ty h1
        obtain ⟨l, rfl, hl⟩ := pages_of tys h1
        obtain ⟨m, rfl, _, _⟩ := has_int tys.h1 h2
        rw [maxLen_eq, pgs_len] at hlen
        exact (indexOf_ok ⟨hlen, fun p hp => ⟨(hl p hp).1, fun t ht => ⟨((hl p hp).2 t ht).1, ((hl p hp).2 t ht).2.1⟩⟩⟩).mono fun v _ ⟨e, _⟩ => e

theorem indexOf_holds : Rows.IndexOfSaid :=
  OpenClaim.holds_of_wide n_indexOf Try.f4 rfl rfl rfl rfl rfl rfl rfl ⟨rfl, rfl, rfl, rfl, rfl⟩ rfl rfl rfl rfl rfl (by kernel_rfl) Try.func4 (by kernel_rfl)
    (of_decide_eq_true (by kernel_rfl)) (by unfold Func.isWrapper; first | (rw [if_pos (by decide +kernel)]; kernel_rfl) | (rw [if_neg (by decide +kernel)]; exact ⟨rfl, rfl⟩))
    (fun os started H enc _ => indexOf_lifted os started H enc)
end Go.Proofs.Ytlbnimbgodmagaa
