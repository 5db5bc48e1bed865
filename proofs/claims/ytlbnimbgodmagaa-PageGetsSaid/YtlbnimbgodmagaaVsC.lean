/- Contracts: the document's gathering. -/
import Derived.Test.YtlbnimbgodmagaaVsB
namespace Go.VL
open Go.Proofs

theorem out_false {l : List Sp} {x : Sp} {i k : Nat} (hx : l[i]? = some x) (hk : k < l.length) (h : outAt l x i k = true) : countsB l i = false := by
  unfold countsB
  rw [hx]
  simp only
  rw [Bool.eq_false_iff]
  intro hh
  have := List.all_eq_true.1 hh k (by simpa using hk)
  rw [h] at this; cases this
theorem range_all {p : Nat → Bool} {i : Nat} (h : (List.range i).all p = true) (hp : p i = true) : (List.range (i + 1)).all p = true := by
  rw [List.range_succ, List.all_append, h]; simp [hp]

set_option maxRecDepth 10000 in
set_option maxHeartbeats 2000000 in
theorem rcounts_ok {l : List Sp} {g : Ver} {i : Nat} {σ : St} (hl : l.length ≤ 9223372036854775807) (hi : i < l.length) : ACalls Try.prog n_rcounts [.sl (spsAV l) g, .int .i64 (i : Int)] σ (fun v σ' => v = .bool (countsB l i) ∧ σ' = σ) := by
  refine s_rcounts (fun wf => ?_)
  unfold c_rcounts
  generalize hx : l[i] = x
  have hxi : l[i]? = some x := by rw [← hx]; simp [hi]
  refine T.seq_k (fun K_h1 h1 => ?_)
  refine T.regi hm ?_
  simp only [↓reduceIte, namesOf, List.any, I.names, aopsI, astep, ev, setd, List.set, List.cons_append, List.nil_append, List.length_cons, List.length_nil, List.replicate, then_normal, Bool.or_false, Bool.false_eq_true, up_zero, Nat.reduceAdd, Nat.reduceSub]
  refine h1 _ _ ?_
  try clear h1 K_h1
  refine T.seq_k (fun K_h1 h1 => ?_)
  refine T.seq_k (fun K_h2 h2 => ?_)
  refine T.regi hm ?_
  simp only [↓reduceIte, namesOf, List.any, I.names, aopsI, astep, ev, setd, List.set, then_normal, Bool.or_false, Bool.false_eq_true, up_zero]
  refine h2 _ _ ?_
  try clear h2 K_h2
  refine T.block ?_
  refine T.gh (Gh.keep [0, 1, 5]) ?_
  refine T.loopi (fun k ρ σ' => σ' = σ ∧ (List.range k).all (fun j => !outAt l x i j) = true ∧ ρ = [.sl (spsAV l) g, .int .i64 (i : Int), .any, .any, .any, .int .i64 (k : Int)] ++ List.replicate 59 .any)
    l.length 0 (Nat.zero_le _) ⟨rfl, rfl, rfl⟩ ?_
  rintro k ρ σ' hk ⟨rfl, hpre, rfl⟩
  refine T.seq_k (fun K_h2 h2 => ?_)
  refine T.seq_k (fun K_h3 h3 => ?_)
  refine T.regi hm ?_
  simp only [↓reduceIte, namesOf, List.any, I.names, aopsI, astep, ev, setd, List.set, List.getD, List.getElem?_cons_zero, List.getElem?_cons_succ, List.cons_append, List.nil_append, List.replicate, then_normal, Option.getD_some, Bool.or_false, Bool.false_eq_true, up_zero, binv, ↓opt_def, lt_len, eq_self, sps_len]
  refine h3 _ _ ?_
  try clear h3 K_h3
  refine T.cond rfl (fun hb => ?_) (fun hb => ?_)
  · refine T.skip ?_
    refine h2 _ _ ?_
    try clear h2 K_h2
    have hkl : k < l.length := by simpa using hb
    clear hb
    generalize hy : l[k] = y
    have hyk : l[k]? = some y := by rw [← hy]; simp [hkl]
    have hw := inc64 hkl hl
    refine T.seq_k (fun K_h2 h2 => ?_)
    refine T.block ?_
    refine T.seq_k (fun K_h3 h3 => ?_)
    refine T.seq_k (fun K_h4 h4 => ?_)
    have step : outAt l x i k = false → ∀ ρ' : List AV, keep [0, 1, 5] 0 ρ' = [.sl (spsAV l) g, .int .i64 (i : Int), .any, .any, .any, .int .i64 (((k : Nat) + 1 : Nat) : Int)] ++ List.replicate 59 .any →
        (k < l.length ∧ ∃ ρ'' σ'', Gh ρ' σ' ρ'' σ'' ∧ σ'' = σ' ∧ (List.range (k + 1)).all (fun j => !outAt l x i j) = true ∧ ρ'' = [.sl (spsAV l) g, .int .i64 (i : Int), .any, .any, .any, .int .i64 (((k : Nat) + 1 : Nat) : Int)] ++ List.replicate 59 .any) := by
      intro ho ρ' hρ
      exact ⟨hkl, _, _, Gh.keep [0, 1, 5], rfl, range_all hpre (by simp [ho]), hρ⟩
    by_cases c1 : y.tr = x.tr
    case neg =>
      have e1 : ((y.tr : Int) != (x.tr : Int)) = true := by simp; omega
      refine T.regi hm ?_
      simp only [↓reduceIte, namesOf, List.any, I.names, aopsI, astep, ev, setd, List.set, List.getD, List.getElem?_cons_zero, List.getElem?_cons_succ, List.cons_append, List.nil_append, List.length_cons, List.length_nil, List.replicate, then_normal, Option.getD_some, Bool.or_false, Bool.false_eq_true, up_zero, Nat.reduceAdd, binv, ↓opt_def, AV.cells, ldc, Int.natCast_nonneg, lt_len, Int.toNat_natCast, true_and, and_true, eq_self, reduceCtorEq, decide_true, sps_len, sps_get hkl, sps_get hi, hkl, hi, hx, hy, spav, Nat.zero_add, List.drop, e1, reduceCtorEq]
      refine h4 _ _ ?_
      try clear h4 K_h4
      refine T.cond rfl (fun _ => ?_) (fun h => by cases h)
      refine T.exit ?_
      try simp only [List.cons_append, List.nil_append, List.replicate, then_normal, then_exit, inBlock_exit]
      refine h2 _ _ ?_
      try clear h2 K_h2
      refine T.regi hm ?_
      simp only [↓reduceIte, namesOf, List.any, I.names, aopsI, astep, ev, setd, List.set, List.getD, List.getElem?_cons_zero, List.getElem?_cons_succ, List.cons_append, List.nil_append, List.replicate, then_normal, Option.getD_some, Bool.or_false, Bool.false_eq_true, up_zero, binv, ↓opt_def, eq_self, hw]
      exact step (by unfold outAt; rw [hyk]; simp [c1]) _ rfl
    have e1 : ((y.tr : Int) != (x.tr : Int)) = false := by simp; omega
    by_cases c2 : y.id = x.id
    case neg =>
      have e2 : ((y.id : Int) != (x.id : Int)) = true := by simp; omega
      refine T.regi hm ?_
      simp only [↓reduceIte, namesOf, List.any, I.names, aopsI, astep, ev, setd, List.set, List.getD, List.getElem?_cons_zero, List.getElem?_cons_succ, List.cons_append, List.nil_append, List.length_cons, List.length_nil, List.replicate, then_normal, Option.getD_some, Bool.or_false, Bool.false_eq_true, up_zero, Nat.reduceAdd, binv, ↓opt_def, AV.cells, ldc, Int.natCast_nonneg, lt_len, Int.toNat_natCast, true_and, and_true, eq_self, decide_true, sps_len, sps_get hkl, sps_get hi, hkl, hi, hx, hy, spav, Nat.zero_add, List.drop, e1, e2]
      refine h4 _ _ ?_
      try clear h4 K_h4
      refine T.cond rfl (fun _ => ?_) (fun h => by cases h)
      refine T.exit ?_
      try simp only [List.cons_append, List.nil_append, List.replicate, then_normal, then_exit, inBlock_exit]
      refine h2 _ _ ?_
      try clear h2 K_h2
      refine T.regi hm ?_
      simp only [↓reduceIte, namesOf, List.any, I.names, aopsI, astep, ev, setd, List.set, List.getD, List.getElem?_cons_zero, List.getElem?_cons_succ, List.cons_append, List.nil_append, List.replicate, then_normal, Option.getD_some, Bool.or_false, Bool.false_eq_true, up_zero, binv, ↓opt_def, eq_self, hw]
      exact step (by unfold outAt; rw [hyk]; simp [c2]) _ rfl
    have e2 : ((y.id : Int) != (x.id : Int)) = false := by simp; omega
    refine T.regi hm ?_
    simp only [↓reduceIte, namesOf, List.any, I.names, aopsI, astep, ev, setd, List.set, List.getD, List.getElem?_cons_zero, List.getElem?_cons_succ, List.cons_append, List.nil_append, List.length_cons, List.length_nil, List.replicate, then_normal, Option.getD_some, Bool.or_false, Bool.false_eq_true, up_zero, Nat.reduceAdd, binv, ↓opt_def, AV.cells, ldc, Int.natCast_nonneg, lt_len, Int.toNat_natCast, true_and, and_true, eq_self, decide_true, sps_len, sps_get hkl, sps_get hi, hkl, hi, hx, hy, spav, Nat.zero_add, List.drop, e1, e2]
    refine h4 _ _ ?_
    try clear h4 K_h4
    refine T.cond rfl (fun h => by cases h) (fun _ => T.skip ?_)
    refine h3 _ _ ?_
    try clear h3 K_h3
    have hge := gLess_eq y x
    have hge2 := gSame_eq y x
    refine T.seq_k (fun K_h3 h3 => ?_)
    refine T.regt hm tG_ok ?_
    simp only [↓reduceIte, namesOf, List.any, I.names, aopsT, qstep, qget, Tbl.get, astep, ev, setd, List.set, List.getD, List.getElem?_cons_zero, List.getElem?_cons_succ, List.cons_append, List.nil_append, List.length_cons, List.length_nil, List.replicate, then_normal, Option.getD_some, Bool.or_false, Bool.false_eq_true, up_zero, Nat.reduceAdd, ↓opt_def, AV.cells, ldc, List.map_cons, List.map_nil, Int.natCast_nonneg, lt_len, Int.toNat_natCast, true_and, and_true, eq_self, tG, n_rless, n_rsame, n_rahead, sps_len, sps_get hkl, sps_get hi, hkl, hi, hx, hy, spav, Nat.zero_add, List.take, List.drop, Nat.reduceLeDiff, hge]
    refine h3 _ _ ?_
    try clear h3 K_h3
    refine T.seq_k (fun K_h3 h3 => ?_)
    refine T.regt hm tG_ok ?_
    simp only [↓reduceIte, namesOf, List.any, I.names, aopsT, qstep, qget, Tbl.get, astep, ev, setd, List.set, List.getD, List.getElem?_cons_zero, List.getElem?_cons_succ, List.cons_append, List.nil_append, List.length_cons, List.length_nil, List.replicate, then_normal, Option.getD_some, Bool.or_false, Bool.false_eq_true, up_zero, Nat.reduceAdd, ↓opt_def, AV.cells, ldc, List.map_cons, List.map_nil, Int.natCast_nonneg, lt_len, Int.toNat_natCast, true_and, and_true, eq_self, Nat.reduceEqDiff, tG, n_rless, n_rsame, n_rahead, sps_len, sps_get hkl, sps_get hi, hkl, hi, hx, hy, spav, Nat.zero_add, List.take, List.drop, Nat.reduceLeDiff, hge2]
    refine h3 _ _ ?_
    try clear h3 K_h3
    refine T.seq_k (fun K_h3 h3 => ?_)
    have bad : outAt l x i k = true → ∀ ρ' : List AV, ρ'.getD 4 .any = .bool false → Fin σ' [.t 4] (fun v σ'' => v = .bool (countsB l i) ∧ σ'' = σ') .ret ρ' σ' := by
      intro ho ρ' hρ
      exact Fin.ret (xs := [ρ'.getD 4 .any]) rfl ⟨by rw [out_false hxi hkl ho, hρ]; rfl, rfl⟩
    cases c3 : lessS y x with
    | true =>
      refine T.regi hm ?_
      simp only [↓reduceIte, namesOf, List.any, I.names, aopsI, astep, ev, setd, List.set, List.getD, List.getElem?_cons_zero, List.getElem?_cons_succ, List.cons_append, List.nil_append, List.replicate, then_normal, Option.getD_some, Bool.or_false, Bool.false_eq_true, up_zero, eq_self, reduceCtorEq, reduceCtorEq]
      refine h3 _ _ ?_
      try clear h3 K_h3
      refine T.cond rfl (fun _ => ?_) (fun h => by cases h)
      refine T.seq_k (fun K_h3 h3 => ?_)
      refine T.regi hm ?_
      simp only [↓reduceIte, namesOf, List.any, I.names, aopsI, astep, ev, setd, List.set, List.cons_append, List.nil_append, List.replicate, then_normal, Bool.or_false, Bool.false_eq_true, up_zero]
      refine h3 _ _ ?_
      try clear h3 K_h3
      exact T.ret (bad (by unfold outAt; rw [hyk]; simp [c1, c2, c3]) _ rfl)
    | false =>
    by_cases c4 : y = x
    case neg =>
      have e4 : decide (y = x) = false := decide_eq_false c4
      refine T.regi hm ?_
      simp only [↓reduceIte, namesOf, List.any, I.names, aopsI, astep, ev, setd, List.set, List.getD, List.getElem?_cons_zero, List.getElem?_cons_succ, List.cons_append, List.nil_append, List.replicate, then_normal, Option.getD_some, Bool.or_false, Bool.false_eq_true, up_zero, eq_self, e4]
      refine h3 _ _ ?_
      try clear h3 K_h3
      refine T.cond rfl (fun h => by cases h) (fun _ => T.skip ?_)
      try simp only [List.cons_append, List.nil_append, List.replicate, then_normal, inBlock_normal, inBlock_normal]
      refine h2 _ _ ?_
      try clear h2 K_h2
      refine T.regi hm ?_
      simp only [↓reduceIte, namesOf, List.any, I.names, aopsI, astep, ev, setd, List.set, List.getD, List.getElem?_cons_zero, List.getElem?_cons_succ, List.cons_append, List.nil_append, List.replicate, then_normal, Option.getD_some, Bool.or_false, Bool.false_eq_true, up_zero, binv, ↓opt_def, eq_self, hw]
      exact step (by unfold outAt; rw [hyk]; simp [c1, c2, c3, c4]) _ rfl
    have e4 : decide (y = x) = true := decide_eq_true c4
    by_cases c5 : k < i
    · have e5 : decide ((k : Int) < (i : Int)) = true := decide_eq_true (by omega)
      have e5' : decide (k < i) = true := decide_eq_true c5
      refine T.regi hm ?_
      simp only [↓reduceIte, namesOf, List.any, I.names, aopsI, astep, ev, setd, List.set, List.getD, List.getElem?_cons_zero, List.getElem?_cons_succ, List.cons_append, List.nil_append, List.replicate, then_normal, Option.getD_some, Bool.or_false, Bool.false_eq_true, up_zero, binv, ↓opt_def, eq_self, e4, e5]
      refine h3 _ _ ?_
      try clear h3 K_h3
      refine T.cond rfl (fun _ => ?_) (fun h => by cases h)
      refine T.seq_k (fun K_h3 h3 => ?_)
      refine T.regi hm ?_
      simp only [↓reduceIte, namesOf, List.any, I.names, aopsI, astep, ev, setd, List.set, List.cons_append, List.nil_append, List.replicate, then_normal, Bool.or_false, Bool.false_eq_true, up_zero]
      refine h3 _ _ ?_
      try clear h3 K_h3
      exact T.ret (bad (by unfold outAt; rw [hyk]; simp [c4, c5]) _ rfl)
    · have e5 : decide ((k : Int) < (i : Int)) = false := decide_eq_false (by omega)
      have e5' : decide (k < i) = false := decide_eq_false c5
      refine T.regi hm ?_
      simp only [↓reduceIte, namesOf, List.any, I.names, aopsI, astep, ev, setd, List.set, List.getD, List.getElem?_cons_zero, List.getElem?_cons_succ, List.cons_append, List.nil_append, List.replicate, then_normal, Option.getD_some, Bool.or_false, Bool.false_eq_true, up_zero, binv, ↓opt_def, eq_self, e4, e5]
      refine h3 _ _ ?_
      try clear h3 K_h3
      refine T.cond rfl (fun h => by cases h) (fun _ => T.skip ?_)
      try simp only [List.cons_append, List.nil_append, List.replicate, then_normal, inBlock_normal, inBlock_normal]
      refine h2 _ _ ?_
      try clear h2 K_h2
      refine T.regi hm ?_
      simp only [↓reduceIte, namesOf, List.any, I.names, aopsI, astep, ev, setd, List.set, List.getD, List.getElem?_cons_zero, List.getElem?_cons_succ, List.cons_append, List.nil_append, List.replicate, then_normal, Option.getD_some, Bool.or_false, Bool.false_eq_true, up_zero, binv, ↓opt_def, eq_self, hw]
      exact step (by unfold outAt; rw [hyk]; simp [c4, c5, less_irr]) _ rfl
  · refine T.exit ?_
    have : k = l.length := by simp at hb; omega
    subst this
    try simp only [List.cons_append, List.nil_append, List.replicate, then_normal, inBlock_exit, then_exit]
    refine h1 _ _ ?_
    try clear h1 K_h1
    refine T.seq_k (fun K_h1 h1 => ?_)
    refine T.regi hm ?_
    simp only [↓reduceIte, namesOf, List.any, I.names, aopsI, astep, ev, setd, List.set, then_normal, Bool.or_false, Bool.false_eq_true, up_zero]
    refine h1 _ _ ?_
    try clear h1 K_h1
    refine T.ret (Fin.ret rfl ⟨?_, rfl⟩)
    have : countsB l i = true := by unfold countsB; rw [hxi]; exact hpre
    rw [this]; rfl

/-- an end that is owned, and what was owned ahead of it -/
structure Tp (σ σ' : St) (g k : Nat) : Prop where
  lo : σ.next ≤ g
  hi : g < σ'.next
  at_ : σ'.res g = some (.tip k)
  old : ∀ n x, σ.res n = some x → σ'.res n = some x
theorem Tp.new {σ σ' : St} {k n i : Nat} (wf : WF σ) (hn : σ.next ≤ σ'.next) (ho : ∀ n x, σ.res n = some x → σ'.res n = some x) (hi : i < n) : Tp σ ((σ'.up n).set (σ'.next + i) (.tip k)) (σ'.next + i) k :=
  ⟨by omega, by simp; omega, by simp, set_quiet wf hn ho _ (by omega)⟩
theorem Tp.mv {σ σ' : St} {g g2 k : Nat} (wf : WF σ) (h : Tp σ σ' g k) (hlo : σ.next ≤ g2) (hhi : g2 < σ'.next) : Tp σ ((σ'.del g).set g2 (.tip k)) g2 k :=
  ⟨hlo, by simpa using hhi, by simp, fun n x hr => by
    have hn : n < σ.next := by
      rcases Nat.lt_or_ge n σ.next with h' | h'
      · exact h'
      · rw [wf n h'] at hr; cases hr
    have h1 := h.lo
    rw [St.set_other _ _ (by omega)]
    simp only [St.del]
    rw [if_neg (by omega)]; exact h.old n x hr⟩
theorem Tp.up {σ σ' : St} {g k : Nat} (h : Tp σ σ' g k) (n : Nat) : Tp σ (σ'.up n) g k := ⟨h.lo, Nat.lt_of_lt_of_le h.hi (Nat.le_add_right _ _), h.at_, h.old⟩

theorem sps_fits (l : List Sp) : (spsAV l).all (AV.fits 5) = true := by
  simp [spsAV, Sp.av, AV.fits, AV.isAny, AV.cells, AV.one]
theorem sps_er (l : List Sp) : (spsAV l).map AV.er = spsAV l := by
  simp only [spsAV, List.map_map]
  apply List.map_congr_left
  intro t _
  rfl
theorem sps_app (a b : List Sp) : spsAV a ++ spsAV b = spsAV (a ++ b) := by simp [spsAV]
theorem sps_take (a : List Sp) (n : Nat) : (spsAV a).take n = spsAV (a.take n) := by simp [spsAV, List.map_take]
theorem sps_drop (a : List Sp) (n : Nat) : (spsAV a).drop n = spsAV (a.drop n) := by simp [spsAV, List.map_drop]
theorem nbs_sps (m : Nat) (l : List Sp) : nbs m (spsAV l) := by
  rw [nbs_iff]
  intro y hy
  obtain ⟨s, _, rfl⟩ := List.mem_map.1 hy
  simp only [Sp.av, AV.nb, nbs, true_and, and_true, Ver.nb]
  exact (nb_bytes m s.da)
end Go.VL
