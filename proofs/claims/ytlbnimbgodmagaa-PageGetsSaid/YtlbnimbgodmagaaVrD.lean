/- Contracts: lists of canonical traces; rows put together. -/
import Derived.Test.YtlbnimbgodmagaaVrC
namespace Go.VL
open Go.Proofs

theorem bytesAV_inj {a b : List UInt8} (h : bytesAV a = bytesAV b) : a = b := by
  have := congrArg toBytes h
  rw [toBytes_bytes, toBytes_bytes] at this
  exact Option.some.inj this
theorem spav_inj {a b : Sp} (h : a.av = b.av) : a = b := by
  obtain ⟨a1, a2, a3, a4, a5⟩ := a
  obtain ⟨b1, b2, b3, b4, b5⟩ := b
  simp only [Sp.av, AV.agg.injEq, List.cons.injEq, AV.int.injEq, true_and, AV.sl.injEq, and_true] at h
  obtain ⟨h1, h2, h3, h4, h5⟩ := h
  simp only [Sp.mk.injEq]
  exact ⟨by omega, by omega, h3, h4, bytesAV_inj h5⟩
theorem spsAV_inj : ∀ {a b : List Sp}, spsAV a = spsAV b → a = b
  | [], [], _ => rfl
  | [], _ :: _, h => by cases h
  | _ :: _, [], h => by cases h
  | x :: a, y :: b, h => by
    simp only [spsAV, List.map_cons, List.cons.injEq] at h
    rw [spav_inj h.1, spsAV_inj (a := a) (b := b) h.2]

open Classical in
noncomputable def g_one (args : List AV) : Option AV :=
  if h : ∃ t : Tc, args = [.agg [.int .u64 (t.id : Int), .sl (spsAV t.sp) .none]] ∧ t.sp.length ≤ 9223372036854775807 then some (.bool (oneB h.choose)) else none
theorem one_inj {t c : Tc} (h : [AV.agg [.int .u64 (t.id : Int), .sl (spsAV t.sp) .none]] = [.agg [.int .u64 (c.id : Int), .sl (spsAV c.sp) .none]]) : c = t := by
  simp only [List.cons.injEq, and_true, AV.agg.injEq, AV.int.injEq, true_and, AV.sl.injEq] at h
  obtain ⟨i, sp⟩ := t
  obtain ⟨j, sq⟩ := c
  simp only at h
  have e1 : i = j := Int.ofNat.inj h.1
  have e2 := spsAV_inj h.2
  rw [e1, e2]
theorem g_one_eq {t : Tc} (hl : t.sp.length ≤ 9223372036854775807) : g_one [.agg [.int .u64 (t.id : Int), .sl (spsAV t.sp) .none]] = some (.bool (oneB t)) := by
  unfold g_one
  have hex : ∃ t' : Tc, [AV.agg [.int .u64 (t.id : Int), .sl (spsAV t.sp) .none]] = [.agg [.int .u64 (t'.id : Int), .sl (spsAV t'.sp) .none]] ∧ t'.sp.length ≤ 9223372036854775807 := ⟨t, rfl, hl⟩
  rw [dif_pos hex]
  have this : hex.choose = t := one_inj hex.choose_spec.1
  rw [this]
theorem one_pure : PureC Try.prog n_one g_one := by
  intro args σ v h
  unfold g_one at h
  split at h
  · rename_i hex
    simp only [Option.some.injEq] at h; subst h
    have hc := hex.choose_spec
    generalize hex.choose = c at hc
    obtain ⟨rfl, hl⟩ := hc
    exact tone_ok hl
  · cases h
noncomputable def tO : Tbl := [(n_one, g_one)]
theorem tO_ok : tO.ok Try.prog := Tbl.ok_cons one_pure Tbl.ok_nil

def isAt (l : List Tc) (i : Nat) : Bool := match l[i]? with
  | some t => oneB t && (i == 0 || (match l[i - 1]? with | some p => decide (p.id < t.id) | none => false))
  | none => false
def isB (l : List Tc) : Bool := (List.range l.length).all (isAt l)
theorem is_false {l : List Tc} {i : Nat} (hi : i < l.length) (h : isAt l i = false) : isB l = false := by
  unfold isB
  rw [Bool.eq_false_iff]
  intro hh
  have := List.all_eq_true.1 hh i (by simpa using hi)
  rw [h] at this; cases this

theorem tcav' (t : Tc) : t.av = .agg [.int .u64 (t.id : Int), .sl (spsAV t.sp) .none] := rfl

set_option maxRecDepth 10000 in
theorem is_ok {l : List Tc} {g : Ver} {σ : St} (hl : l.length ≤ 9223372036854775807) (hs : ∀ t ∈ l, t.sp.length ≤ 9223372036854775807) : ACalls Try.prog n_is [.sl (tcsAV l) g] σ (fun v σ' => v = .bool (isB l) ∧ σ' = σ) := by
  refine s_is (fun wf => ?_)
  unfold c_is
  refine T.seq_k (fun K_h1 h1 => ?_)
  refine T.regi hm ?_
  simp only [↓reduceIte, namesOf, List.any, I.names, aopsI, astep, ev, setd, List.set, List.cons_append, List.nil_append, List.length_cons, List.length_nil, List.replicate, then_normal, Bool.or_false, Bool.false_eq_true, up_zero, Nat.reduceAdd, Nat.reduceSub]
  refine h1 _ _ ?_
  try clear h1 K_h1
  refine T.seq_k (fun K_h1 h1 => ?_)
  refine T.seq_k (fun K_h2 h2 => ?_)
  refine T.regi hm ?_
  simp only [↓reduceIte, namesOf, List.any, I.names, aopsI, astep, ev, setd, List.set, List.getD, List.getElem?_cons_zero, List.getElem?_cons_succ, then_normal, Option.getD_some, Bool.or_false, Bool.false_eq_true, up_zero, tcs_len]
  refine h2 _ _ ?_
  try clear h2 K_h2
  refine T.block ?_
  refine T.gh (Gh.keep [0, 5, 6, 7]) ?_
  refine T.loopi (fun i ρ σ' => σ.next ≤ σ'.next ∧ (∀ n x, σ.res n = some x → σ'.res n = some x) ∧ (List.range i).all (isAt l) = true ∧ ρ = [.sl (tcsAV l) g, .any, .any, .any, .any, .sl (tcsAV l) g, .int .i64 (l.length : Int), .int .i64 (i : Int)] ++ List.replicate 23 .any)
    l.length 0 (Nat.zero_le _) ⟨Nat.le_refl _, fun _ _ h => h, rfl, rfl⟩ ?_
  rintro i ρ σ' hi ⟨hn, ho, hpre, rfl⟩
  refine T.seq_k (fun K_h2 h2 => ?_)
  refine T.regi hm ?_
  simp only [↓reduceIte, namesOf, List.any, I.names, aopsI, astep, ev, setd, List.set, List.getD, List.getElem?_cons_zero, List.getElem?_cons_succ, List.cons_append, List.nil_append, List.replicate, then_normal, Option.getD_some, Bool.or_false, Bool.false_eq_true, up_zero, binv, ↓opt_def, lt_len, eq_self]
  refine h2 _ _ ?_
  try clear h2 K_h2
  refine T.seq_k (fun K_h2 h2 => ?_)
  refine T.cond rfl (fun hb => ?_) (fun hb => ?_)
  · refine T.skip ?_
    refine h2 _ _ ?_
    try clear h2 K_h2
    have hil : i < l.length := by simpa using hb
    clear hb
    generalize ht : l[i] = t
    have hti : l[i]? = some t := by rw [← ht]; simp [hil]
    have htl : t.sp.length ≤ 9223372036854775807 := by rw [← ht]; exact hs _ (List.getElem_mem hil)
    refine T.seq_k (fun K_h2 h2 => ?_)
    refine T.block ?_
    refine T.seq_k (fun K_h3 h3 => ?_)
    refine T.regi hm ?_
    simp only [↓reduceIte, namesOf, List.any, I.names, aopsI, astep, ev, setd, List.set, List.getD, List.getElem?_cons_zero, List.getElem?_cons_succ, List.cons_append, List.nil_append, List.length_cons, List.length_nil, List.replicate, then_normal, Option.getD_some, Bool.or_false, Bool.or_true, Nat.reduceAdd, ↓opt_def, AV.isAny, AV.cells, ldc, St.set_same, Int.natCast_nonneg, lt_len, Int.toNat_natCast, true_and, and_true, eq_self, decide_true, tcs_len, tcs_get hil, hil, ht, tcav', AV.fits, AV.one, List.all_cons, List.all_nil, Nat.reduceBEq, Bool.not_false, Bool.and_self, Nat.zero_add, splice, List.take, List.drop, Nat.reduceLeDiff, St.set_set]
    have ho2 := set_quiet wf hn ho (k := 6) (.obj [.int .u64 (t.id : Int), .sl (spsAV t.sp) .none]) (a := σ'.next + 3) (by omega)
    have hb5 : ((σ'.up 6).set (σ'.next + 3) (.obj [.int .u64 (t.id : Int), .sl (spsAV t.sp) .none])).res (σ'.next + 3) = some (.obj [.int .u64 (t.id : Int), .sl (spsAV t.sp) .none]) := by simp
    have hn2 : σ.next ≤ ((σ'.up 6).set (σ'.next + 3) (.obj [.int .u64 (t.id : Int), .sl (spsAV t.sp) .none])).next := by simp; omega
    generalize ((σ'.up 6).set (σ'.next + 3) (.obj [.int .u64 (t.id : Int), .sl (spsAV t.sp) .none])) = σ2 at ho2 hb5 hn2 ⊢
    generalize σ'.next + 3 = b at hb5 ⊢
    refine h3 _ _ ?_
    try clear h3 K_h3
    have fin : isAt l i = false → ∀ ρ' : List AV, ρ'.getD 2 .any = .bool false → Fin σ [.t 2] (fun v σ' => v = .bool (isB l) ∧ σ' = σ) .ret ρ' σ2 := by
      intro hf ρ' hρ
      refine Fin.quiet (xs := [ρ'.getD 2 .any]) rfl (by rw [hρ]; trivial) ho2 ⟨?_, rfl⟩
      rw [is_false hil hf, hρ]; rfl
    have hge := g_one_eq (t := t) htl
    have hw := inc64 hil hl
    refine T.seq_k (fun K_h3 h3 => ?_)
    cases c1 : oneB t with
    | false =>
      refine T.regt hm tO_ok ?_
      simp only [↓reduceIte, namesOf, List.any, I.names, aopsT, qstep, qget, Tbl.get, astep, ev, setd, List.set, List.getD, List.getElem?_cons_zero, List.getElem?_cons_succ, List.cons_append, List.nil_append, List.length_cons, List.length_nil, List.replicate, then_normal, Option.getD_some, Bool.or_false, Bool.false_eq_true, up_zero, Nat.reduceAdd, ↓opt_def, ldc, List.map_cons, List.map_nil, eq_self, reduceCtorEq, tO, hb5, hge, c1, Bool.not_false, Nat.zero_add, List.take, List.drop, Nat.reduceLeDiff, Bool.not_false, reduceCtorEq]
      refine h3 _ _ ?_
      try clear h3 K_h3
      refine T.cond rfl (fun _ => ?_) (fun h => by cases h)
      refine T.seq_k (fun K_h3 h3 => ?_)
      refine T.regi hm ?_
      simp only [↓reduceIte, namesOf, List.any, I.names, aopsI, astep, ev, setd, List.set, List.cons_append, List.nil_append, List.replicate, then_normal, Bool.or_false, Bool.false_eq_true, up_zero]
      refine h3 _ _ ?_
      try clear h3 K_h3
      exact T.ret (fin (by unfold isAt; simp only [hti, c1, Bool.false_and]) _ rfl)
    | true =>
    cases i with
    | zero =>
      have hz : decide (((0 : Nat) : Int) > 0) = false := rfl
      refine T.regt hm tO_ok ?_
      simp only [↓reduceIte, namesOf, List.any, I.names, aopsT, qstep, qget, Tbl.get, astep, ev, setd, List.set, List.getD, List.getElem?_cons_zero, List.getElem?_cons_succ, List.cons_append, List.nil_append, List.length_cons, List.length_nil, List.replicate, then_normal, Option.getD_some, Bool.or_false, Bool.false_eq_true, up_zero, Nat.reduceAdd, binv, ↓opt_def, ldc, List.map_cons, List.map_nil, eq_self, tO, hb5, hge, c1, Nat.zero_add, List.take, List.drop, Nat.reduceLeDiff, Bool.not_true, hz]
      refine h3 _ _ ?_
      try clear h3 K_h3
      refine T.cond rfl (fun h => by cases h) (fun _ => ?_)
      refine T.skip ?_
      refine h2 _ _ ?_
      try clear h2 K_h2
      refine T.regi hm ?_
      simp only [↓reduceIte, namesOf, List.any, I.names, aopsI, astep, ev, setd, List.set, List.getD, List.getElem?_cons_zero, List.getElem?_cons_succ, List.cons_append, List.nil_append, List.replicate, then_normal, Option.getD_some, Bool.or_false, Bool.false_eq_true, up_zero, Nat.reduceAdd, binv, ↓opt_def, eq_self, hw]
      exact ⟨hil, _, _, Gh.keep [0, 5, 6, 7], hn2, ho2, by simp [isAt, hti, c1], rfl⟩
    | succ j =>
      have hjl : j < l.length := by omega
      generalize hp : l[j] = p
      have hpj : l[j]? = some p := by rw [← hp]; simp [hjl]
      have hz : decide (((j + 1 : Nat) : Int) > 0) = true := decide_eq_true (by omega)
      have hd : IntKind.i64.wrap (((j + 1 : Nat) : Int) - 1) = (j : Int) := by rw [wrap64 (by omega) (by omega)]; omega
      by_cases c4 : p.id < t.id
      · have e4 : decide ((p.id : Int) ≥ (t.id : Int)) = false := decide_eq_false (by omega)
        refine T.regt hm tO_ok ?_
        simp only [↓reduceIte, namesOf, List.any, I.names, aopsT, qstep, qget, Tbl.get, astep, ev, setd, List.set, List.getD, List.getElem?_cons_zero, List.getElem?_cons_succ, List.cons_append, List.nil_append, List.length_cons, List.length_nil, List.replicate, then_normal, Option.getD_some, Bool.or_false, Bool.false_eq_true, up_zero, Nat.reduceAdd, binv, ↓opt_def, AV.cells, ldc, List.map_cons, List.map_nil, Int.natCast_nonneg, lt_len, Int.toNat_natCast, and_true, eq_self, tO, hb5, hge, c1, Nat.zero_add, List.take, List.drop, Nat.reduceLeDiff, Bool.not_true, hz, hd, tcs_len, tcs_get hjl, hjl, hp, tcav', e4]
        refine h3 _ _ ?_
        try clear h3 K_h3
        refine T.cond rfl (fun h => by cases h) (fun _ => ?_)
        refine T.skip ?_
        refine h2 _ _ ?_
        try clear h2 K_h2
        refine T.regi hm ?_
        simp only [↓reduceIte, namesOf, List.any, I.names, aopsI, astep, ev, setd, List.set, List.getD, List.getElem?_cons_zero, List.getElem?_cons_succ, List.cons_append, List.nil_append, List.replicate, then_normal, Option.getD_some, Bool.or_false, Bool.false_eq_true, up_zero, binv, ↓opt_def, eq_self, hw]
        refine ⟨hil, _, _, Gh.keep [0, 5, 6, 7], hn2, ho2, ?_, rfl⟩
        rw [List.range_succ, List.all_append, hpre]; simp [isAt, hti, c1, hpj, c4]
      · have e4 : decide ((p.id : Int) ≥ (t.id : Int)) = true := decide_eq_true (by omega)
        refine T.regt hm tO_ok ?_
        simp only [↓reduceIte, namesOf, List.any, I.names, aopsT, qstep, qget, Tbl.get, astep, ev, setd, List.set, List.getD, List.getElem?_cons_zero, List.getElem?_cons_succ, List.cons_append, List.nil_append, List.length_cons, List.length_nil, List.replicate, then_normal, Option.getD_some, Bool.or_false, Bool.false_eq_true, up_zero, Nat.reduceAdd, binv, ↓opt_def, AV.cells, ldc, List.map_cons, List.map_nil, Int.natCast_nonneg, lt_len, Int.toNat_natCast, and_true, eq_self, tO, hb5, hge, c1, Nat.zero_add, List.take, List.drop, Nat.reduceLeDiff, Bool.not_true, hz, hd, tcs_len, tcs_get hjl, hjl, hp, tcav', e4]
        refine h3 _ _ ?_
        try clear h3 K_h3
        refine T.cond rfl (fun _ => ?_) (fun h => by cases h)
        refine T.seq_k (fun K_h3 h3 => ?_)
        refine T.regi hm ?_
        simp only [↓reduceIte, namesOf, List.any, I.names, aopsI, astep, ev, setd, List.set, List.cons_append, List.nil_append, List.replicate, then_normal, Bool.or_false, Bool.false_eq_true, up_zero]
        refine h3 _ _ ?_
        try clear h3 K_h3
        exact T.ret (fin (by unfold isAt; simp [hti, hpj, c4]) _ rfl)
  · refine T.exit ?_
    have : i = l.length := by simp at hb; omega
    subst this
    try simp only [List.cons_append, List.nil_append, List.replicate, then_normal, inBlock_exit, then_exit]
    refine h1 _ _ ?_
    try clear h1 K_h1
    refine T.seq_k (fun K_h1 h1 => ?_)
    refine T.regi hm ?_
    simp only [↓reduceIte, namesOf, List.any, I.names, aopsI, astep, ev, setd, List.set, then_normal, Bool.or_false, Bool.false_eq_true, up_zero]
    refine h1 _ _ ?_
    try clear h1 K_h1
    exact T.ret (Fin.quiet rfl trivial ho ⟨by rw [show isB l = true from hpre]; rfl, rfl⟩)

/-! ### Rows put together -/
theorem growt_ok {n : Nat} {σ : St} (hn : n ≤ 1000000000) : ACalls Try.prog n_growt [.sl [] .nil, .int .i64 (n : Int)] σ (fun v σ' => (n = 0 ∧ v = .sl [] .nil ∧ σ' = σ) ∨ ∃ g, OneTip σ σ' g 2 ∧ v = .sl [] (.tip g)) := by
  refine s_growt (fun wf => ?_)
  unfold c_growt
  refine T.seq_k (fun K_h1 h1 => ?_)
  refine T.regi hm ?_
  simp only [↓reduceIte, namesOf, List.any, I.names, aopsI, astep, ev, setd, List.set, List.cons_append, List.nil_append, List.length_cons, List.length_nil, List.replicate, then_normal, Bool.or_false, Bool.false_eq_true, up_zero, Nat.reduceAdd, Nat.reduceSub]
  refine h1 _ _ ?_
  try clear h1 K_h1
  refine T.seq_k (fun K_h1 h1 => ?_)
  refine T.seq_k (fun K_h2 h2 => ?_)
  have e0 : decide ((n : Int) < 0) = false := decide_eq_false (by omega)
  refine T.regi hm ?_
  simp only [↓reduceIte, namesOf, List.any, I.names, aopsI, astep, ev, setd, List.set, List.getD, List.getElem?_cons_zero, List.getElem?_cons_succ, then_normal, Option.getD_some, Bool.or_false, Bool.false_eq_true, up_zero, binv, ↓opt_def, eq_self, e0]
  refine h2 _ _ ?_
  try clear h2 K_h2
  refine T.cond rfl (fun h => by cases h) (fun _ => T.skip ?_)
  refine h1 _ _ ?_
  try clear h1 K_h1
  refine T.seq_k (fun K_h1 h1 => ?_)
  refine T.seq_k (fun K_h2 h2 => ?_)
  have e1 : IntKind.i64.wrap ((0 : Int) - ((0 : Nat) : Int)) = 0 := by decide
  have e2 : IntKind.i64.wrap ((n : Int) - 0) = (n : Int) := by rw [wrap64 (by omega) (by omega)]; omega
  refine T.regi hm ?_
  simp only [↓reduceIte, namesOf, List.any, I.names, aopsI, astep, ev, setd, List.set, List.getD, List.getElem?_cons_zero, List.getElem?_cons_succ, List.length_nil, then_normal, Option.getD_some, Bool.or_false, Bool.false_eq_true, up_zero, binv, ↓opt_def, eq_self, e1, e2]
  refine h2 _ _ ?_
  try clear h2 K_h2
  refine T.seq_k (fun K_h2 h2 => ?_)
  by_cases hz : n = 0
  · subst hz
    have e3 : decide (((0 : Nat) : Int) > 0) = false := rfl
    refine T.regi hm ?_
    simp only [↓reduceIte, namesOf, List.any, I.names, aopsI, astep, ev, setd, List.set, List.getD, List.getElem?_cons_zero, List.getElem?_cons_succ, then_normal, Option.getD_some, Bool.or_false, Bool.false_eq_true, up_zero, binv, ↓opt_def, true_and, eq_self, e3]
    refine h2 _ _ ?_
    try clear h2 K_h2
    refine T.cond rfl (fun h => by cases h) (fun _ => T.skip ?_)
    refine h1 _ _ ?_
    try clear h1 K_h1
    refine T.seq_k (fun K_h1 h1 => ?_)
    refine T.regi hm ?_
    simp only [↓reduceIte, namesOf, List.any, I.names, aopsI, astep, ev, setd, List.set, List.getD, List.getElem?_cons_zero, List.getElem?_cons_succ, then_normal, Option.getD_some, Bool.or_false, Bool.false_eq_true, up_zero, true_and, eq_self]
    refine h1 _ _ ?_
    try clear h1 K_h1
    exact T.ret (Fin.ret rfl (.inl ⟨rfl, rfl, rfl⟩))
  · have e3 : decide ((n : Int) > 0) = true := decide_eq_true (by omega)
    refine T.regi hm ?_
    simp only [↓reduceIte, namesOf, List.any, I.names, aopsI, astep, ev, setd, List.set, List.getD, List.getElem?_cons_zero, List.getElem?_cons_succ, then_normal, Option.getD_some, Bool.or_false, Bool.false_eq_true, up_zero, binv, ↓opt_def, eq_self, e3]
    refine h2 _ _ ?_
    try clear h2 K_h2
    refine T.cond rfl (fun _ => ?_) (fun h => by cases h)
    have hp : (0 : Int) < (n : Int) := by omega
    have hb : (n : Int) * ((32 : Nat) : Int) ≤ 70368744177664 := by omega
    have hm' : (n : Int) ≤ 4611686018427387904 := by omega
    refine T.regi hm ?_
    simp only [↓reduceIte, namesOf, List.any, I.names, aopsI, astep, ev, setd, List.set, List.getD, List.getElem?_cons_zero, List.getElem?_cons_succ, List.length_cons, List.length_nil, then_normal, Option.getD_some, Bool.or_false, Bool.or_true, Nat.reduceAdd, AV.isAny, AV.cells, Int.natCast_nonneg, Int.toNat_natCast, true_and, and_true, eq_self, idx, List.all_nil, Int.le_refl, List.drop_nil, List.take_nil, Ver.noRoom, hp, hb, hm', AV.fits, AV.one, List.all_cons, Bool.not_false, Bool.and_self, beq_self_eq_true, true_or, and_self]
    refine h1 _ _ ?_
    try clear h1 K_h1
    refine T.seq_k (fun K_h1 h1 => ?_)
    refine T.regi hm ?_
    simp only [↓reduceIte, namesOf, List.any, I.names, aopsI, astep, ev, setd, List.set, List.getD, List.getElem?_cons_zero, List.getElem?_cons_succ, then_normal, Option.getD_some, Bool.or_false, Bool.false_eq_true, up_zero]
    refine h1 _ _ ?_
    try clear h1 K_h1
    exact T.ret (Fin.ret rfl (.inr ⟨_, OneTip.new (by omega), rfl⟩))
end Go.VL
