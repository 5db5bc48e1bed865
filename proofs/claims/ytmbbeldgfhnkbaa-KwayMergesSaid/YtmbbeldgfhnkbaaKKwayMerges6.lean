/- KwayMerges (layer 10): whatever the pages, the law returns true, and the argument reads as it did. Conditions: none. -/
import Derived.Test.YtmbbeldgfhnkbaaKKwayMerges5
import Derived.Test.YtmbbeldgfhnkbaaChecked
import Derived.Test.YtmbbeldgfhnkbaaRows

set_option linter.unusedSimpArgs false
set_option linter.unusedVariables false

namespace Go.VL

open Go.Proofs

open Classical in
noncomputable def gGather (args : List AV) : Option AV := if h : ∃ l : List Sp, args = [.sl (spsAV l) .none] ∧ l.length ≤ 1000000 then some (.sl (spsAV (gatherL h.choose)) .none) else none

theorem gGather_eq {l : List Sp} (hl : l.length ≤ 1000000) : gGather [.sl (spsAV l) .none] = some (.sl (spsAV (gatherL l)) .none) := by
  unfold gGather
  have hex : ∃ l' : List Sp, [AV.sl (spsAV l) .none] = [.sl (spsAV l') .none] ∧ l'.length ≤ 1000000 := ⟨l, rfl, hl⟩
  rw [dif_pos hex]
  have key : ∀ c : List Sp, [AV.sl (spsAV l) .none] = [.sl (spsAV c) .none] → c = l := fun c h => by
    simp only [List.cons.injEq, and_true, AV.sl.injEq] at h
    exact (spsAV_inj h).symm
  rw [key _ hex.choose_spec.1]

theorem gather_pure : PureC Try.prog n_rgather gGather := by
  intro args σ v hv
  unfold gGather at hv
  split at hv
  · rename_i hex
    simp only [Option.some.injEq] at hv; subst hv
    have hc := hex.choose_spec
    generalize hex.choose = c at hc
    obtain ⟨rfl, hl⟩ := hc
    exact rgather_ok hl
  · cases hv

open Classical in
noncomputable def gSpans (args : List AV) : Option AV := if h : ∃ p : List Sp × List Sp, args = [.sl (spsAV p.1) .none, .sl (spsAV p.2) .none] ∧ p.1.length ≤ 1000000 then some (.bool (decide (h.choose.1 = h.choose.2))) else none

theorem gSpans_eq {a b : List Sp} (hl : a.length ≤ 1000000) : gSpans [.sl (spsAV a) .none, .sl (spsAV b) .none] = some (.bool (decide (a = b))) := by
  unfold gSpans
  have hex : ∃ p : List Sp × List Sp, [AV.sl (spsAV a) .none, .sl (spsAV b) .none] = [.sl (spsAV p.1) .none, .sl (spsAV p.2) .none] ∧ p.1.length ≤ 1000000 := ⟨(a, b), rfl, hl⟩
  rw [dif_pos hex]
  have key : ∀ p : List Sp × List Sp, [AV.sl (spsAV a) .none, .sl (spsAV b) .none] = [.sl (spsAV p.1) .none, .sl (spsAV p.2) .none] → p = (a, b) := fun p h => by
    simp only [List.cons.injEq, and_true, AV.sl.injEq] at h
    obtain ⟨p1, p2⟩ := p
    simp only at h
    rw [spsAV_inj h.1, spsAV_inj h.2]
  rw [key _ hex.choose_spec.1]

theorem spans_pure : PureC Try.prog n_rspans gSpans := by
  intro args σ v hv
  unfold gSpans at hv
  split at hv
  · rename_i hex
    simp only [Option.some.injEq] at hv; subst hv
    have hc := hex.choose_spec
    generalize hex.choose = c at hc
    obtain ⟨rfl, hl⟩ := hc
    exact rspans_ok (by omega)
  · cases hv

noncomputable def tI : Tbl := [(n_rgather, gGather), (n_rspans, gSpans)]

theorem tI_ok : tI.ok Try.prog := Tbl.ok_cons gather_pure (Tbl.ok_cons spans_pure Tbl.ok_nil)

def risAt (l : List Tc) (i : Nat) : Bool := match l[i]? with
  | some t => decide (1 ≤ t.sp.length) && decide (t.sp.length ≤ 100) && (i == 0 || (match l[i - 1]? with | some p => decide (p.id < t.id) | none => false)) &&
      t.sp.all (fun s => mayS s && decide (s.tr = t.id)) && decide (gatherL t.sp = t.sp)
  | none => false

def risB (l : List Tc) : Bool := (List.range l.length).all (risAt l)

theorem ris_false {l : List Tc} {i : Nat} (hi : i < l.length) (h : risAt l i = false) : risB l = false := by
  unfold risB
  rw [Bool.eq_false_iff]
  intro hh
  have := List.all_eq_true.1 hh i (by simpa using hi)
  rw [h] at this; cases this

set_option maxRecDepth 10000 in
set_option maxHeartbeats 4000000 in
theorem ris_ok {l : List Tc} {g : Ver} {σ : St} (hl : l.length ≤ 9223372036854775807) (hs : ∀ t ∈ l, t.sp.length ≤ 9223372036854775807) : ACalls Try.prog n_ris [.sl (tcsAV l) g] σ (fun v σ' => v = .bool (risB l) ∧ σ' = σ) := by
  refine s_ris (fun wf => ?_)
  unfold c_ris
  refine T.seq_k (fun K_h1 h1 => ?_)
  refine T.regi hm ?_
  simp only [↓reduceIte, namesOf, List.any, I.names, aopsI, astep, ev, setd, List.set, List.cons_append, List.nil_append, List.length_cons, List.length_nil, List.replicate, then_normal, Bool.or_false, Bool.false_eq_true, up_zero, Nat.reduceAdd, Nat.reduceSub]
  refine h1 _ _ ?_
  try clear h1 K_h1
  refine T.seq_k (fun K_h1 h1 => ?_)
  refine T.seq_k (fun K_h2 h2 => ?_)
  refine T.regi hm ?_
  simp only [↓reduceIte, namesOf, List.any, I.names, aopsI, astep, ev, setd, List.set, then_normal, Bool.or_false, Bool.false_eq_true, up_zero]
  refine h2 _ _ ?_
  try clear h2 K_h2
  refine T.block ?_
  refine T.gh (Gh.keep [0, 3]) ?_
  refine T.loopi (fun i ρ σ' => σ.next ≤ σ'.next ∧ (∀ n x, σ.res n = some x → σ'.res n = some x) ∧ (List.range i).all (risAt l) = true ∧ ρ = [.sl (tcsAV l) g, .any, .any, .int .i64 (i : Int)] ++ List.replicate 73 .any)
    l.length 0 (Nat.zero_le _) ⟨Nat.le_refl _, fun _ _ h => h, rfl, rfl⟩ ?_
  rintro i ρ σ' hi ⟨hn, ho, hpre, rfl⟩
  refine T.seq_k (fun K_h2 h2 => ?_)
  refine T.seq_k (fun K_h3 h3 => ?_)
  refine T.regi hm ?_
  simp only [↓reduceIte, namesOf, List.any, I.names, aopsI, astep, ev, setd, List.set, List.getD, List.getElem?_cons_zero, List.getElem?_cons_succ, List.cons_append, List.nil_append, List.replicate, then_normal, Option.getD_some, Bool.or_false, Bool.false_eq_true, up_zero, binv, ↓opt_def, lt_len, eq_self, tcs_len]
  refine h3 _ _ ?_
  try clear h3 K_h3
  refine T.cond rfl (fun hb => ?_) (fun hb => ?_)
  · refine T.skip ?_
    refine h2 _ _ ?_
    try clear h2 K_h2
    have hil : i < l.length := by simpa using hb
    clear hb
    have hw := inc64 hil hl
    generalize ht : l[i] = t
    have hti : l[i]? = some t := by rw [← ht]; simp [hil]
    have htl : t.sp.length ≤ 9223372036854775807 := by rw [← ht]; exact hs _ (List.getElem_mem hil)
    refine T.seq_k (fun K_h2 h2 => ?_)
    refine T.block ?_
    refine T.seq_k (fun K_h3 h3 => ?_)
    refine T.regi hm ?_
    simp only [↓reduceIte, namesOf, List.any, I.names, aopsI, astep, ev, setd, List.set, List.getD, List.getElem?_cons_zero, List.getElem?_cons_succ, List.cons_append, List.nil_append, List.length_cons, List.length_nil, List.replicate, then_normal, Option.getD_some, Bool.or_false, Bool.or_true, Nat.reduceAdd, ↓opt_def, AV.isAny, AV.cells, ldc, St.set_same, Int.natCast_nonneg, lt_len, Int.toNat_natCast, true_and, and_true, eq_self, decide_true, tcs_len, tcs_get hil, hil, ht, tcav', AV.fits, AV.one, List.all_cons, List.all_nil, Nat.reduceBEq, Bool.not_false, Bool.and_self, Nat.zero_add, splice, List.take, List.drop, Nat.reduceLeDiff, St.set_set]
    have ho2 := set_quiet wf hn ho (k := 6) (.obj [.int .u64 (t.id : Int), .sl (spsAV t.sp) .none]) (a := σ'.next + 4) (by omega)
    have hb5 : ((σ'.up 6).set (σ'.next + 4) (.obj [.int .u64 (t.id : Int), .sl (spsAV t.sp) .none])).res (σ'.next + 4) = some (.obj [.int .u64 (t.id : Int), .sl (spsAV t.sp) .none]) := by simp
    have hn2 : σ.next ≤ ((σ'.up 6).set (σ'.next + 4) (.obj [.int .u64 (t.id : Int), .sl (spsAV t.sp) .none])).next := by simp; omega
    generalize ((σ'.up 6).set (σ'.next + 4) (.obj [.int .u64 (t.id : Int), .sl (spsAV t.sp) .none])) = σ2 at ho2 hb5 hn2 ⊢
    generalize σ'.next + 4 = b at hb5 ⊢
    refine h3 _ _ ?_
    try clear h3 K_h3
    have fin : risAt l i = false → ∀ ρ' : List AV, ρ'.getD 2 .any = .bool false → Fin σ [.t 2] (fun v σ' => v = .bool (risB l) ∧ σ' = σ) .ret ρ' σ2 := by
      intro hf ρ' hρ
      refine Fin.quiet (xs := [ρ'.getD 2 .any]) rfl (by rw [hρ]; trivial) ho2 ⟨?_, rfl⟩
      rw [ris_false hil hf, hρ]; rfl
    refine T.seq_k (fun K_h3 h3 => ?_)
    refine T.seq_k (fun K_h4 h4 => ?_)
    by_cases c1 : 1 ≤ t.sp.length
    case neg =>
      have e1 : decide ((t.sp.length : Int) < 1) = true := decide_eq_true (by omega)
      refine T.regi hm ?_
      simp only [↓reduceIte, namesOf, List.any, I.names, aopsI, astep, ev, setd, List.set, List.getD, List.getElem?_cons_zero, List.getElem?_cons_succ, List.cons_append, List.nil_append, List.replicate, then_normal, Option.getD_some, Bool.or_false, Bool.false_eq_true, up_zero, Nat.reduceAdd, binv, ↓opt_def, ldc, eq_self, reduceCtorEq, hb5, sps_len, e1, reduceCtorEq]
      refine h4 _ _ ?_
      try clear h4 K_h4
      refine T.cond rfl (fun _ => ?_) (fun h => by cases h)
      refine T.seq_k (fun K_h4 h4 => ?_)
      refine T.regi hm ?_
      simp only [↓reduceIte, namesOf, List.any, I.names, aopsI, astep, ev, setd, List.set, List.cons_append, List.nil_append, List.replicate, then_normal, Bool.or_false, Bool.false_eq_true, up_zero]
      refine h4 _ _ ?_
      try clear h4 K_h4
      exact T.ret (fin (by unfold risAt; simp only [hti, decide_eq_false c1, Bool.false_and]) _ rfl)
    have e1 : decide ((t.sp.length : Int) < 1) = false := decide_eq_false (by omega)
    by_cases c2 : t.sp.length ≤ 100
    case neg =>
      have e2 : decide ((t.sp.length : Int) > 100) = true := decide_eq_true (by omega)
      refine T.regi hm ?_
      simp only [↓reduceIte, namesOf, List.any, I.names, aopsI, astep, ev, setd, List.set, List.getD, List.getElem?_cons_zero, List.getElem?_cons_succ, List.cons_append, List.nil_append, List.replicate, then_normal, Option.getD_some, Bool.or_false, Bool.false_eq_true, up_zero, Nat.reduceAdd, binv, ↓opt_def, ldc, eq_self, reduceCtorEq, hb5, sps_len, e1, e2, reduceCtorEq]
      refine h4 _ _ ?_
      try clear h4 K_h4
      refine T.cond rfl (fun _ => ?_) (fun h => by cases h)
      refine T.seq_k (fun K_h4 h4 => ?_)
      refine T.regi hm ?_
      simp only [↓reduceIte, namesOf, List.any, I.names, aopsI, astep, ev, setd, List.set, List.cons_append, List.nil_append, List.replicate, then_normal, Bool.or_false, Bool.false_eq_true, up_zero]
      refine h4 _ _ ?_
      try clear h4 K_h4
      exact T.ret (fin (by unfold risAt; simp only [hti, decide_eq_false c2, Bool.false_and, Bool.and_false]) _ rfl)
    have e2 : decide ((t.sp.length : Int) > 100) = false := decide_eq_false (by omega)
    -- the rest, once the numbers rise
    have rest : (i == 0 || (match l[i - 1]? with | some p => decide (p.id < t.id) | none => false)) = true → ∀ ρ', keep [0, 3, 4] 0 ρ' = [.sl (tcsAV l) g, .any, .any, .int .i64 (i : Int), .ptr b 0] ++ List.replicate 72 .any → ρ'.getD 42 .any = .bool false → K_h4 ρ' σ2 := by
      intro c3 ρ' hρ h42
      refine h4 _ _ ?_
      try clear h4 K_h4
      refine T.cond (b := false) (by simpa [ev] using h42) (fun h => by cases h) (fun _ => T.skip ?_)
      refine h3 _ _ ?_
      try clear h3 K_h3
      refine T.gh (Gh.keep [0, 3, 4]) ?_
      rw [hρ]
      clear hρ h42 ρ'
      refine T.seq_k (fun K_h3 h3 => ?_)
      refine T.seq_k (fun K_h5 h5 => ?_)
      refine T.regi hm ?_
      simp only [↓reduceIte, namesOf, List.any, I.names, aopsI, astep, ev, setd, List.set, List.cons_append, List.nil_append, List.replicate, then_normal, Bool.or_false, Bool.false_eq_true, up_zero]
      refine h5 _ _ ?_
      try clear h5 K_h5
      refine T.block ?_
      refine T.gh (Gh.keep [0, 3, 4, 5]) ?_
      refine T.loopi (fun k ρ s => s = σ2 ∧ (t.sp.take k).all (fun s => mayS s && decide (s.tr = t.id)) = true ∧ ρ = [.sl (tcsAV l) g, .any, .any, .int .i64 (i : Int), .ptr b 0, .int .i64 (k : Int)] ++ List.replicate 71 .any)
        t.sp.length 0 (Nat.zero_le _) ⟨rfl, by simp, rfl⟩ ?_
      rintro k ρ s hk ⟨rfl, hpre2, rfl⟩
      refine T.seq_k (fun K_h5 h5 => ?_)
      refine T.seq_k (fun K_h6 h6 => ?_)
      refine T.regi hm ?_
      simp only [↓reduceIte, namesOf, List.any, I.names, aopsI, astep, ev, setd, List.set, List.getD, List.getElem?_cons_zero, List.getElem?_cons_succ, List.cons_append, List.nil_append, List.replicate, then_normal, Option.getD_some, Bool.or_false, Bool.false_eq_true, up_zero, Nat.reduceAdd, binv, ↓opt_def, ldc, lt_len, eq_self, hb5, sps_len]
      refine h6 _ _ ?_
      try clear h6 K_h6
      refine T.cond rfl (fun hb => ?_) (fun hb => ?_)
      · refine T.skip ?_
        refine h5 _ _ ?_
        try clear h5 K_h5
        have hkl : k < t.sp.length := by simpa using hb
        clear hb
        generalize hx : t.sp[k] = x
        have hw2 := inc64 hkl htl
        have badx : (mayS x && decide (x.tr = t.id)) = false → risAt l i = false := by
          intro h
          unfold risAt
          simp only [hti, all_ff (p := fun s : Sp => mayS s && decide (s.tr = t.id)) hkl (by rw [hx]; exact h), Bool.and_false, Bool.false_and]
        refine T.seq_k (fun K_h5 h5 => ?_)
        refine T.block ?_
        refine T.seq_k (fun K_h6 h6 => ?_)
        refine T.regi hm ?_
        simp only [↓reduceIte, namesOf, List.any, I.names, aopsI, astep, ev, setd, List.set, List.getD, List.getElem?_cons_zero, List.getElem?_cons_succ, List.cons_append, List.nil_append, List.length_cons, List.length_nil, List.replicate, then_normal, Option.getD_some, Bool.or_false, Bool.false_eq_true, up_zero, Nat.reduceAdd, ↓opt_def, AV.cells, ldc, List.map_cons, List.map_nil, Int.natCast_nonneg, lt_len, Int.toNat_natCast, true_and, and_true, eq_self, decide_true, hb5, sps_len, sps_get hkl, hkl, hx, spav, Nat.zero_add, List.take, List.drop, Nat.reduceLeDiff]
        refine rmay_ok.mono ?_
        rintro v s2 ⟨rfl, rfl⟩
        try simp only [↓reduceIte, namesOf, List.any, I.names, aops, aopsI, aopsT, qstep, CPt, qget, Tbl.get, astep, ev, setd, List.set, List.getD, List.getElem?_cons_zero, List.getElem?_cons_succ, List.getElem?_nil, List.cons_append, List.nil_append, List.length_cons, List.length_nil, List.replicate, then_normal, inBlock_normal, Option.getD_some, Option.getD_none, Bool.or_false, Bool.or_true, Bool.true_or, Bool.false_or, Bool.false_eq_true, if_false, if_true, up_zero, Nat.reduceAdd, Nat.reduceSub, binv, ↓opt_def, AV.isAny, AV.cells, ldc, List.map_cons, List.map_nil, St.set_next, St.set_same, St.up_next, Int.natCast_nonneg, lt_len, le_len, Int.toNat_natCast, true_and, and_true, eq_self, reduceCtorEq, decide_true, List.length_singleton, er_int, er_bool, er_str, up_zero]
        refine h6 _ _ ?_
        try clear h6 K_h6
        refine T.seq_k (fun K_h6 h6 => ?_)
        cases cm : mayS x with
        | false =>
          have em : mayI x.st x.en (bytesAV x.da).length = false := by rw [bytesAV_len]; exact cm
          rw [em]
          refine T.regi hm ?_
          simp only [↓reduceIte, namesOf, List.any, I.names, aopsI, astep, ev, setd, List.set, List.getD, List.getElem?_cons_zero, List.getElem?_cons_succ, List.cons_append, List.nil_append, List.replicate, then_normal, Option.getD_some, Bool.or_false, Bool.false_eq_true, up_zero, eq_self, reduceCtorEq, reduceCtorEq, Bool.not_false]
          refine h6 _ _ ?_
          try clear h6 K_h6
          refine T.cond rfl (fun _ => ?_) (fun h => by cases h)
          refine T.seq_k (fun K_h6 h6 => ?_)
          refine T.regi hm ?_
          simp only [↓reduceIte, namesOf, List.any, I.names, aopsI, astep, ev, setd, List.set, List.cons_append, List.nil_append, List.replicate, then_normal, Bool.or_false, Bool.false_eq_true, up_zero]
          refine h6 _ _ ?_
          try clear h6 K_h6
          exact T.ret (fin (badx (by rw [cm]; rfl)) _ rfl)
        | true =>
        have em : mayI x.st x.en (bytesAV x.da).length = true := by rw [bytesAV_len]; exact cm
        rw [em]
        by_cases ct : x.tr = t.id
        · have e3 : ((x.tr : Int) != (t.id : Int)) = false := by simp; omega
          refine T.regi hm ?_
          simp only [↓reduceIte, namesOf, List.any, I.names, aopsI, astep, ev, setd, List.set, List.getD, List.getElem?_cons_zero, List.getElem?_cons_succ, List.cons_append, List.nil_append, List.length_cons, List.length_nil, List.replicate, then_normal, Option.getD_some, Bool.or_false, Bool.false_eq_true, up_zero, Nat.reduceAdd, binv, ↓opt_def, AV.cells, ldc, Int.natCast_nonneg, lt_len, Int.toNat_natCast, true_and, and_true, eq_self, Bool.not_true, hb5, sps_len, sps_get hkl, hkl, hx, spav, Nat.zero_add, List.drop, e3]
          refine h6 _ _ ?_
          try clear h6 K_h6
          refine T.cond rfl (fun h => by cases h) (fun _ => T.skip ?_)
          try simp only [List.cons_append, List.nil_append, List.replicate, then_normal, inBlock_normal, inBlock_normal]
          refine h5 _ _ ?_
          try clear h5 K_h5
          refine T.regi hm ?_
          simp only [↓reduceIte, namesOf, List.any, I.names, aopsI, astep, ev, setd, List.set, List.getD, List.getElem?_cons_zero, List.getElem?_cons_succ, List.cons_append, List.nil_append, List.replicate, then_normal, Option.getD_some, Bool.or_false, Bool.false_eq_true, up_zero, binv, ↓opt_def, eq_self, hw2]
          exact ⟨hkl, _, _, Gh.keep [0, 3, 4, 5], rfl, take_all (p := fun s : Sp => mayS s && decide (s.tr = t.id)) hkl hpre2 (by rw [hx, cm]; simp [ct]), rfl⟩
        · have e3 : ((x.tr : Int) != (t.id : Int)) = true := by simp; omega
          refine T.regi hm ?_
          simp only [↓reduceIte, namesOf, List.any, I.names, aopsI, astep, ev, setd, List.set, List.getD, List.getElem?_cons_zero, List.getElem?_cons_succ, List.cons_append, List.nil_append, List.length_cons, List.length_nil, List.replicate, then_normal, Option.getD_some, Bool.or_false, Bool.false_eq_true, up_zero, Nat.reduceAdd, binv, ↓opt_def, AV.cells, ldc, Int.natCast_nonneg, lt_len, Int.toNat_natCast, true_and, and_true, eq_self, Bool.not_true, hb5, sps_len, sps_get hkl, hkl, hx, spav, Nat.zero_add, List.drop, e3]
          refine h6 _ _ ?_
          try clear h6 K_h6
          refine T.cond rfl (fun _ => ?_) (fun h => by cases h)
          refine T.seq_k (fun K_h6 h6 => ?_)
          refine T.regi hm ?_
          simp only [↓reduceIte, namesOf, List.any, I.names, aopsI, astep, ev, setd, List.set, List.cons_append, List.nil_append, List.replicate, then_normal, Bool.or_false, Bool.false_eq_true, up_zero]
          refine h6 _ _ ?_
          try clear h6 K_h6
          exact T.ret (fin (badx (by rw [decide_eq_false ct, Bool.and_false])) _ rfl)
      · refine T.exit ?_
        have : k = t.sp.length := by simp at hb; omega
        subst this
        rw [List.take_length] at hpre2
        try simp only [List.cons_append, List.nil_append, List.replicate, then_normal, inBlock_exit, then_exit]
        refine h3 _ _ ?_
        try clear h3 K_h3
        have hg1 := gGather_eq (l := t.sp) (by omega)
        have hg2 := gSpans_eq (a := gatherL t.sp) (b := t.sp) (by have := gatherN_le t.sp t.sp.length; unfold gatherL; omega)
        refine T.seq_k (fun K_h3 h3 => ?_)
        refine T.regt hm tI_ok ?_
        simp only [↓reduceIte, namesOf, List.any, I.names, aopsT, qstep, qget, Tbl.get, astep, ev, setd, List.set, List.getD, List.getElem?_cons_zero, List.getElem?_cons_succ, List.cons_append, List.nil_append, List.replicate, then_normal, Option.getD_some, Bool.or_false, Bool.false_eq_true, up_zero, Nat.reduceAdd, ↓opt_def, ldc, List.map_cons, List.map_nil, eq_self, Nat.reduceEqDiff, tI, n_rgather, n_rspans, hb5, hg1, hg2]
        refine h3 _ _ ?_
        try clear h3 K_h3
        refine T.seq_k (fun K_h3 h3 => ?_)
        refine T.regi hm ?_
        simp only [↓reduceIte, namesOf, List.any, I.names, aopsI, astep, ev, setd, List.set, List.getD, List.getElem?_cons_zero, List.getElem?_cons_succ, List.cons_append, List.nil_append, List.replicate, then_normal, Option.getD_some, Bool.or_false, Bool.false_eq_true, up_zero]
        refine h3 _ _ ?_
        try clear h3 K_h3
        by_cases cg : gatherL t.sp = t.sp
        · refine T.cond (b := false) (by simp [ev, cg]) (fun h => by cases h) (fun _ => T.skip ?_)
          try simp only [List.cons_append, List.nil_append, List.replicate, then_normal, inBlock_normal, inBlock_normal]
          refine h2 _ _ ?_
          try clear h2 K_h2
          refine T.regi hm ?_
          simp only [↓reduceIte, namesOf, List.any, I.names, aopsI, astep, ev, setd, List.set, List.getD, List.getElem?_cons_zero, List.getElem?_cons_succ, List.cons_append, List.nil_append, List.replicate, then_normal, Option.getD_some, Bool.or_false, Bool.false_eq_true, up_zero, binv, ↓opt_def, eq_self, hw]
          refine ⟨hil, _, _, Gh.keep [0, 3], hn2, ho2, range_all hpre ?_, rfl⟩
          unfold risAt
          simp only [hti, decide_eq_true c1, decide_eq_true c2, c3, hpre2, decide_eq_true cg, Bool.and_self]
        · refine T.cond (b := true) (by simp [ev, cg]) (fun _ => ?_) (fun h => by cases h)
          refine T.seq_k (fun K_h3 h3 => ?_)
          refine T.regi hm ?_
          simp only [↓reduceIte, namesOf, List.any, I.names, aopsI, astep, ev, setd, List.set, List.cons_append, List.nil_append, List.replicate, then_normal, Bool.or_false, Bool.false_eq_true, up_zero]
          refine h3 _ _ ?_
          try clear h3 K_h3
          exact T.ret (fin (by unfold risAt; simp only [hti, decide_eq_false cg, Bool.and_false]) _ rfl)
    cases i with
    | zero =>
      have hz : decide (((0 : Nat) : Int) > 0) = false := rfl
      refine T.regi hm ?_
      simp only [↓reduceIte, namesOf, List.any, I.names, aopsI, astep, ev, setd, List.set, List.getD, List.getElem?_cons_zero, List.getElem?_cons_succ, List.cons_append, List.nil_append, List.replicate, then_normal, Option.getD_some, Bool.or_false, Bool.false_eq_true, up_zero, Nat.reduceAdd, binv, ↓opt_def, ldc, eq_self, hb5, sps_len, e1, e2, hz]
      exact rest rfl _ rfl rfl
    | succ j =>
      have hjl : j < l.length := by omega
      generalize hp : l[j] = p
      have hpj : l[j]? = some p := by rw [← hp]; simp [hjl]
      have hz : decide (((j + 1 : Nat) : Int) > 0) = true := decide_eq_true (by omega)
      have hd : IntKind.i64.wrap (((j + 1 : Nat) : Int) - 1) = (j : Int) := by rw [wrap64 (by omega) (by omega)]; omega
      by_cases c4 : p.id < t.id
      · have e4 : decide ((p.id : Int) ≥ (t.id : Int)) = false := decide_eq_false (by omega)
        refine T.regi hm ?_
        simp only [↓reduceIte, namesOf, List.any, I.names, aopsI, astep, ev, setd, List.set, List.getD, List.getElem?_cons_zero, List.getElem?_cons_succ, List.cons_append, List.nil_append, List.length_cons, List.length_nil, List.replicate, then_normal, Option.getD_some, Bool.or_false, Bool.false_eq_true, up_zero, Nat.reduceAdd, binv, ↓opt_def, AV.cells, ldc, Int.natCast_nonneg, lt_len, Int.toNat_natCast, and_true, eq_self, hb5, sps_len, e1, e2, hz, hd, tcs_len, tcs_get hjl, hjl, hp, tcav', e4, Nat.zero_add, List.drop]
        exact rest (by simp [hpj, c4]) _ rfl rfl
      · have e4 : decide ((p.id : Int) ≥ (t.id : Int)) = true := decide_eq_true (by omega)
        refine T.regi hm ?_
        simp only [↓reduceIte, namesOf, List.any, I.names, aopsI, astep, ev, setd, List.set, List.getD, List.getElem?_cons_zero, List.getElem?_cons_succ, List.cons_append, List.nil_append, List.length_cons, List.length_nil, List.replicate, then_normal, Option.getD_some, Bool.or_false, Bool.false_eq_true, up_zero, Nat.reduceAdd, binv, ↓opt_def, AV.cells, ldc, Int.natCast_nonneg, lt_len, Int.toNat_natCast, and_true, eq_self, hb5, sps_len, e1, e2, hz, hd, tcs_len, tcs_get hjl, hjl, hp, tcav', e4, Nat.zero_add, List.drop]
        refine h4 _ _ ?_
        try clear h4 K_h4
        refine T.cond rfl (fun _ => ?_) (fun h => by cases h)
        refine T.seq_k (fun K_h4 h4 => ?_)
        refine T.regi hm ?_
        simp only [↓reduceIte, namesOf, List.any, I.names, aopsI, astep, ev, setd, List.set, List.cons_append, List.nil_append, List.replicate, then_normal, Bool.or_false, Bool.false_eq_true, up_zero]
        refine h4 _ _ ?_
        try clear h4 K_h4
        exact T.ret (fin (by unfold risAt; simp [hti, hpj, c4]) _ rfl)
  · refine T.exit ?_
    have : i = l.length := by simp at hb; omega
    subst this
    try simp only [List.cons_append, List.nil_append, List.replicate, then_normal, inBlock_exit, then_exit]
    refine h1 _ _ ?_
    try clear h1 K_h1
    refine T.seq_k (fun K_h1 h1 => ?_)
    refine T.regi hm ?_
    simp only [↓reduceIte, namesOf, List.any, I.names, aopsI, astep, ev, setd, List.set, then_normal, Bool.or_false, Bool.false_eq_true, up_zero]
    refine h1 _ _ ?_
    try clear h1 K_h1
    exact T.ret (Fin.quiet rfl trivial ho ⟨by rw [show risB l = true from hpre]; rfl, rfl⟩)

end Go.VL

namespace Go.VL

open Go.Proofs

theorem cmp3_neg {a b : Int} : cmp3 a b < 0 ↔ a < b := by
  unfold cmp3; split
  · omega
  · split <;> omega

theorem cmp3_zero {a b : Int} : cmp3 a b = 0 ↔ a = b := by
  unfold cmp3; split
  · omega
  · split <;> omega

theorem cmp3_self (a : Int) : cmp3 a a = 0 := by unfold cmp3; simp

theorem cmp_ahead (a b : Sp) : decide (cmpSp a b < 0) = aheadS a b := by
  rw [Bool.eq_iff_iff, decide_eq_true_eq]
  unfold cmpSp cmpS aheadS
  simp only [orI]
  by_cases h1 : a.st = b.st
  · have e1 : cmp3 a.st b.st = 0 := cmp3_zero.2 h1
    by_cases h2 : a.id = b.id
    · have e2 : cmp3 (a.id : Int) (b.id : Int) = 0 := cmp3_zero.2 (by omega)
      by_cases h3 : a.tr = b.tr
      · have e3 : cmp3 (a.tr : Int) (b.tr : Int) = 0 := cmp3_zero.2 (by omega)
        simp only [cmp3_self, e1, e2, e3, h1, h2, h3, if_true, ne_eq, not_true_eq_false, if_false, decide_eq_true_eq]; omega
      · have e3 : ¬ cmp3 (a.tr : Int) (b.tr : Int) = 0 := by rw [cmp3_zero]; omega
        simp only [cmp3_self, e1, e2, e3, h1, h2, if_true, ne_eq, not_true_eq_false, if_false, decide_eq_true_eq, cmp3_neg]; omega
    · have e2 : ¬ cmp3 (a.id : Int) (b.id : Int) = 0 := by rw [cmp3_zero]; omega
      simp only [cmp3_self, e1, e2, h1, h2, if_true, ne_eq, not_true_eq_false, not_false_eq_true, if_false, decide_eq_true_eq, cmp3_neg]; omega
  · have e1 : ¬ cmp3 a.st b.st = 0 := by rw [cmp3_zero]; exact h1
    simp only [e1, h1, if_true, ne_eq, not_false_eq_true, if_false, decide_eq_true_eq, cmp3_neg]

def docOne (t : Tc) : Bool := decide (1 ≤ t.sp.length) && decide (t.sp.length ≤ 100) && t.sp.all (fun s => mayS s && decide (s.tr = t.id)) && decide (gatherL t.sp = t.sp)

theorem ok_at {t : Tc} {i : Nat} (hi : i < t.sp.length) : okAt t i = true ↔ t.sp[i].tr = t.id ∧ mayS t.sp[i] = true ∧ (∀ j (hj : j < i), t.sp[j].id ≠ t.sp[i].id) ∧ ∀ j (hj : j + 1 = i), aheadS t.sp[j] t.sp[i] = true := by
  unfold okAt
  have e : t.sp[i]? = some t.sp[i] := by simp [hi]
  rw [e]
  simp only [Bool.and_eq_true, decide_eq_true_eq, Bool.not_eq_true', Bool.or_eq_true, beq_iff_eq, and_assoc]
  refine and_congr Iff.rfl (and_congr Iff.rfl (and_congr ?_ ?_))
  · constructor
    · intro h j hj he
      have : ((t.sp.take i).map Sp.id).contains t.sp[i].id = true := by
        simp only [List.contains_iff_mem, List.mem_map]
        refine ⟨t.sp[j], ?_, he⟩
        have : (t.sp.take i)[j]? = some t.sp[j] := by rw [List.getElem?_take, if_pos hj]; simp [show j < t.sp.length by omega]
        exact List.mem_of_getElem? this
      rw [h] at this; cases this
    · intro h
      rw [Bool.eq_false_iff]
      intro hc
      simp only [List.contains_iff_mem, List.mem_map] at hc
      obtain ⟨s, hs, he⟩ := hc
      obtain ⟨j, hj⟩ := List.getElem?_of_mem hs
      rw [List.getElem?_take] at hj
      split at hj
      · rename_i hji
        have : t.sp[j]'(by omega) = s := by simpa [show j < t.sp.length by omega] using hj
        exact h j hji (by rw [this]; exact he)
      · cases hj
  · cases i with
    | zero => exact ⟨fun _ j hj => by omega, fun _ => .inl rfl⟩
    | succ i =>
      have e2 : t.sp[i]? = some (t.sp[i]'(by omega)) := by simp [show i < t.sp.length by omega]
      simp only [Nat.add_sub_cancel, e2, Nat.succ_ne_zero, Nat.add_eq_zero_iff, Nat.one_ne_zero, and_false, false_or]
      rw [cmp_ahead]
      exact ⟨fun h j hj => by have : j = i := by omega
                              subst this; exact h, fun h => h i rfl⟩

theorem one_doc (t : Tc) : oneB t = docOne t := by
  rw [Bool.eq_iff_iff]
  unfold oneB docOne
  simp only [Bool.and_eq_true, decide_eq_true_eq, List.all_eq_true, List.mem_range]
  constructor
  · rintro ⟨⟨h1, h2⟩, h3⟩
    have hk : ∀ i (hi : i < t.sp.length), _ := fun i hi => (ok_at hi).1 (h1 i hi)
    have htr : ∀ s ∈ t.sp, s.tr = t.id := by
      intro s hs
      obtain ⟨i, hi, rfl⟩ := List.getElem_of_mem hs
      exact (hk i hi).1
    refine ⟨⟨⟨h2, h3⟩, fun s hs => ?_⟩, (gather_id htr).2 ⟨fun i j hi hj hij => (hk j hj).2.2.1 i hij, ?_⟩⟩
    · obtain ⟨i, hi, rfl⟩ := List.getElem_of_mem hs
      exact ⟨(hk i hi).2.1, (hk i hi).1⟩
    · rw [SortedS, List.pairwise_iff_getElem]
      intro i j hi hj hij
      induction j with
      | zero => omega
      | succ j ih =>
        have hst := (hk (j + 1) hj).2.2.2 j rfl
        by_cases hx : i = j
        · subst hx; exact hst
        · exact ahead_trans (ih (by omega) (by omega)) hst
  · rintro ⟨⟨⟨h2, h3⟩, h1⟩, hg⟩
    have htr : ∀ s ∈ t.sp, s.tr = t.id := fun s hs => (h1 s hs).2
    obtain ⟨hap, hso⟩ := (gather_id htr).1 hg
    refine ⟨⟨fun i hi => (ok_at hi).2 ⟨(h1 _ (List.getElem_mem hi)).2, (h1 _ (List.getElem_mem hi)).1, fun j hj => hap j i (by omega) hi hj, fun j hj => ?_⟩, h2⟩, h3⟩
    exact List.pairwise_iff_getElem.1 hso j i (by omega) hi (by omega)

theorem is_doc (l : List Tc) : isB l = risB l := by
  unfold isB risB
  congr 1
  funext i
  unfold isAt risAt
  cases l[i]? with
  | none => rfl
  | some t =>
    simp only
    rw [one_doc]
    unfold docOne
    generalize (i == 0 || (match l[i - 1]? with | some p => decide (p.id < t.id) | none => false)) = b
    cases b <;> simp only [Bool.and_true, Bool.and_false, Bool.false_and]

end Go.VL

namespace Go.VL

open Go.Proofs

/-- the reader's place in what is left of the bytes -/
def sh (k : Nat) (s : Rs) : Rs := ⟨s.at_ - k, if s.bad = -1 then -1 else s.bad - k⟩

structure SH (k : Nat) (b : List UInt8) (s : Rs) : Prop where
  ok : s.ok b
  len : k ≤ b.length
  lo : (k : Int) ≤ s.at_
  bad : s.bad = -1 ∨ (k : Int) ≤ s.bad

theorem SH.neg {k : Nat} {b : List UInt8} {s : Rs} (h : SH k b s) : (sh k s).bad = -1 ↔ s.bad = -1 := by
  unfold sh; have := h.bad
  split <;> simp_all <;> omega

theorem SH.pos {k : Nat} {b : List UInt8} {s : Rs} (h : SH k b s) : 0 ≤ (sh k s).bad ↔ 0 ≤ s.bad := by
  unfold sh; have := h.bad
  split <;> simp_all <;> omega

theorem SH.rt {k : Nat} {b : List UInt8} {s : Rs} (h : SH k b s) (w : Int) : rT (b.drop k) (sh k s) w = rT b s w := by
  have e := h.neg
  have := h.len
  unfold rT
  rw [Bool.eq_iff_iff, decide_eq_true_eq, decide_eq_true_eq, e, List.length_drop]
  unfold sh
  constructor <;> rintro ⟨h1, h2⟩ <;> refine ⟨h1, ?_⟩ <;> simp only [] at * <;> omega

theorem SH.rw {k : Nat} {b : List UInt8} {s : Rs} (h : SH k b s) (w : Nat) : rW (b.drop k) (sh k s) w = rW b s w := by
  unfold rW
  rw [h.rt]
  have : (b.drop k).drop (sh k s).at_.toNat = b.drop s.at_.toNat := by
    rw [List.drop_drop]; unfold sh; have := h.lo; congr 1; simp only []; omega
  rw [this]

end Go.VL

namespace Go.VL

open Go.Proofs

theorem flat_snoc {α β : Type} (f : α → List β) {l : List α} {i : Nat} (h : i < l.length) : (l.take (i + 1)).flatMap f = (l.take i).flatMap f ++ f l[i] := by
  rw [List.take_succ_eq_append_getElem h, List.flatMap_append]; simp

end Go.VL

namespace Go.VL

open Go.Proofs

set_option maxRecDepth 10000 in
theorem rtraces_ok {a b : List Tc} {g g' : Ver} {σ : St} (hl : a.length ≤ 9223372036854775807) (hs : ∀ t ∈ a, t.sp.length ≤ 9223372036854775807) : ACalls Try.prog n_rtraces [.sl (tcsAV a) g, .sl (tcsAV b) g'] σ (fun v σ' => v = .bool (decide (a = b)) ∧ σ' = σ) := by
  refine s_rtraces (fun wf => ?_)
  unfold c_rtraces
  refine T.seq_k (fun K_h0 h0 => ?_)
  refine T.regi hm ?_
  simp only [↓reduceIte, namesOf, List.any, I.names, aopsI, astep, ev, setd, List.set, List.cons_append, List.nil_append, List.length_cons, List.length_nil, List.replicate, then_normal, Bool.or_false, Bool.false_eq_true, up_zero, Nat.reduceAdd, Nat.reduceSub]
  refine h0 _ _ ?_
  try clear h0 K_h0
  refine T.seq_k (fun K_h1 h1 => ?_)
  by_cases hlen : a.length = b.length
  case neg =>
    have e1 : ((a.length : Int) != (b.length : Int)) = true := by simp; omega
    refine T.seq_k (fun K_h0 h0 => ?_)
    refine T.regi hm ?_
    simp only [↓reduceIte, namesOf, List.any, I.names, aopsI, astep, ev, setd, List.set, List.getD, List.getElem?_cons_zero, List.getElem?_cons_succ, then_normal, Option.getD_some, Bool.or_false, Bool.false_eq_true, up_zero, binv, ↓opt_def, eq_self, tcs_len, e1]
    refine h0 _ _ ?_
    try clear h0 K_h0
    refine T.cond rfl (fun _ => ?_) (fun h => by cases h)
    refine T.seq_k (fun K_h0 h0 => ?_)
    refine T.regi hm ?_
    simp only [↓reduceIte, namesOf, List.any, I.names, aopsI, astep, ev, setd, List.set, then_normal, Bool.or_false, Bool.false_eq_true, up_zero]
    refine h0 _ _ ?_
    try clear h0 K_h0
    exact T.ret (Fin.ret rfl ⟨by rw [decide_eq_false (fun h => hlen (by rw [h]))]; rfl, rfl⟩)
  have e1 : ((a.length : Int) != (b.length : Int)) = false := by simp; omega
  refine T.seq_k (fun K_h0 h0 => ?_)
  refine T.regi hm ?_
  simp only [↓reduceIte, namesOf, List.any, I.names, aopsI, astep, ev, setd, List.set, List.getD, List.getElem?_cons_zero, List.getElem?_cons_succ, then_normal, Option.getD_some, Bool.or_false, Bool.false_eq_true, up_zero, binv, ↓opt_def, eq_self, tcs_len, e1]
  refine h0 _ _ ?_
  try clear h0 K_h0
  refine T.cond rfl (fun h => by cases h) (fun _ => T.skip ?_)
  refine h1 _ _ ?_
  try clear h1 K_h1
  refine T.seq_k (fun K_h1 h1 => ?_)
  refine T.seq_k (fun K_h0 h0 => ?_)
  refine T.regi hm ?_
  simp only [↓reduceIte, namesOf, List.any, I.names, aopsI, astep, ev, setd, List.set, then_normal, Bool.or_false, Bool.false_eq_true, up_zero]
  refine h0 _ _ ?_
  try clear h0 K_h0
  refine T.block ?_
  refine T.gh (Gh.keep [0, 1, 5]) ?_
  refine T.loopi (fun i ρ σ' => σ' = σ ∧ a.take i = b.take i ∧ ρ = [.sl (tcsAV a) g, .sl (tcsAV b) g', .any, .any, .any, .int .i64 (i : Int)] ++ List.replicate 38 .any)
    a.length 0 (Nat.zero_le _) ⟨rfl, by simp, rfl⟩ ?_
  rintro i ρ σ' hi ⟨rfl, hpre, rfl⟩
  refine T.seq_k (fun K_h2 h2 => ?_)
  by_cases hil : i < a.length
  case neg =>
    have e2 : decide (i < a.length) = false := decide_eq_false hil
    refine T.seq_k (fun K_h0 h0 => ?_)
    refine T.regi hm ?_
    simp only [↓reduceIte, namesOf, List.any, I.names, aopsI, astep, ev, setd, List.set, List.getD, List.getElem?_cons_zero, List.getElem?_cons_succ, List.cons_append, List.nil_append, List.replicate, then_normal, Option.getD_some, Bool.or_false, Bool.false_eq_true, up_zero, binv, ↓opt_def, lt_len, eq_self, tcs_len, e2]
    refine h0 _ _ ?_
    try clear h0 K_h0
    refine T.cond rfl (fun h => by cases h) (fun _ => T.exit ?_)
    have : i = a.length := by omega
    subst this
    have hab : a = b := by rw [List.take_length, hlen, List.take_length] at hpre; exact hpre
    try simp only [List.cons_append, List.nil_append, List.replicate, then_normal, inBlock_exit, then_exit]
    refine h1 _ _ ?_
    try clear h1 K_h1
    refine T.seq_k (fun K_h0 h0 => ?_)
    refine T.regi hm ?_
    simp only [↓reduceIte, namesOf, List.any, I.names, aopsI, astep, ev, setd, List.set, then_normal, Bool.or_false, Bool.false_eq_true, up_zero]
    refine h0 _ _ ?_
    try clear h0 K_h0
    exact T.ret (Fin.ret rfl ⟨by rw [decide_eq_true hab]; rfl, rfl⟩)
  have e2 : decide (i < a.length) = true := decide_eq_true hil
  refine T.seq_k (fun K_h0 h0 => ?_)
  refine T.regi hm ?_
  simp only [↓reduceIte, namesOf, List.any, I.names, aopsI, astep, ev, setd, List.set, List.getD, List.getElem?_cons_zero, List.getElem?_cons_succ, List.cons_append, List.nil_append, List.replicate, then_normal, Option.getD_some, Bool.or_false, Bool.false_eq_true, up_zero, binv, ↓opt_def, lt_len, eq_self, tcs_len, e2]
  refine h0 _ _ ?_
  try clear h0 K_h0
  refine T.cond rfl (fun _ => T.skip ?_) (fun h => by cases h)
  refine h2 _ _ ?_
  try clear h2 K_h2
  clear h1
  have hjl : i < b.length := by omega
  have hw := inc64 hil hl
  refine T.seq_k (fun K_h2 h2 => ?_)
  refine T.block ?_
  have hta : a[i]? = some a[i] := by simp [hil]
  have htl : a[i].sp.length ≤ 9223372036854775807 := hs _ (List.getElem_mem hil)
  generalize hA : a[i] = ta at hta htl
  generalize hB : b[i] = tb
  refine T.seq_k (fun K_h3 h3 => ?_)
  refine T.regi hm ?_
  simp only [↓reduceIte, namesOf, List.any, I.names, aopsI, astep, ev, setd, List.set, List.getD, List.getElem?_cons_zero, List.getElem?_cons_succ, List.cons_append, List.nil_append, List.length_cons, List.length_nil, List.replicate, then_normal, Option.getD_some, Bool.or_false, Bool.false_eq_true, up_zero, Nat.reduceAdd, ↓opt_def, AV.cells, ldc, List.map_cons, List.map_nil, Int.natCast_nonneg, lt_len, Int.toNat_natCast, true_and, and_true, eq_self, tcs_len, tcs_get hil, tcs_get hjl, hA, hB, hil, hjl, tcav, Nat.zero_add, List.drop]
  refine ⟨_, rspans_ok htl, ?_⟩
  try simp only [↓reduceIte, namesOf, List.any, I.names, aops, aopsI, aopsT, qstep, CPt, qget, Tbl.get, astep, ev, setd, List.set, List.getD, List.getElem?_cons_zero, List.getElem?_cons_succ, List.getElem?_nil, List.cons_append, List.nil_append, List.length_cons, List.length_nil, List.replicate, then_normal, inBlock_normal, Option.getD_some, Option.getD_none, Bool.or_false, Bool.or_true, Bool.true_or, Bool.false_or, Bool.false_eq_true, if_false, if_true, up_zero, Nat.reduceAdd, Nat.reduceSub, binv, ↓opt_def, AV.isAny, AV.cells, ldc, List.map_cons, List.map_nil, St.set_next, St.set_same, St.up_next, Int.natCast_nonneg, lt_len, le_len, Int.toNat_natCast, true_and, and_true, eq_self, reduceCtorEq, decide_true, List.length_singleton, er_int, er_bool, er_str, ]
  refine h3 _ _ ?_
  try clear h3 K_h3
  by_cases he : ta = tb
  · have e3 : ((ta.id : Int) != (tb.id : Int)) = false := by rw [he]; simp
    have e4 : decide (ta.sp = tb.sp) = true := decide_eq_true (by rw [he])
    refine T.seq_k (fun K_h0 h0 => ?_)
    refine T.regi hm ?_
    simp only [↓reduceIte, namesOf, List.any, I.names, aopsI, astep, ev, setd, List.set, List.getD, List.getElem?_cons_zero, List.getElem?_cons_succ, List.cons_append, List.nil_append, List.length_cons, List.length_nil, List.replicate, then_normal, Option.getD_some, Bool.or_false, Bool.false_eq_true, up_zero, Nat.reduceAdd, binv, ↓opt_def, AV.cells, ldc, Int.natCast_nonneg, lt_len, Int.toNat_natCast, true_and, and_true, eq_self, tcs_len, tcs_get hil, tcs_get hjl, hA, hB, hil, hjl, tcav, Nat.zero_add, List.drop, e3, e4]
    refine h0 _ _ ?_
    try clear h0 K_h0
    refine T.cond rfl (fun h => by cases h) (fun _ => T.skip ?_)
    refine h2 _ _ ?_
    try clear h2 K_h2
    refine T.regi hm ?_
    simp only [↓reduceIte, namesOf, List.any, I.names, aopsI, astep, ev, setd, List.set, List.getD, List.getElem?_cons_zero, List.getElem?_cons_succ, List.cons_append, List.nil_append, List.replicate, then_normal, Option.getD_some, Bool.or_false, Bool.false_eq_true, up_zero, binv, ↓opt_def, eq_self, hw]
    refine ⟨hil, _, _, Gh.keep [0, 1, 5], rfl, ?_, rfl⟩
    rw [List.take_succ_eq_append_getElem hil, List.take_succ_eq_append_getElem hjl, hpre, hA, hB, he]
  · have hab : a ≠ b := fun h => by subst h; exact he (hA.symm.trans hB)
    have hdn : decide (a = b) = false := decide_eq_false hab
    by_cases hi2 : ta.id = tb.id
    · have e3 : ((ta.id : Int) != (tb.id : Int)) = false := by rw [hi2]; simp
      have e4 : decide (ta.sp = tb.sp) = false := decide_eq_false (fun h => he (by cases ta; cases tb; simp_all))
      refine T.seq_k (fun K_h0 h0 => ?_)
      refine T.regi hm ?_
      simp only [↓reduceIte, namesOf, List.any, I.names, aopsI, astep, ev, setd, List.set, List.getD, List.getElem?_cons_zero, List.getElem?_cons_succ, List.cons_append, List.nil_append, List.length_cons, List.length_nil, List.replicate, then_normal, Option.getD_some, Bool.or_false, Bool.false_eq_true, up_zero, Nat.reduceAdd, binv, ↓opt_def, AV.cells, ldc, Int.natCast_nonneg, lt_len, Int.toNat_natCast, true_and, and_true, eq_self, tcs_len, tcs_get hil, tcs_get hjl, hA, hB, hil, hjl, tcav, Bool.not_false, Nat.zero_add, List.drop, e3, e4]
      refine h0 _ _ ?_
      try clear h0 K_h0
      refine T.cond rfl (fun _ => ?_) (fun h => by cases h)
      refine T.seq_k (fun K_h0 h0 => ?_)
      refine T.regi hm ?_
      simp only [↓reduceIte, namesOf, List.any, I.names, aopsI, astep, ev, setd, List.set, List.cons_append, List.nil_append, List.replicate, then_normal, Bool.or_false, Bool.false_eq_true, up_zero]
      refine h0 _ _ ?_
      try clear h0 K_h0
      exact T.ret (Fin.ret rfl ⟨by rw [hdn]; rfl, rfl⟩)
    · have e3 : ((ta.id : Int) != (tb.id : Int)) = true := by rw [bne_iff_ne]; omega
      refine T.seq_k (fun K_h0 h0 => ?_)
      refine T.regi hm ?_
      simp only [↓reduceIte, namesOf, List.any, I.names, aopsI, astep, ev, setd, List.set, List.getD, List.getElem?_cons_zero, List.getElem?_cons_succ, List.cons_append, List.nil_append, List.length_cons, List.length_nil, List.replicate, then_normal, Option.getD_some, Bool.or_false, Bool.false_eq_true, up_zero, Nat.reduceAdd, binv, ↓opt_def, AV.cells, ldc, Int.natCast_nonneg, lt_len, Int.toNat_natCast, true_and, and_true, eq_self, reduceCtorEq, tcs_len, tcs_get hil, tcs_get hjl, hA, hB, hil, hjl, tcav, Nat.zero_add, List.drop, e3]
      refine h0 _ _ ?_
      try clear h0 K_h0
      refine T.cond rfl (fun _ => ?_) (fun h => by cases h)
      refine T.seq_k (fun K_h0 h0 => ?_)
      refine T.regi hm ?_
      simp only [↓reduceIte, namesOf, List.any, I.names, aopsI, astep, ev, setd, List.set, List.cons_append, List.nil_append, List.replicate, then_normal, Bool.or_false, Bool.false_eq_true, up_zero]
      refine h0 _ _ ?_
      try clear h0 K_h0
      exact T.ret (Fin.ret rfl ⟨by rw [hdn]; rfl, rfl⟩)

end Go.VL

namespace Go.VL

open Go.Proofs

theorem flat_sp_le {l : List Tc} (i : Nat) : ((l.take i).flatMap Tc.sp).length ≤ (l.flatMap Tc.sp).length := by
  conv => rhs; rw [← List.take_append_drop i l, List.flatMap_append, List.length_append]
  omega

end Go.VL

namespace Go.VL

open Go.Proofs

/-- an owned thing nm, and a row that grows -/
structure RS (σ σ' : St) (nm : Nat) (r : Res) (k : Nat) (v : Ver) : Prop where
  old : ∀ m, m < σ.next → σ'.res m = σ.res m
  lo : σ.next ≤ nm
  hi : nm < σ'.next
  at_ : σ'.res nm = some r
  ver : v = .nil ∨ ∃ g, v = .tip g ∧ g ≠ nm ∧ σ.next ≤ g ∧ g < σ'.next ∧ σ'.res g = some (.tip k)

theorem RS.set {σ σ' : St} {nm k : Nat} {r : Res} {v : Ver} (h : RS σ σ' nm r k v) (r' : Res) : RS σ (σ'.set nm r') nm r' k v where
  old := fun m hm => by rw [St.set_other _ _ (by have := h.lo; omega)]; exact h.old m hm
  lo := h.lo
  hi := h.hi
  at_ := by simp
  ver := h.ver.imp id fun ⟨g, h1, h2, h3, h4, h5⟩ => ⟨g, h1, h2, h3, h4, by rw [St.set_other _ _ h2]; exact h5⟩

theorem RS.up {σ σ' : St} {nm k : Nat} {r : Res} {v : Ver} (h : RS σ σ' nm r k v) (n : Nat) : RS σ (σ'.up n) nm r k v :=
  ⟨h.old, h.lo, Nat.lt_of_lt_of_le h.hi (Nat.le_add_right _ _), h.at_, h.ver.imp id fun ⟨g, h1, h2, h3, h4, h5⟩ => ⟨g, h1, h2, h3, Nat.lt_of_lt_of_le h4 (Nat.le_add_right _ _), h5⟩⟩

theorem RS.nil {σ σ' : St} {nm k g2 : Nat} {r : Res} (h : RS σ σ' nm r k .nil) (h1 : nm < g2) (h2 : g2 < σ'.next) : RS σ (σ'.set g2 (.tip k)) nm r k (.tip g2) where
  old := fun m hm => by rw [St.set_other _ _ (by have := h.lo; omega)]; exact h.old m hm
  lo := h.lo
  hi := h.hi
  at_ := by rw [St.set_other _ _ (by omega)]; exact h.at_
  ver := .inr ⟨g2, rfl, by omega, by have := h.lo; omega, h2, by simp⟩

theorem RS.tip {σ σ' : St} {nm k g g2 : Nat} {r : Res} (h : RS σ σ' nm r k (.tip g)) (h1 : nm < g2) (h2 : g2 < σ'.next) : RS σ ((σ'.del g).set g2 (.tip k)) nm r k (.tip g2) := by
  obtain ⟨g', e, a1, a2, a3, a4⟩ := h.ver.resolve_left (by simp)
  cases e
  refine ⟨fun m hm => ?_, h.lo, h.hi, ?_, .inr ⟨g2, rfl, by omega, by have := h.lo; omega, h2, by simp⟩⟩
  · rw [St.set_other _ _ (by have := h.lo; omega)]
    simp only [St.del]
    rw [if_neg (by omega)]; exact h.old m hm
  · rw [St.set_other _ _ (by omega)]
    simp only [St.del]
    rw [if_neg (fun e => a1 e.symm)]; exact h.at_

theorem RS.quiet {σ σ' : St} {nm k : Nat} {r : Res} {v : Ver} (wf : WF σ) (h : RS σ σ' nm r k v) : ∀ m s, σ.res m = some s → σ'.res m = some s := by
  intro m s hm
  have : m < σ.next := by
    rcases Nat.lt_or_ge m σ.next with h | h
    · exact h
    · rw [wf m h] at hm; cases hm
  rw [h.old m this]; exact hm

end Go.VL

namespace Go.VL

open Go.Proofs

theorem tcs_take (a : List Tc) (n : Nat) : (tcsAV a).take n = tcsAV (a.take n) := by simp [tcsAV, List.map_take]

theorem tcs_drop (a : List Tc) (n : Nat) : (tcsAV a).drop n = tcsAV (a.drop n) := by simp [tcsAV, List.map_drop]

end Go.VL

namespace Go.VL

open Go.Proofs

/-! ### Group, plain -/

def atG (out : List Tc) (id : Nat) : Nat := out.findIdx fun t => decide (id ≤ t.id)

def insG (out : List Tc) (id : Nat) (sp : List Sp) : List Tc := match out[atG out id]? with
  | some t => if t.id = id then out else out.take (atG out id) ++ [⟨id, sp⟩] ++ out.drop (atG out id)
  | none => out.take (atG out id) ++ [⟨id, sp⟩] ++ out.drop (atG out id)

def groupN (l : List Sp) : Nat → List Tc
  | 0 => []
  | n + 1 => match l[n]? with
    | some s => insG (groupN l n) s.tr (ofT s.tr (gatherL l))
    | none => groupN l n

def groupL (l : List Sp) : List Tc := groupN l l.length

theorem atG_le (out : List Tc) (id : Nat) : atG out id ≤ out.length := List.findIdx_le_length

theorem insG_len (out : List Tc) (id : Nat) (sp : List Sp) : (insG out id sp).length ≤ out.length + 1 := by
  have := atG_le out id
  unfold insG
  split
  · split
    · omega
    · simp only [List.length_append, List.length_take, List.length_drop, List.length_singleton]; omega
  · simp only [List.length_append, List.length_take, List.length_drop, List.length_singleton]; omega

theorem groupN_len (l : List Sp) : ∀ n, (groupN l n).length ≤ n
  | 0 => Nat.le_refl _
  | n + 1 => by
    unfold groupN
    split
    · have := insG_len (groupN l n) (by assumption : Sp).tr (ofT (by assumption : Sp).tr (gatherL l))
      have := groupN_len l n
      omega
    · have := groupN_len l n; omega

/-- what is grouped, told -/
structure GroupOf (l : List Sp) (ids : Nat → Prop) (out : List Tc) : Prop where
  sorted : out.Pairwise (fun a b => a.id < b.id)
  sp : ∀ t ∈ out, t.sp = ofT t.id (gatherL l)
  ids : ∀ id, (∃ t ∈ out, t.id = id) ↔ ids id

theorem GroupOf.uniq {l : List Sp} {ids : Nat → Prop} {a b : List Tc} (ha : GroupOf l ids a) (hb : GroupOf l ids b) : a = b := by
  have key : ∀ {a b : List Tc}, GroupOf l ids a → GroupOf l ids b → ∀ t ∈ a, t ∈ b := by
    intro a b ha hb t ht
    obtain ⟨u, hu, he⟩ := (hb.ids t.id).2 ((ha.ids t.id).1 ⟨t, ht, rfl⟩)
    have : u = t := by
      have h1 := ha.sp t ht
      have h2 := hb.sp u hu
      cases t; cases u
      simp only at he h1 h2 ⊢
      subst he
      rw [h1, h2]
    exact this ▸ hu
  have nd : ∀ {a : List Tc}, a.Pairwise (fun a b => a.id < b.id) → a.Nodup := fun h => h.imp fun {a b} hab e => by subst e; omega
  refine List.Perm.eq_of_pairwise (le := fun a b => a.id < b.id) (fun a b _ _ h1 h2 => by omega) ha.sorted hb.sorted ?_
  exact (List.perm_ext_iff_of_nodup (nd ha.sorted) (nd hb.sorted)).2 fun t => ⟨key ha hb t, key hb ha t⟩

theorem atG_take {out : List Tc} {id : Nat} : ∀ t ∈ out.take (atG out id), t.id < id := by
  intro t ht
  obtain ⟨j, hj, rfl⟩ := List.getElem_of_mem ht
  rw [List.length_take] at hj
  rw [List.getElem_take]
  have := List.not_of_lt_findIdx (p := fun t : Tc => decide (id ≤ t.id)) (xs := out) (i := j) (by unfold atG at hj; omega)
  simp at this; exact this

theorem atG_drop {out : List Tc} {id : Nat} (hs : out.Pairwise (fun a b => a.id < b.id)) : ∀ t ∈ out.drop (atG out id), id ≤ t.id := by
  intro t ht
  obtain ⟨j, hj, rfl⟩ := List.getElem_of_mem ht
  rw [List.length_drop] at hj
  rw [List.getElem_drop]
  have hlt : atG out id < out.length := by omega
  have h0 := List.findIdx_getElem (p := fun t : Tc => decide (id ≤ t.id)) (xs := out) (w := hlt)
  simp only [decide_eq_true_eq] at h0
  have h0' : id ≤ (out[atG out id]'hlt).id := h0
  rcases Nat.eq_zero_or_pos j with rfl | hp
  · exact h0'
  · have := List.pairwise_iff_getElem.1 hs (atG out id) (atG out id + j) hlt (by omega) (by omega)
    omega

theorem GroupOf.ins {l : List Sp} {ids : Nat → Prop} {out : List Tc} (h : GroupOf l ids out) (id : Nat) : GroupOf l (fun x => ids x ∨ x = id) (insG out id (ofT id (gatherL l))) := by
  have new : (¬ ∃ t ∈ out, t.id = id) → GroupOf l (fun x => ids x ∨ x = id) (out.take (atG out id) ++ [⟨id, ofT id (gatherL l)⟩] ++ out.drop (atG out id)) := by
    intro hno
    have hmem : ∀ t, t ∈ out.take (atG out id) ++ [(⟨id, ofT id (gatherL l)⟩ : Tc)] ++ out.drop (atG out id) ↔ t ∈ out ∨ t = ⟨id, ofT id (gatherL l)⟩ := by
      intro t
      have e : t ∈ out ↔ t ∈ out.take (atG out id) ∨ t ∈ out.drop (atG out id) := by
        conv => lhs; rw [← List.take_append_drop (atG out id) out]
        exact List.mem_append
      simp only [List.mem_append, List.mem_singleton, e]
      constructor
      · rintro ((h | h) | h)
        · exact .inl (.inl h)
        · exact .inr h
        · exact .inl (.inr h)
      · rintro ((h | h) | h)
        · exact .inl (.inl h)
        · exact .inr h
        · exact .inl (.inr h)
    refine ⟨?_, fun t ht => ?_, fun x => ?_⟩
    · rw [List.append_assoc, List.pairwise_append]
      refine ⟨h.sorted.sublist (List.take_sublist _ _), List.pairwise_append.2 ⟨List.pairwise_singleton _ _, h.sorted.sublist (List.drop_sublist _ _), fun a ha b hb => ?_⟩, fun a ha b hb => ?_⟩
      · simp only [List.mem_singleton] at ha; subst ha
        have h1 := atG_drop h.sorted b hb
        have h2 : b.id ≠ id := fun e => hno ⟨b, List.mem_of_mem_drop hb, e⟩
        show id < b.id
        omega
      · have h1 := atG_take a ha
        rcases List.mem_append.1 hb with hb | hb
        · simp only [List.mem_singleton] at hb; subst hb; exact h1
        · have := atG_drop h.sorted b hb; omega
    · rcases (hmem t).1 ht with ht | rfl
      · exact h.sp t ht
      · rfl
    · constructor
      · rintro ⟨t, ht, rfl⟩
        rcases (hmem t).1 ht with ht | rfl
        · exact .inl ((h.ids _).1 ⟨t, ht, rfl⟩)
        · exact .inr rfl
      · rintro (hx | rfl)
        · obtain ⟨t, ht, e⟩ := (h.ids x).2 hx
          exact ⟨t, (hmem t).2 (.inl ht), e⟩
        · exact ⟨_, (hmem _).2 (.inr rfl), rfl⟩
  unfold insG
  split
  · rename_i t ht
    split
    · rename_i he
      refine ⟨h.sorted, h.sp, fun x => ?_⟩
      rw [h.ids]
      refine ⟨.inl, ?_⟩
      rintro (hx | rfl)
      · exact hx
      · exact (h.ids _).1 ⟨t, List.mem_of_getElem? ht, he⟩
    · rename_i hne
      refine new ?_
      rintro ⟨u, hu, rfl⟩
      have e : u ∈ out.take (atG out u.id) ∨ u ∈ out.drop (atG out u.id) := by
        rw [← List.mem_append, List.take_append_drop]; exact hu
      rcases e with e | e
      · have := atG_take u e; omega
      · obtain ⟨hl, rfl⟩ := List.getElem?_eq_some_iff.1 ht
        have h1 := atG_drop h.sorted (out[atG out u.id]) (by rw [List.drop_eq_getElem_cons hl]; exact List.mem_cons_self ..)
        rw [List.drop_eq_getElem_cons hl] at e
        rcases List.mem_cons.1 e with e | e
        · exact hne (by rw [← e])
        · obtain ⟨j, hj, hju⟩ := List.getElem_of_mem e
          rw [List.getElem_drop] at hju
          rw [List.length_drop] at hj
          have := List.pairwise_iff_getElem.1 h.sorted (atG out u.id) (atG out u.id + 1 + j) hl (by omega) (by omega)
          rw [hju] at this; omega
  · rename_i ht
    refine new ?_
    rintro ⟨u, hu, rfl⟩
    have hge : out.length ≤ atG out u.id := List.getElem?_eq_none_iff.1 ht
    have := atG_take u (by rw [List.take_of_length_le hge]; exact hu)
    omega

theorem groupN_is (l : List Sp) : ∀ n, n ≤ l.length → GroupOf l (fun id => ∃ s ∈ l.take n, s.tr = id) (groupN l n)
  | 0, _ => ⟨.nil, fun t ht => (by cases ht), fun id => by simp [groupN]⟩
  | n + 1, hn => by
    have ih := groupN_is l n (by omega)
    have e : l[n]? = some l[n] := by simp
    unfold groupN
    rw [e]
    have := ih.ins l[n].tr
    refine ⟨this.sorted, this.sp, fun id => ?_⟩
    rw [this.ids, List.take_succ_eq_append_getElem (by omega)]
    constructor
    · rintro (⟨s, hs, e⟩ | rfl)
      · exact ⟨s, List.mem_append_left _ hs, e⟩
      · exact ⟨l[n], List.mem_append_right _ (List.mem_singleton.2 rfl), rfl⟩
    · rintro ⟨s, hs, e⟩
      rcases List.mem_append.1 hs with hs | hs
      · exact .inl ⟨s, hs, e⟩
      · simp only [List.mem_singleton] at hs; subst hs; exact .inr e.symm

theorem group_is (l : List Sp) : GroupOf l (fun id => ∃ s ∈ l, s.tr = id) (groupL l) := by
  have := groupN_is l l.length (Nat.le_refl _)
  rwa [List.take_length] at this

/-! ### Flat -/

set_option maxRecDepth 10000 in
theorem rflat_ok {l : List Tc} {g : Ver} {σ : St} (hl : l.length ≤ 1000000000) (hs : (l.flatMap Tc.sp).length ≤ 1000000000) :
    ACalls Try.prog n_rflat [.sl (tcsAV l) g] σ (fun v σ' => v = .sl (spsAV (l.flatMap Tc.sp)) .none ∧ σ' = σ) := by
  refine s_rflat (fun wf => ?_)
  unfold c_rflat
  refine T.seq_k (fun K_h0 h0 => ?_)
  refine T.regi hm ?_
  simp only [↓reduceIte, namesOf, List.any, I.names, aopsI, astep, ev, setd, List.set, List.cons_append, List.nil_append, List.length_cons, List.length_nil, List.replicate, then_normal, Bool.or_false, Bool.false_eq_true, up_zero, Nat.reduceAdd, Nat.reduceSub]
  refine h0 _ _ ?_
  try clear h0 K_h0
  refine T.seq_k (fun K_h0 h0 => ?_)
  refine T.regi hm ?_
  simp only [↓reduceIte, namesOf, List.any, I.names, aopsI, astep, ev, setd, List.set, then_normal, Bool.or_false, Bool.false_eq_true, up_zero]
  refine h0 _ _ ?_
  try clear h0 K_h0
  refine T.seq_k (fun K_h1 h1 => ?_)
  refine T.seq_k (fun K_h0 h0 => ?_)
  refine T.regi hm ?_
  simp only [↓reduceIte, namesOf, List.any, I.names, aopsI, astep, ev, setd, List.set, then_normal, Bool.or_false, Bool.false_eq_true, up_zero]
  refine h0 _ _ ?_
  try clear h0 K_h0
  refine T.block ?_
  refine T.gh (Gh.keep [0, 3, 4]) ?_
  refine T.loopi (fun i ρ t => (∃ x G, AccG σ t 5 (spsAV ((l.take i).flatMap Tc.sp)) x G ∧ ρ = [.sl (tcsAV l) g, .any, .any, x, .int .i64 (i : Int)] ++ List.replicate 14 .any))
    l.length 0 (Nat.zero_le _) ⟨_, none, .nil (.refl _), rfl⟩ ?_
  rintro i ρ t hi ⟨x, G, hA, rfl⟩
  refine T.seq_k (fun K_h2 h2 => ?_)
  refine T.seq_k (fun K_h0 h0 => ?_)
  refine T.regi hm ?_
  simp only [↓reduceIte, namesOf, List.any, I.names, aopsI, astep, ev, setd, List.set, List.getD, List.getElem?_cons_zero, List.getElem?_cons_succ, List.cons_append, List.nil_append, List.replicate, then_normal, Option.getD_some, Bool.or_false, Bool.false_eq_true, up_zero, binv, ↓opt_def, lt_len, eq_self, tcs_len]
  refine h0 _ _ ?_
  try clear h0 K_h0
  by_cases hil : i < l.length
  case neg =>
    refine T.cond (b := false) (by simp [ev]; omega) (fun h => by cases h) (fun _ => T.exit ?_)
    have : i = l.length := by omega
    subst this
    rw [List.take_length] at hA
    try simp only [List.cons_append, List.nil_append, List.replicate, then_normal, inBlock_exit, then_exit]
    refine h1 _ _ ?_
    try clear h1 K_h1
    refine T.seq_k (fun K_h0 h0 => ?_)
    refine T.regi hm ?_
    simp only [↓reduceIte, namesOf, List.any, I.names, aopsI, astep, ev, setd, List.set, List.getD, List.getElem?_cons_zero, List.getElem?_cons_succ, then_normal, Option.getD_some, Bool.or_false, Bool.false_eq_true, up_zero]
    refine h0 _ _ ?_
    try clear h0 K_h0
    exact T.ret (Fin.quietw rfl hA.wk ⟨nbs_sps _ _, trivial⟩ (hA.quiet wf) ⟨rfl, rfl⟩)
  refine T.cond (b := true) (by simp [ev]; omega) (fun _ => T.skip ?_) (fun h => by cases h)
  refine h2 _ _ ?_
  try clear h2 K_h2
  have hiw := inc64' hil (by omega)
  have hilI : (i : Int) < (l.length : Int) := by omega
  have hg := tcs_get hil
  have hfs : (l.take (i + 1)).flatMap Tc.sp = (l.take i).flatMap Tc.sp ++ l[i].sp := flat_snoc Tc.sp hil
  have hfl := flat_sp_le (l := l) (i + 1)
  rw [hfs, List.length_append] at hfl
  generalize l[i] = y at hg hfs hfl
  rw [tcav'] at hg
  refine T.seq_k (fun K_h2 h2 => ?_)
  refine T.block ?_
  refine T.regt hm (tbl := []) Tbl.ok_nil ?_
  refine aopsT_cut 6 (fun K_c h_c => ?_)
  simp only [List.take_succ_cons, List.take_zero]
  try simp only [↓reduceIte, namesOf, List.any, I.names, aopsT, qstep, astep, ev, setd, List.set, List.getD, List.getElem?_cons_zero, List.getElem?_cons_succ, List.length_cons, List.length_nil, Option.getD_some, Bool.or_false, Bool.or_true, Nat.reduceAdd, ↓opt_def, AV.cells, ldc, Int.natCast_nonneg, Int.toNat_natCast, and_true, eq_self, hilI, hg, tcs_len, Nat.zero_add, List.drop]
  refine h_c _ _ ?_
  clear h_c K_c
  simp only [List.drop_succ_cons, List.drop_zero, Nat.zero_add]
  refine aopsT_acc (hA.up 8) (by have := hA.like.next; omega) (by simp) rfl (ys := spsAV y.sp) ?_ ?_ ?_ (fun x' t' G' hA3 _ _ _ _ => ?_)
  · show some ((spsAV y.sp).map AV.er) = _
    rw [sps_er]
  · rw [sps_app]; exact sps_fits _
  · rw [sps_len, sps_len]; omega
  try simp only [aopsT, qstep, astep, ev, setd, List.set, List.getD, List.getElem?_cons_zero, List.getElem?_cons_succ, List.cons_append, List.nil_append, List.replicate, then_normal, inBlock_normal, Option.getD_some, ]
  refine h2 _ _ ?_
  try clear h2 K_h2
  refine T.regi hm ?_
  simp only [↓reduceIte, namesOf, List.any, I.names, aopsI, astep, ev, setd, List.set, List.getD, List.getElem?_cons_zero, List.getElem?_cons_succ, List.cons_append, List.nil_append, List.replicate, then_normal, Option.getD_some, Bool.or_false, Bool.false_eq_true, up_zero, binv, ↓opt_def, eq_self, hiw]
  refine ⟨hil, _, _, Gh.keep [0, 3, 4], x', G', ?_, rfl⟩
  rw [hfs, ← sps_app]; exact hA3

def spansP (l : List (List Tc)) : List Sp := l.flatMap fun r => r.flatMap Tc.sp

theorem spansP_le {l : List (List Tc)} (i : Nat) : (spansP (l.take i)).length ≤ (spansP l).length := by
  unfold spansP
  conv => rhs; rw [← List.take_append_drop i l, List.flatMap_append, List.length_append]
  omega

set_option maxRecDepth 10000 in
theorem spans10_ok {l : List (List Tc)} {g : Ver} {σ : St} (hl : l.length ≤ 1000000) (hr : ∀ r ∈ l, r.length ≤ 1000000) (hs : (spansP l).length ≤ 1000000) :
    ACalls Try.prog n_spans10 [.sl (pgsAV l) g] σ (fun v σ' => v = .sl (spsAV (spansP l)) .none ∧ σ' = σ) := by
  refine s_spans10 (fun wf => ?_)
  unfold c_spans10
  refine T.seq_k (fun K_h0 h0 => ?_)
  refine T.regi hm ?_
  simp only [↓reduceIte, namesOf, List.any, I.names, aopsI, astep, ev, setd, List.set, List.cons_append, List.nil_append, List.length_cons, List.length_nil, List.replicate, then_normal, Bool.or_false, Bool.false_eq_true, up_zero, Nat.reduceAdd, Nat.reduceSub]
  refine h0 _ _ ?_
  try clear h0 K_h0
  refine T.seq_k (fun K_h0 h0 => ?_)
  refine T.regi hm ?_
  simp only [↓reduceIte, namesOf, List.any, I.names, aopsI, astep, ev, setd, List.set, then_normal, Bool.or_false, Bool.false_eq_true, up_zero]
  refine h0 _ _ ?_
  try clear h0 K_h0
  refine T.seq_k (fun K_h1 h1 => ?_)
  refine T.seq_k (fun K_h0 h0 => ?_)
  refine T.regi hm ?_
  simp only [↓reduceIte, namesOf, List.any, I.names, aopsI, astep, ev, setd, List.set, then_normal, Bool.or_false, Bool.false_eq_true, up_zero]
  refine h0 _ _ ?_
  try clear h0 K_h0
  refine T.block ?_
  refine T.gh (Gh.keep [0, 3, 4]) ?_
  refine T.loopi (fun i ρ t => (∃ x G, AccG σ t 5 (spsAV (spansP (l.take i))) x G ∧ ρ = [.sl (pgsAV l) g, .any, .any, x, .int .i64 (i : Int)] ++ List.replicate 14 .any))
    l.length 0 (Nat.zero_le _) ⟨_, none, .nil (.refl _), rfl⟩ ?_
  rintro i ρ t hi ⟨x, G, hA, rfl⟩
  refine T.seq_k (fun K_h2 h2 => ?_)
  refine T.seq_k (fun K_h0 h0 => ?_)
  refine T.regi hm ?_
  simp only [↓reduceIte, namesOf, List.any, I.names, aopsI, astep, ev, setd, List.set, List.getD, List.getElem?_cons_zero, List.getElem?_cons_succ, List.cons_append, List.nil_append, List.replicate, then_normal, Option.getD_some, Bool.or_false, Bool.false_eq_true, up_zero, binv, ↓opt_def, lt_len, eq_self, pgs_len]
  refine h0 _ _ ?_
  try clear h0 K_h0
  by_cases hil : i < l.length
  case neg =>
    refine T.cond (b := false) (by simp [ev]; omega) (fun h => by cases h) (fun _ => T.exit ?_)
    have : i = l.length := by omega
    subst this
    rw [List.take_length] at hA
    try simp only [List.cons_append, List.nil_append, List.replicate, then_normal, inBlock_exit, then_exit]
    refine h1 _ _ ?_
    try clear h1 K_h1
    refine T.seq_k (fun K_h0 h0 => ?_)
    refine T.regi hm ?_
    simp only [↓reduceIte, namesOf, List.any, I.names, aopsI, astep, ev, setd, List.set, List.getD, List.getElem?_cons_zero, List.getElem?_cons_succ, then_normal, Option.getD_some, Bool.or_false, Bool.false_eq_true, up_zero]
    refine h0 _ _ ?_
    try clear h0 K_h0
    exact T.ret (Fin.quietw rfl hA.wk ⟨nbs_sps _ _, trivial⟩ (hA.quiet wf) ⟨rfl, rfl⟩)
  refine T.cond (b := true) (by simp [ev]; omega) (fun _ => T.skip ?_) (fun h => by cases h)
  refine h2 _ _ ?_
  try clear h2 K_h2
  have hiw := inc64' hil (by omega)
  have hilI : (i : Int) < (l.length : Int) := by omega
  have hg := pgs_get hil
  have hfs : spansP (l.take (i + 1)) = spansP (l.take i) ++ l[i].flatMap Tc.sp := flat_snoc (fun r : List Tc => r.flatMap Tc.sp) hil
  have hfl := spansP_le (l := l) (i + 1)
  rw [hfs, List.length_append] at hfl
  have hrl := hr _ (List.getElem_mem hil)
  generalize l[i] = y at hg hfs hfl hrl
  refine T.seq_k (fun K_h2 h2 => ?_)
  refine T.block ?_
  refine T.regt hm (tbl := []) Tbl.ok_nil ?_
  refine aopsT_cut 6 (fun K_c h_c => ?_)
  simp only [List.take_succ_cons, List.take_zero]
  try simp only [↓reduceIte, namesOf, List.any, I.names, aopsT, qstep, CPt, Tbl.get, astep, ev, setd, List.set, List.getD, List.getElem?_cons_zero, List.getElem?_cons_succ, List.length_cons, List.length_nil, Option.getD_some, Bool.or_false, Bool.or_true, Nat.reduceAdd, ↓opt_def, AV.cells, ldc, List.map_cons, List.map_nil, Int.natCast_nonneg, Int.toNat_natCast, and_true, eq_self, hilI, hg, pgs_len, Nat.zero_add]
  refine (rflat_ok (by omega) (by omega)).mono ?_
  rintro _ _ ⟨rfl, rfl⟩
  refine h_c _ _ ?_
  clear h_c K_c
  simp only [List.drop_succ_cons, List.drop_zero, Nat.zero_add]
  refine aopsT_acc (hA.up 8) (by have := hA.like.next; omega) (by simp) rfl (ys := spsAV (y.flatMap Tc.sp)) ?_ ?_ ?_ (fun x' t' G' hA3 _ _ _ _ => ?_)
  · show some ((spsAV (y.flatMap Tc.sp)).map AV.er) = _
    rw [sps_er]
  · rw [sps_app]; exact sps_fits _
  · rw [sps_len, sps_len]; omega
  try simp only [aopsT, qstep, astep, ev, setd, List.set, List.getD, List.getElem?_cons_zero, List.getElem?_cons_succ, List.cons_append, List.nil_append, List.replicate, then_normal, inBlock_normal, Option.getD_some, ]
  refine h2 _ _ ?_
  try clear h2 K_h2
  refine T.regi hm ?_
  simp only [↓reduceIte, namesOf, List.any, I.names, aopsI, astep, ev, setd, List.set, List.getD, List.getElem?_cons_zero, List.getElem?_cons_succ, List.cons_append, List.nil_append, List.replicate, then_normal, Option.getD_some, Bool.or_false, Bool.false_eq_true, up_zero, binv, ↓opt_def, eq_self, hiw]
  refine ⟨hil, _, _, Gh.keep [0, 3, 4], x', G', ?_, rfl⟩
  rw [hfs, ← sps_app]; exact hA3

def small8 (l : List (List Tc)) : Bool := l.all (fewtB 100) && decide (l.length ≤ 8)

set_option maxRecDepth 10000 in
theorem small10_ok {l : List (List Tc)} {g : Ver} {σ : St} (hl : l.length ≤ 9223372036854775807) (hs : ∀ p ∈ l, p.length ≤ 9223372036854775807 ∧ ∀ t ∈ p, t.sp.length ≤ 9223372036854775807) :
    ACalls Try.prog n_small10 [.sl (pgsAV l) g] σ (fun v σ' => v = .bool (small8 l) ∧ σ' = σ) := by
  refine s_small10 (fun wf => ?_)
  unfold c_small10
  refine T.seq_k (fun K_h0 h0 => ?_)
  refine T.regi hm ?_
  simp only [↓reduceIte, namesOf, List.any, I.names, aopsI, astep, ev, setd, List.set, List.cons_append, List.nil_append, List.length_cons, List.length_nil, List.replicate, then_normal, Bool.or_false, Bool.false_eq_true, up_zero, Nat.reduceAdd, Nat.reduceSub]
  refine h0 _ _ ?_
  try clear h0 K_h0
  refine T.seq_k (fun K_h1 h1 => ?_)
  refine T.seq_k (fun K_h0 h0 => ?_)
  refine T.regi hm ?_
  simp only [↓reduceIte, namesOf, List.any, I.names, aopsI, astep, ev, setd, List.set, then_normal, Bool.or_false, Bool.false_eq_true, up_zero]
  refine h0 _ _ ?_
  try clear h0 K_h0
  refine T.block ?_
  refine T.gh (Gh.keep [0, 3]) ?_
  refine T.loopi (fun i ρ t => t = σ ∧ (l.take i).all (fewtB 100) = true ∧ ρ = [.sl (pgsAV l) g, .any, .any, .int .i64 (i : Int)] ++ List.replicate 17 .any)
    l.length 0 (Nat.zero_le _) ⟨rfl, rfl, rfl⟩ ?_
  rintro i ρ t hi ⟨rfl, hpre, rfl⟩
  refine T.seq_k (fun K_h2 h2 => ?_)
  refine T.seq_k (fun K_h0 h0 => ?_)
  refine T.regi hm ?_
  simp only [↓reduceIte, namesOf, List.any, I.names, aopsI, astep, ev, setd, List.set, List.getD, List.getElem?_cons_zero, List.getElem?_cons_succ, List.cons_append, List.nil_append, List.replicate, then_normal, Option.getD_some, Bool.or_false, Bool.false_eq_true, up_zero, binv, ↓opt_def, lt_len, eq_self, pgs_len]
  refine h0 _ _ ?_
  try clear h0 K_h0
  by_cases hil : i < l.length
  case neg =>
    refine T.cond (b := false) (by simp [ev]; omega) (fun h => by cases h) (fun _ => T.exit ?_)
    have : i = l.length := by omega
    subst this
    rw [List.take_length] at hpre
    try simp only [List.cons_append, List.nil_append, List.replicate, then_normal, inBlock_exit, then_exit]
    refine h1 _ _ ?_
    try clear h1 K_h1
    refine T.seq_k (fun K_h0 h0 => ?_)
    refine T.regi hm ?_
    simp only [↓reduceIte, namesOf, List.any, I.names, aopsI, astep, ev, setd, List.set, List.getD, List.getElem?_cons_zero, List.getElem?_cons_succ, then_normal, Option.getD_some, Bool.or_false, Bool.false_eq_true, up_zero, binv, ↓opt_def, eq_self, pgs_len]
    refine h0 _ _ ?_
    try clear h0 K_h0
    refine T.ret (Fin.ret rfl ⟨?_, rfl⟩)
    show AV.bool _ = _
    unfold small8
    rw [hpre, Bool.true_and]
    congr 1
    rw [decide_eq_decide]; omega
  refine T.cond (b := true) (by simp [ev]; omega) (fun _ => T.skip ?_) (fun h => by cases h)
  refine h2 _ _ ?_
  try clear h2 K_h2
  have hiw := inc64 hil hl
  have hilI : (i : Int) < (l.length : Int) := by omega
  have hg := pgs_get hil
  obtain ⟨hp1, hp2⟩ := hs _ (List.getElem_mem hil)
  refine T.seq_k (fun K_h2 h2 => ?_)
  refine T.block ?_
  refine T.seq_k (fun K_h3 h3 => ?_)
  refine T.regi hm ?_
  simp only [↓reduceIte, namesOf, List.any, I.names, aopsI, astep, ev, setd, List.set, List.getD, List.getElem?_cons_zero, List.getElem?_cons_succ, List.cons_append, List.nil_append, List.length_cons, List.length_nil, List.replicate, then_normal, Option.getD_some, Bool.or_false, Bool.false_eq_true, up_zero, ↓opt_def, AV.cells, ldc, List.map_cons, List.map_nil, Int.natCast_nonneg, Int.toNat_natCast, and_true, eq_self, hilI, hg, pgs_len, Nat.zero_add]
  refine (fewt_ok hp1 hp2).mono ?_
  rintro v t2 ⟨rfl, rfl⟩
  try simp only [↓reduceIte, namesOf, List.any, I.names, aops, aopsI, aopsT, qstep, CPt, qget, Tbl.get, astep, ev, setd, List.set, List.getD, List.getElem?_cons_zero, List.getElem?_cons_succ, List.getElem?_nil, List.cons_append, List.nil_append, List.length_cons, List.length_nil, List.replicate, then_normal, inBlock_normal, Option.getD_some, Option.getD_none, Bool.or_false, Bool.or_true, Bool.true_or, Bool.false_or, Bool.false_eq_true, if_false, if_true, up_zero, Nat.reduceAdd, Nat.reduceSub, binv, ↓opt_def, AV.isAny, AV.cells, ldc, List.map_cons, List.map_nil, St.set_next, St.set_same, St.up_next, Int.natCast_nonneg, lt_len, le_len, Int.toNat_natCast, true_and, and_true, eq_self, reduceCtorEq, decide_true, List.length_singleton, er_int, er_bool, er_str, up_zero]
  refine h3 _ _ ?_
  try clear h3 K_h3
  refine T.seq_k (fun K_h0 h0 => ?_)
  refine T.regi hm ?_
  simp only [↓reduceIte, namesOf, List.any, I.names, aopsI, astep, ev, setd, List.set, List.getD, List.getElem?_cons_zero, List.getElem?_cons_succ, List.cons_append, List.nil_append, List.replicate, then_normal, Option.getD_some, Bool.or_false, Bool.false_eq_true, up_zero]
  refine h0 _ _ ?_
  try clear h0 K_h0
  cases hf : fewtB 100 l[i] with
  | false =>
    refine T.cond rfl (fun _ => ?_) (fun h => by cases h)
    refine T.seq_k (fun K_h0 h0 => ?_)
    refine T.regi hm ?_
    simp only [↓reduceIte, namesOf, List.any, I.names, aopsI, astep, ev, setd, List.set, List.cons_append, List.nil_append, List.replicate, then_normal, Bool.or_false, Bool.false_eq_true, up_zero]
    refine h0 _ _ ?_
    try clear h0 K_h0
    refine T.ret (Fin.ret rfl ⟨?_, rfl⟩)
    show AV.bool _ = _
    unfold small8
    rw [all_ff hil hf]; rfl
  | true =>
    refine T.cond rfl (fun h => by cases h) (fun _ => T.skip ?_)
    try simp only [List.cons_append, List.nil_append, List.replicate, then_normal, inBlock_normal, inBlock_normal]
    refine h2 _ _ ?_
    try clear h2 K_h2
    refine T.regi hm ?_
    simp only [↓reduceIte, namesOf, List.any, I.names, aopsI, astep, ev, setd, List.set, List.getD, List.getElem?_cons_zero, List.getElem?_cons_succ, List.cons_append, List.nil_append, List.replicate, then_normal, Option.getD_some, Bool.or_false, Bool.false_eq_true, up_zero, binv, ↓opt_def, eq_self, hiw]
    exact ⟨hil, _, _, Gh.keep [0, 3], rfl, take_all hil hpre hf, rfl⟩

/-! ### Group -/

theorem atG_eq {out : List Tc} {id k : Nat} (hk : k ≤ out.length) (hno : ∀ j (hj : j < out.length), j < k → out[j].id < id) (hat : k < out.length → ∀ t, out[k]? = some t → id ≤ t.id) : atG out id = k := by
  unfold atG
  by_cases h : k < out.length
  · rw [List.findIdx_eq h]
    exact ⟨by simpa using hat h out[k] (by simp [h]), fun j hj => by simpa using hno j (by omega) hj⟩
  · have : k = out.length := by omega
    subst this
    rw [List.findIdx_eq_length]
    intro t ht
    obtain ⟨j, hj, rfl⟩ := List.getElem_of_mem ht
    simpa using hno j hj hj

theorem gatherOf_len (id : Nat) (l : List Sp) : (ofT id (gatherL l)).length ≤ l.length := by
  unfold ofT
  exact Nat.le_trans (List.length_filter_le _ _) (gather_len l)

set_option maxRecDepth 10000 in
set_option maxHeartbeats 2000000 in
theorem rgroup_ok {l : List Sp} {g : Ver} {σ : St} (hl : l.length ≤ 1000000) : ACalls Try.prog n_rgroup [.sl (spsAV l) g] σ (fun v σ' => v = .sl (tcsAV (groupL l)) .none ∧ σ' = σ) := by
  refine s_rgroup (fun wf => ?_)
  unfold c_rgroup
  refine T.seq_k (fun K_h0 h0 => ?_)
  refine T.regi hm ?_
  simp only [↓reduceIte, namesOf, List.any, I.names, aopsI, astep, ev, setd, List.set, List.cons_append, List.nil_append, List.length_cons, List.length_nil, List.replicate, then_normal, Bool.or_false, Bool.false_eq_true, up_zero, Nat.reduceAdd, Nat.reduceSub]
  refine h0 _ _ ?_
  try clear h0 K_h0
  refine T.seq_k (fun K_h0 h0 => ?_)
  refine T.regi hm ?_
  simp only [↓reduceIte, namesOf, List.any, I.names, aopsI, astep, ev, setd, List.set, then_normal, Bool.or_false, Bool.false_eq_true, up_zero]
  refine h0 _ _ ?_
  try clear h0 K_h0
  refine T.seq_k (fun K_h1 h1 => ?_)
  refine T.seq_k (fun K_h0 h0 => ?_)
  refine T.regi hm ?_
  simp only [↓reduceIte, namesOf, List.any, I.names, aopsI, astep, ev, setd, List.set, then_normal, Bool.or_false, Bool.false_eq_true, up_zero]
  refine h0 _ _ ?_
  try clear h0 K_h0
  refine T.block ?_
  refine T.gh (Gh.keep [0, 3, 4]) ?_
  refine T.loopi (fun i ρ σ' => Like σ σ' ∧ ∃ v, ρ = [.sl (spsAV l) g, .any, .any, .sl (tcsAV (groupN l i)) v, .int .i64 (i : Int)] ++ List.replicate 71 .any)
    l.length 0 (Nat.zero_le _) ⟨.refl σ, .nil, rfl⟩ ?_
  rintro i ρ σ' hi ⟨hL, v0, rfl⟩
  refine T.seq_k (fun K_h2 h2 => ?_)
  refine T.seq_k (fun K_h0 h0 => ?_)
  refine T.regi hm ?_
  simp only [↓reduceIte, namesOf, List.any, I.names, aopsI, astep, ev, setd, List.set, List.getD, List.getElem?_cons_zero, List.getElem?_cons_succ, List.cons_append, List.nil_append, List.replicate, then_normal, Option.getD_some, Bool.or_false, Bool.false_eq_true, up_zero, binv, ↓opt_def, lt_len, eq_self, sps_len]
  refine h0 _ _ ?_
  try clear h0 K_h0
  refine T.cond rfl (fun hb => ?_) (fun hb => ?_)
  · refine T.skip ?_
    refine h2 _ _ ?_
    try clear h2 K_h2
    have hil : i < l.length := by simpa using hb
    clear hb
    have hw := inc64' hil (by omega)
    have hg := sps_get hil
    have hgn : groupN l (i + 1) = insG (groupN l i) l[i].tr (ofT l[i].tr (gatherL l)) := by
      conv => lhs; unfold groupN
      have e : l[i]? = some l[i] := by simp
      rw [e]
    have hol := groupN_len l i
    have hofl := gatherOf_len l[i].tr l
    generalize l[i] = s at hg hgn hofl
    generalize groupN l i = out at hgn hol ⊢
    rw [spav] at hg
    refine T.seq_k (fun K_h2 h2 => ?_)
    refine T.block ?_
    refine T.seq_k (fun K_h0 h0 => ?_)
    refine T.regi hm ?_
    simp only [↓reduceIte, namesOf, List.any, I.names, aopsI, astep, ev, setd, List.set, List.cons_append, List.nil_append, List.replicate, then_normal, Bool.or_false, Bool.false_eq_true, up_zero]
    refine h0 _ _ ?_
    try clear h0 K_h0
    refine T.seq_k (fun K_h3 h3 => ?_)
    refine T.block ?_
    refine T.gh (Gh.keep [0, 3, 4, 5]) ?_
    refine T.loopi (fun k ρ t => t = σ' ∧ (∀ j (hj : j < out.length), j < k → out[j].id < s.tr) ∧ ρ = [.sl (spsAV l) g, .any, .any, .sl (tcsAV out) v0, .int .i64 (i : Int), .int .i64 (k : Int)] ++ List.replicate 70 .any)
      out.length 0 (Nat.zero_le _) ⟨rfl, fun j _ h => absurd h (by omega), rfl⟩ ?_
    rintro k ρ t hk ⟨rfl, hno, rfl⟩
    -- where it stands
    have hdone : (k < out.length → ∀ t, out[k]? = some t → s.tr ≤ t.id) → ∀ ρ' : List AV, keep [0, 3, 4, 5] 0 ρ' = [.sl (spsAV l) g, .any, .any, .sl (tcsAV out) v0, .int .i64 (i : Int), .int .i64 (k : Int)] ++ List.replicate 70 .any → K_h3 ρ' t := by
      intro hat ρ' hρ
      have hatk := atG_eq hk hno hat
      refine h3 _ _ ?_
      clear h3 K_h3 hno
      refine T.gh (Gh.keep [0, 3, 4, 5]) ?_
      rw [hρ]
      refine T.seq_k (fun K_h3 h3 => ?_)
      have hgk : ∀ (_ : k < out.length), ∃ t0 : Tc, out[k]? = some t0 ∧ (tcsAV out)[k]? = some (.agg [.int .u64 (t0.id : Int), .sl (spsAV t0.sp) .none]) := fun h => ⟨out[k], by simp [h], by rw [tcs_get h, tcav']⟩
      -- it is put there
      have hput : insG out s.tr (ofT s.tr (gatherL l)) = out.take k ++ [⟨s.tr, ofT s.tr (gatherL l)⟩] ++ out.drop k → ∀ ρ' : List AV, keep [0, 3, 4, 5] 0 ρ' = [.sl (spsAV l) g, .any, .any, .sl (tcsAV out) v0, .int .i64 (i : Int), .int .i64 (k : Int)] ++ List.replicate 70 .any → K_h3 ρ' t := by
        intro hins ρ' hρ
        refine h3 _ _ ?_
        clear h3 K_h3 hgk
        refine T.gh (Gh.keep [0, 3, 4, 5]) ?_
        rw [hρ]
        have hkl' : (k : Int) ≤ ((tcsAV out).length : Int) := by rw [tcs_len]; omega
        have hkl2 : (k : Int) ≤ (out.length : Int) := by omega
        refine T.seq_k (fun K_h3 h3 => ?_)
        refine T.regt hm (tbl := []) Tbl.ok_nil ?_
        refine aopsT_cut 4 (fun K_c h_c => ?_)
        simp only [List.take_succ_cons, List.take_zero]
        try simp only [↓reduceIte, namesOf, List.any, I.names, aopsT, qstep, astep, ev, setd, List.set, List.getD, List.getElem?_cons_zero, List.getElem?_cons_succ, List.cons_append, List.nil_append, List.length_cons, List.length_nil, List.replicate, Option.getD_some, Bool.or_false, Bool.or_true, Nat.reduceAdd, List.map_nil, Int.natCast_nonneg, Int.toNat_natCast, eq_self, idx, hkl2, tcs_fits, tcs_len, Int.sub_zero, List.drop_zero, Int.toNat_zero, Int.le_refl, tcs_take, held, List.all_nil, and_self]
        refine h_c _ _ ?_
        clear h_c K_c
        simp only [List.drop_succ_cons, List.drop_zero, Nat.zero_add]
        have hn0 := hL.next
        have A1 : AccG σ ((t.up 6).set (t.next + 0) (.tip 2)) 2 [] (.sl [] (.tip (t.next + 0))) (some (t.next + 0)) := .of_tip ⟨hL.box (n := 6) (i := 0) _, by simp, by omega, by simp⟩
        have hu0 : ((t.up 6).set (t.next + 0) (.tip 2)).next = t.next + 6 := rfl
        generalize ((t.up 6).set (t.next + 0) (.tip 2)) = u0 at A1 hu0 ⊢
        refine aopsT_acc A1 (by omega) (by omega) rfl (ys := tcsAV (out.take k)) ?_ ?_ ?_ (fun x1 u1 G1 A2 hn1 _ _ _ => ?_)
        · show some ((tcsAV (out.take k)).map AV.er) = _
          rw [tcs_er]
        · rw [List.nil_append]; exact tcs_fits _
        · have := List.length_take_le k out
          rw [tcs_len, List.length_nil]; omega
        rw [List.nil_append] at A2
        try simp only [aopsT, qstep, astep, ev, setd, List.set, List.getD, List.getElem?_cons_zero, List.getElem?_cons_succ, List.cons_append, List.nil_append, List.replicate, then_normal, Option.getD_some, ]
        refine h3 _ _ ?_
        try clear h3 K_h3
        clear A1
        -- the new one
        refine T.seq_k (fun K_h3 h3 => ?_)
        refine T.regt hm (tbl := []) Tbl.ok_nil ?_
        have hgi := hg
        have hns := A2.like.next
        refine aopsT_cut 13 (fun K_c h_c => ?_)
        try simp only [↓reduceIte, namesOf, List.any, I.names, aopsT, qstep, qget, Tbl.get, astep, ev, setd, List.set, List.getD, List.getElem?_cons_zero, List.getElem?_cons_succ, List.length_cons, List.length_nil, Option.getD_some, Bool.or_false, Bool.or_true, Nat.reduceAdd, ↓opt_def, AV.cells, ldc, List.map_cons, List.map_nil, Int.natCast_nonneg, lt_len, Int.toNat_natCast, and_true, eq_self, hg, hil, sps_len, Nat.zero_add, List.take, List.drop]
        refine ⟨_, rofs_ok (l := l) (id := s.tr) hl, ?_⟩
        refine h_c _ _ ?_
        clear h_c K_c
        simp only [List.drop_succ_cons, List.drop_zero, Nat.zero_add]
        refine aopsT_cut 2 (fun K_c h_c => ?_)
        simp only [List.take_succ_cons, List.take_zero]
        try simp only [↓reduceIte, aopsT, qstep, astep, ev, setd, List.set, List.getD, List.getElem?_cons_zero, List.getElem?_cons_succ, List.cons_append, List.nil_append, List.length_cons, List.length_nil, Option.getD_some, Nat.reduceAdd, ↓opt_def, AV.isAny, AV.cells, List.map_cons, List.map_nil, and_true, eq_self, fillA, ↓Option.map_some, held, AV.er, AV.er1, AV.fits, AV.one, List.all_cons, List.all_nil, Nat.reduceBEq, Bool.not_false, Bool.and_self, Nat.zero_add, splice, List.take, List.drop, Nat.reduceLeDiff]
        refine h_c _ _ ?_
        clear h_c K_c
        simp only [List.drop_succ_cons, List.drop_zero, Nat.reduceAdd]
        refine aopsT_acc (A2.up 17) (by omega) (by simp) rfl (ys := [.agg [.int .u64 (s.tr : Int), .sl (spsAV (ofT s.tr (gatherL l))) .none]]) ?_ ?_ ?_ (fun x2 u2 G2 A3 hn2 _ _ _ => ?_)
        · rfl
        · exact tcs_fits (out.take k ++ [⟨s.tr, ofT s.tr (gatherL l)⟩]) ▸ by simp [tcsAV, Tc.av, spsAV]
        · have hss : [AV.agg [.int .u64 (s.tr : Int), .sl (spsAV (ofT s.tr (gatherL l))) .none]].length = 1 := rfl
          have := List.length_take_le k out
          rw [tcs_len, hss]; omega
        have e2 : tcsAV (out.take k) ++ [.agg [.int .u64 (s.tr : Int), .sl (spsAV (ofT s.tr (gatherL l))) .none]] = tcsAV (out.take k ++ [⟨s.tr, ofT s.tr (gatherL l)⟩]) := by simp [tcsAV, Tc.av, spsAV]
        rw [e2] at A3
        try simp only [aopsT, qstep, astep, ev, setd, List.set, List.getD, List.getElem?_cons_zero, List.getElem?_cons_succ, List.cons_append, List.nil_append, List.replicate, then_normal, Option.getD_some, ]
        refine h3 _ _ ?_
        try clear h3 K_h3
        clear A2 hns hn1
        have hns := A3.like.next
        refine T.regt hm (tbl := []) Tbl.ok_nil ?_
        refine aopsT_cut 4 (fun K_c h_c => ?_)
        simp only [List.take_succ_cons, List.take_zero]
        have hdt : (tcsAV (out.drop k)).take (((out.length : Int) - (k : Int)).toNat) = tcsAV (out.drop k) := by
          rw [List.take_of_length_le]
          rw [tcs_len, List.length_drop]; omega
        try simp only [↓reduceIte, namesOf, List.any, I.names, aopsT, qstep, astep, ev, setd, List.set, List.getD, List.getElem?_cons_zero, List.getElem?_cons_succ, List.length_cons, List.length_nil, Option.getD_some, Bool.or_false, Bool.or_true, Nat.reduceAdd, Int.natCast_nonneg, lt_len, Int.toNat_natCast, true_and, eq_self, idx, hkl2, tcs_fits, tcs_len, Int.le_refl, tcs_drop, hdt, and_self]
        refine h_c _ _ ?_
        clear h_c K_c
        simp only [List.drop_succ_cons, List.drop_zero, Nat.zero_add]
        refine aopsT_acc (A3.up 6) (by omega) (by simp) rfl (ys := tcsAV (out.drop k)) ?_ ?_ ?_ (fun x3 u3 G3 A4 hn3 _ _ _ => ?_)
        · show some ((tcsAV (out.drop k)).map AV.er) = _
          rw [tcs_er]
        · rw [tcs_app]; exact tcs_fits _
        · have := List.length_take_le k out
          have := List.length_drop (l := out) (i := k)
          rw [tcs_len, tcs_len]; simp only [List.length_append, List.length_singleton]; omega
        rw [tcs_app, ← hins, ← hgn] at A4
        obtain ⟨v3, rfl⟩ := A4.ex
        try simp only [aopsT, qstep, astep, ev, setd, List.set, List.getD, List.getElem?_cons_zero, List.getElem?_cons_succ, List.cons_append, List.nil_append, List.replicate, then_normal, inBlock_normal, Option.getD_some, ]
        refine h2 _ _ ?_
        try clear h2 K_h2
        refine T.regi hm ?_
        simp only [↓reduceIte, namesOf, List.any, I.names, aopsI, astep, ev, setd, List.set, List.getD, List.getElem?_cons_zero, List.getElem?_cons_succ, List.cons_append, List.nil_append, List.replicate, then_normal, Option.getD_some, Bool.or_false, Bool.false_eq_true, up_zero, binv, ↓opt_def, eq_self, hw]
        exact ⟨hil, _, _, Gh.keep [0, 3, 4], A4.like, v3, rfl⟩
      by_cases hkl : k < out.length
      case neg =>
        have e0 : decide (k < out.length) = false := decide_eq_false (by omega)
        refine T.seq_k (fun K_h0 h0 => ?_)
        refine T.regi hm ?_
        simp only [↓reduceIte, namesOf, List.any, I.names, aopsI, astep, ev, setd, List.set, List.getD, List.getElem?_cons_zero, List.getElem?_cons_succ, List.cons_append, List.nil_append, List.replicate, then_normal, Option.getD_some, Bool.or_false, Bool.false_eq_true, up_zero, binv, ↓opt_def, lt_len, eq_self, tcs_len, e0]
        refine h0 _ _ ?_
        try clear h0 K_h0
        refine T.cond rfl (fun h => by cases h) (fun _ => T.skip ?_)
        refine hput ?_ _ rfl
        unfold insG
        rw [hatk, List.getElem?_eq_none (by omega)]
      have e0 : decide (k < out.length) = true := decide_eq_true (by omega)
      obtain ⟨t0, ht0, hg0⟩ := hgk hkl
      by_cases hid : t0.id = s.tr
      · have e1 : ((t0.id : Int) == (s.tr : Int)) = true := by rw [natb, decide_eq_true hid]
        refine T.seq_k (fun K_h0 h0 => ?_)
        refine T.regi hm ?_
        simp only [↓reduceIte, namesOf, List.any, I.names, aopsI, astep, ev, setd, List.set, List.getD, List.getElem?_cons_zero, List.getElem?_cons_succ, List.cons_append, List.nil_append, List.length_cons, List.length_nil, List.replicate, then_normal, Option.getD_some, Bool.or_false, Bool.false_eq_true, up_zero, Nat.reduceAdd, binv, ↓opt_def, AV.cells, ldc, Int.natCast_nonneg, lt_len, Int.toNat_natCast, true_and, and_true, eq_self, decide_true, tcs_len, sps_len, hg0, hg, hil, hkl, Nat.zero_add, List.drop, e1]
        refine h0 _ _ ?_
        try clear h0 K_h0
        refine T.cond rfl (fun _ => T.exit ?_) (fun h => by cases h)
        try simp only [List.cons_append, List.nil_append, List.replicate, then_normal, inBlock_exit, then_exit]
        refine h2 _ _ ?_
        try clear h2 K_h2
        refine T.regi hm ?_
        simp only [↓reduceIte, namesOf, List.any, I.names, aopsI, astep, ev, setd, List.set, List.getD, List.getElem?_cons_zero, List.getElem?_cons_succ, List.cons_append, List.nil_append, List.replicate, then_normal, Option.getD_some, Bool.or_false, Bool.false_eq_true, up_zero, binv, ↓opt_def, eq_self, hw]
        refine ⟨hil, _, _, Gh.keep [0, 3, 4], hL, v0, ?_⟩
        have : groupN l (i + 1) = out := by
          rw [hgn]; unfold insG; rw [hatk, ht0]; simp only; rw [if_pos hid]
        rw [this]; rfl
      · have e1 : ((t0.id : Int) == (s.tr : Int)) = false := by rw [natb, decide_eq_false hid]
        refine T.seq_k (fun K_h0 h0 => ?_)
        refine T.regi hm ?_
        simp only [↓reduceIte, namesOf, List.any, I.names, aopsI, astep, ev, setd, List.set, List.getD, List.getElem?_cons_zero, List.getElem?_cons_succ, List.cons_append, List.nil_append, List.length_cons, List.length_nil, List.replicate, then_normal, Option.getD_some, Bool.or_false, Bool.false_eq_true, up_zero, Nat.reduceAdd, binv, ↓opt_def, AV.cells, ldc, Int.natCast_nonneg, lt_len, Int.toNat_natCast, true_and, and_true, eq_self, decide_true, tcs_len, sps_len, hg0, hg, hil, hkl, Nat.zero_add, List.drop, e1]
        refine h0 _ _ ?_
        try clear h0 K_h0
        refine T.cond rfl (fun h => by cases h) (fun _ => T.skip ?_)
        refine hput ?_ _ rfl
        unfold insG
        rw [hatk, ht0]
        simp only
        rw [if_neg hid]
    -- looking for it
    refine T.seq_k (fun K_h4 h4 => ?_)
    by_cases hkl : k < out.length
    case neg =>
      have e0 : decide (k < out.length) = false := decide_eq_false (by omega)
      refine T.seq_k (fun K_h0 h0 => ?_)
      refine T.regi hm ?_
      simp only [↓reduceIte, namesOf, List.any, I.names, aopsI, astep, ev, setd, List.set, List.getD, List.getElem?_cons_zero, List.getElem?_cons_succ, List.cons_append, List.nil_append, List.replicate, then_normal, Option.getD_some, Bool.or_false, Bool.false_eq_true, up_zero, binv, ↓opt_def, lt_len, eq_self, tcs_len, e0]
      refine h0 _ _ ?_
      try clear h0 K_h0
      refine T.cond rfl (fun h => by cases h) (fun _ => T.exit ?_)
      try simp only [List.cons_append, List.nil_append, List.replicate, then_normal, inBlock_exit, then_exit]
      exact hdone (fun h => absurd h hkl) _ rfl
    have e0 : decide (k < out.length) = true := decide_eq_true (by omega)
    have hg0 : (tcsAV out)[k]? = some (.agg [.int .u64 ((out[k]).id : Int), .sl (spsAV (out[k]).sp) .none]) := by rw [tcs_get hkl, tcav']
    have hkk : out[k]? = some out[k] := by simp
    by_cases hid : out[k].id < s.tr
    · have e1 : decide (((out[k]).id : Int) < (s.tr : Int)) = true := decide_eq_true (by omega)
      have hno' : ∀ j (hj : j < out.length), j < k + 1 → out[j].id < s.tr := fun j hj hjk => by
        by_cases hj2 : j = k
        · subst hj2; exact hid
        · exact hno j hj (by omega)
      generalize out[k] = t0 at hg0 e1
      have hkw := inc64' hkl (by omega)
      refine T.seq_k (fun K_h0 h0 => ?_)
      refine T.regi hm ?_
      simp only [↓reduceIte, namesOf, List.any, I.names, aopsI, astep, ev, setd, List.set, List.getD, List.getElem?_cons_zero, List.getElem?_cons_succ, List.cons_append, List.nil_append, List.length_cons, List.length_nil, List.replicate, then_normal, Option.getD_some, Bool.or_false, Bool.false_eq_true, up_zero, Nat.reduceAdd, binv, ↓opt_def, AV.cells, ldc, Int.natCast_nonneg, lt_len, Int.toNat_natCast, true_and, and_true, eq_self, decide_true, tcs_len, sps_len, hg0, hg, hil, hkl, Nat.zero_add, List.drop, e1]
      refine h0 _ _ ?_
      try clear h0 K_h0
      refine T.cond rfl (fun _ => T.skip ?_) (fun h => by cases h)
      refine h4 _ _ ?_
      try clear h4 K_h4
      refine T.block ?_
      refine T.regi hm ?_
      simp only [↓reduceIte, namesOf, List.any, I.names, aopsI, astep, ev, setd, List.set, List.getD, List.getElem?_cons_zero, List.getElem?_cons_succ, List.cons_append, List.nil_append, List.replicate, then_normal, inBlock_normal, Option.getD_some, Bool.or_false, Bool.false_eq_true, up_zero, binv, ↓opt_def, eq_self, hkw]
      exact ⟨hkl, _, _, Gh.keep [0, 3, 4, 5], rfl, hno', rfl⟩
    · have e1 : decide (((out[k]).id : Int) < (s.tr : Int)) = false := decide_eq_false (by omega)
      have hge : k < out.length → ∀ t : Tc, out[k]? = some t → s.tr ≤ t.id := fun _ t ht => by rw [hkk] at ht; cases ht; omega
      generalize out[k] = t0 at hg0 e1
      refine T.seq_k (fun K_h0 h0 => ?_)
      refine T.regi hm ?_
      simp only [↓reduceIte, namesOf, List.any, I.names, aopsI, astep, ev, setd, List.set, List.getD, List.getElem?_cons_zero, List.getElem?_cons_succ, List.cons_append, List.nil_append, List.length_cons, List.length_nil, List.replicate, then_normal, Option.getD_some, Bool.or_false, Bool.false_eq_true, up_zero, Nat.reduceAdd, binv, ↓opt_def, AV.cells, ldc, Int.natCast_nonneg, lt_len, Int.toNat_natCast, true_and, and_true, eq_self, decide_true, tcs_len, sps_len, hg0, hg, hil, hkl, Nat.zero_add, List.drop, e1]
      refine h0 _ _ ?_
      try clear h0 K_h0
      refine T.cond rfl (fun h => by cases h) (fun _ => T.exit ?_)
      try simp only [List.cons_append, List.nil_append, List.replicate, then_normal, inBlock_exit, then_exit]
      exact hdone hge _ rfl
  · refine T.exit ?_
    have : i = l.length := by simp at hb; omega
    subst this
    try simp only [List.cons_append, List.nil_append, List.replicate, then_normal, inBlock_exit, then_exit]
    refine h1 _ _ ?_
    try clear h1 K_h1
    refine T.seq_k (fun K_h0 h0 => ?_)
    refine T.regi hm ?_
    simp only [↓reduceIte, namesOf, List.any, I.names, aopsI, astep, ev, setd, List.set, List.getD, List.getElem?_cons_zero, List.getElem?_cons_succ, then_normal, Option.getD_some, Bool.or_false, Bool.false_eq_true, up_zero]
    refine h0 _ _ ?_
    try clear h0 K_h0
    exact T.ret (Fin.quietw rfl (Wk.sl _ _) ⟨nbs_tcs _ _, trivial⟩ (hL.quiet wf) ⟨rfl, rfl⟩)

end Go.VL

namespace Go.VL

def stepM (out : List Tc) (t : Tc) : List Tc := match out.getLast? with
  | some u => if u.id = t.id then out.dropLast ++ [⟨u.id, gatherL (u.sp ++ t.sp)⟩] else out ++ [⟨t.id, gatherL t.sp⟩]
  | none => [⟨t.id, gatherL t.sp⟩]

def mergeT (l : List Tc) : List Tc := l.foldl stepM []

theorem mergeT_snoc (l : List Tc) (t : Tc) : mergeT (l ++ [t]) = stepM (mergeT l) t := by simp [mergeT]

def ofI (id : Nat) (l : List Tc) : List Sp := (l.filter fun t => decide (t.id = id)).flatMap Tc.sp

theorem ofI_snoc (id : Nat) (l : List Tc) (t : Tc) : ofI id (l ++ [t]) = ofI id l ++ if t.id = id then t.sp else [] := by
  unfold ofI
  rw [List.filter_append, List.flatMap_append]
  congr 1
  by_cases h : t.id = id <;> simp [h]

theorem split_last {α : Type} {l : List α} {u : α} (h : l.getLast? = some u) : l = l.dropLast ++ [u] := by
  obtain ⟨ys, rfl⟩ := List.getLast?_eq_some_iff.1 h
  simp

structure MergeOf (l out : List Tc) : Prop where
  sorted : out.Pairwise (fun a b => a.id < b.id)
  sp : ∀ u ∈ out, u.sp = gatherL (ofI u.id l)
  ids : ∀ x, (∃ u ∈ out, u.id = x) ↔ ∃ t ∈ l, t.id = x
  last : out.getLast?.map Tc.id = l.getLast?.map Tc.id

theorem MergeOf.step {l out : List Tc} {t : Tc} (h : MergeOf l out) (ht : ∀ t' ∈ l, t'.id ≤ t.id) (hl : ∀ u, l.getLast? = some u → ∀ t' ∈ l, t'.id ≤ u.id) : MergeOf (l ++ [t]) (stepM out t) := by
  have hids : ∀ x, (∃ t' ∈ l ++ [t], t'.id = x) ↔ (∃ t' ∈ l, t'.id = x) ∨ x = t.id := by
    intro x
    constructor
    · rintro ⟨t', ht', rfl⟩
      rcases List.mem_append.1 ht' with h | h
      · exact .inl ⟨t', h, rfl⟩
      · simp only [List.mem_singleton] at h; subst h; exact .inr rfl
    · rintro (⟨t', ht', rfl⟩ | rfl)
      · exact ⟨t', List.mem_append_left _ ht', rfl⟩
      · exact ⟨t, List.mem_append_right _ (List.mem_singleton.2 rfl), rfl⟩
  unfold stepM
  cases ho : out.getLast? with
  | none =>
    have hnil : out = [] := List.getLast?_eq_none_iff.1 ho
    subst hnil
    have hln : l = [] := by
      cases l with
      | nil => rfl
      | cons a r =>
        obtain ⟨u, hu, _⟩ := (h.ids a.id).2 ⟨a, by simp, rfl⟩
        cases hu
    subst hln
    refine ⟨List.pairwise_singleton _ _, fun u hu => ?_, fun x => ?_, rfl⟩
    · simp only [List.mem_singleton] at hu; subst hu
      simp [ofI]
    · simp
  | some u =>
    have hum : u ∈ out := List.mem_of_getLast? ho
    have hsplit : out = out.dropLast ++ [u] := split_last ho
    have hlast := h.last
    rw [ho] at hlast
    simp only [Option.map_some] at hlast
    obtain ⟨w, hw, hwu⟩ : ∃ w, l.getLast? = some w ∧ w.id = u.id := by
      cases hll : l.getLast? with
      | none => rw [hll] at hlast; cases hlast
      | some w => rw [hll] at hlast; simp at hlast; exact ⟨w, rfl, hlast.symm⟩
    have hle := hl w hw
    simp only
    have hs := h.sorted
    rw [hsplit] at hs
    have hpre := (List.pairwise_append.1 hs).2.2
    split
    · rename_i heq
      refine ⟨?_, fun v hv => ?_, fun x => ?_, by simp [heq]⟩
      · rw [List.pairwise_append]
        refine ⟨(List.pairwise_append.1 hs).1, List.pairwise_singleton _ _, fun a ha b hb => ?_⟩
        simp only [List.mem_singleton] at hb; subst hb
        exact hpre a ha u (by simp)
      · rcases List.mem_append.1 hv with hv | hv
        · have hlt := hpre v hv u (by simp)
          rw [ofI_snoc, if_neg (by omega), List.append_nil]
          exact h.sp v (by rw [hsplit]; exact List.mem_append_left _ hv)
        · simp only [List.mem_singleton] at hv; subst hv
          simp only
          rw [ofI_snoc, if_pos heq.symm, h.sp u hum, gather_app]
      · rw [hids]
        constructor
        · rintro ⟨v, hv, rfl⟩
          rcases List.mem_append.1 hv with hv | hv
          · exact .inl ((h.ids _).1 ⟨v, by rw [hsplit]; exact List.mem_append_left _ hv, rfl⟩)
          · simp only [List.mem_singleton] at hv; subst hv; exact .inr heq
        · rintro (hx | rfl)
          · obtain ⟨v, hv, rfl⟩ := (h.ids x).2 hx
            rw [hsplit] at hv
            rcases List.mem_append.1 hv with hv | hv
            · exact ⟨v, List.mem_append_left _ hv, rfl⟩
            · simp only [List.mem_singleton] at hv; subst hv
              exact ⟨_, List.mem_append_right _ (List.mem_singleton.2 rfl), rfl⟩
          · exact ⟨_, List.mem_append_right _ (List.mem_singleton.2 rfl), heq⟩
    · rename_i hne
      have hwt := ht w (List.mem_of_getLast? hw)
      have hlt : u.id < t.id := by omega
      refine ⟨?_, fun v hv => ?_, fun x => ?_, by simp⟩
      · rw [List.pairwise_append]
        refine ⟨h.sorted, List.pairwise_singleton _ _, fun a ha b hb => ?_⟩
        simp only [List.mem_singleton] at hb; subst hb
        rw [hsplit] at ha
        rcases List.mem_append.1 ha with ha | ha
        · have := hpre a ha u (by simp)
          show a.id < t.id
          omega
        · simp only [List.mem_singleton] at ha; subst ha; exact hlt
      · rcases List.mem_append.1 hv with hv | hv
        · have hvu : v.id ≤ u.id := by
            rw [hsplit] at hv
            rcases List.mem_append.1 hv with hv | hv
            · exact Nat.le_of_lt (hpre v hv u (by simp))
            · simp only [List.mem_singleton] at hv; subst hv; exact Nat.le_refl _
          rw [ofI_snoc, if_neg (by omega), List.append_nil]
          exact h.sp v hv
        · simp only [List.mem_singleton] at hv; subst hv
          simp only
          rw [ofI_snoc, if_pos rfl]
          have : ofI t.id l = [] := by
            unfold ofI
            rw [List.filter_eq_nil_iff.2 (fun t' ht' => by have := hle t' ht'; simp; omega)]; rfl
          rw [this, List.nil_append]
      · rw [hids]
        constructor
        · rintro ⟨v, hv, rfl⟩
          rcases List.mem_append.1 hv with hv | hv
          · exact .inl ((h.ids _).1 ⟨v, hv, rfl⟩)
          · simp only [List.mem_singleton] at hv; subst hv; exact .inr rfl
        · rintro (hx | rfl)
          · obtain ⟨v, hv, rfl⟩ := (h.ids x).2 hx
            exact ⟨v, List.mem_append_left _ hv, rfl⟩
          · exact ⟨_, List.mem_append_right _ (List.mem_singleton.2 rfl), rfl⟩

theorem mergeT_is : ∀ (l : List Tc), l.Pairwise (fun a b => a.id ≤ b.id) → MergeOf l (mergeT l) := by
  have key : ∀ n (l : List Tc), l.length = n → l.Pairwise (fun a b => a.id ≤ b.id) → MergeOf l (mergeT l) := by
    intro n
    induction n with
    | zero =>
      intro l hl _
      have : l = [] := List.eq_nil_of_length_eq_zero hl
      subst this
      exact ⟨.nil, fun u hu => (by cases hu), fun x => by simp [mergeT], rfl⟩
    | succ n ih =>
      intro l hl hp
      have hne : l ≠ [] := by intro e; subst e; simp at hl
      have hs : l = l.dropLast ++ [l.getLast hne] := (List.dropLast_concat_getLast hne).symm
      rw [hs] at hp
      obtain ⟨h1, _, h3⟩ := List.pairwise_append.1 hp
      have ih' := ih l.dropLast (by rw [List.length_dropLast]; omega) h1
      rw [hs, mergeT_snoc]
      refine ih'.step (fun t' ht' => h3 t' ht' _ (by simp)) (fun u hu t' ht' => ?_)
      have hs2 : l.dropLast = l.dropLast.dropLast ++ [u] := split_last hu
      rw [hs2] at h1 ht'
      rcases List.mem_append.1 ht' with h | h
      · exact (List.pairwise_append.1 h1).2.2 t' h u (by simp)
      · simp only [List.mem_singleton] at h; subst h; exact Nat.le_refl _
  exact fun l => key _ l rfl

theorem gather_of (id : Nat) (l : List Sp) : ofT id (gatherL l) = gatherL (ofT id l) := by
  have hsrt : SortedS (ofT id (gatherL l)) := (gather_sorted l).sublist List.filter_sublist
  refine List.Perm.eq_of_pairwise (le := fun a b => aheadS a b = true) (fun a b _ _ h1 h2 => ?_) hsrt (gather_sorted _) ?_
  · have := ahead_asym h1; rw [h2] at this; cases this
  · refine (List.perm_ext_iff_of_nodup (sorted_nodup hsrt) (sorted_nodup (gather_sorted _))).2 fun x => ?_
    rw [gather_mem]
    unfold ofT
    rw [List.mem_filter, gather_mem]
    constructor
    · rintro ⟨⟨h1, h2⟩, h3⟩
      exact ⟨List.mem_filter.2 ⟨h1, h3⟩, fun y hy hk => h2 y (List.mem_filter.1 hy).1 hk⟩
    · rintro ⟨h1, h2⟩
      obtain ⟨h3, h4⟩ := List.mem_filter.1 h1
      refine ⟨⟨h3, fun y hy hk => h2 y (List.mem_filter.2 ⟨hy, ?_⟩) hk⟩, h4⟩
      have := (sameK_iff.1 hk).1
      unfold offT at h4 ⊢
      rw [this]; exact h4

/-- canonical traces, told -/
theorem ris_at {l : List Tc} (h : risB l = true) {i : Nat} {t : Tc} (ht : l[i]? = some t) : 1 ≤ t.sp.length ∧ t.sp.length ≤ 100 ∧ (∀ s ∈ t.sp, mayS s = true ∧ s.tr = t.id) ∧ gatherL t.sp = t.sp ∧ (0 < i → ∃ p, l[i - 1]? = some p ∧ p.id < t.id) := by
  have hi := (List.getElem?_eq_some_iff.1 ht).1
  have := List.all_eq_true.1 h i (by simpa using hi)
  unfold risAt at this
  rw [ht] at this
  simp only [Bool.and_eq_true, decide_eq_true_eq, Bool.or_eq_true, beq_iff_eq, List.all_eq_true] at this
  obtain ⟨⟨⟨⟨h1, h2⟩, h3⟩, h4⟩, h5⟩ := this
  refine ⟨h1, h2, h4, h5, fun hp => ?_⟩
  rcases h3 with h3 | h3
  · omega
  · split at h3
    · rename_i p hpp
      exact ⟨p, hpp, by simpa using h3⟩
    · cases h3

theorem ris_sorted {l : List Tc} (h : risB l = true) : l.Pairwise (fun a b => a.id < b.id) := by
  rw [List.pairwise_iff_getElem]
  intro i j hi hj hij
  induction j with
  | zero => omega
  | succ j ih =>
    obtain ⟨p, hp, hlt⟩ := (ris_at h (i := j + 1) (t := l[j + 1]) (by simp [hj])).2.2.2.2 (by omega)
    simp only [Nat.add_sub_cancel] at hp
    obtain ⟨hjl, rfl⟩ := List.getElem?_eq_some_iff.1 hp
    by_cases hij2 : i = j
    · subst hij2; exact hlt
    · exact Nat.lt_trans (ih hjl (by omega)) hlt

theorem ris_of {l : List Tc} (hs : l.Pairwise (fun a b => a.id < b.id)) (h : ∀ t ∈ l, 1 ≤ t.sp.length ∧ t.sp.length ≤ 100 ∧ (∀ s ∈ t.sp, mayS s = true ∧ s.tr = t.id) ∧ gatherL t.sp = t.sp) : risB l = true := by
  unfold risB
  rw [List.all_eq_true]
  intro i hi
  have hil : i < l.length := by simpa using hi
  have ht : l[i]? = some l[i] := by simp [hil]
  obtain ⟨h1, h2, h3, h4⟩ := h l[i] (List.getElem_mem hil)
  unfold risAt
  rw [ht]
  simp only [Bool.and_eq_true, decide_eq_true_eq, Bool.or_eq_true, beq_iff_eq, List.all_eq_true]
  refine ⟨⟨⟨⟨h1, h2⟩, ?_⟩, h3⟩, h4⟩
  rcases Nat.eq_zero_or_pos i with rfl | hp
  · exact .inl rfl
  · right
    have hp1 : l[i - 1]? = some (l[i - 1]'(by omega)) := by simp
    rw [hp1]
    simp only [decide_eq_true_eq]
    exact List.pairwise_iff_getElem.1 hs (i - 1) i (by omega) hil (by omega)

/-- all rows are canonical -/
def Canon (rows : List (List Tc)) : Prop := ∀ r ∈ rows, risB r = true

theorem Canon.rising {rows : List (List Tc)} (h : Canon rows) : ∀ r ∈ rows, Rising keyT r := by
  intro r hr i j a b hij ha hb
  obtain ⟨hi, rfl⟩ := List.getElem?_eq_some_iff.1 ha
  obtain ⟨hj, rfl⟩ := List.getElem?_eq_some_iff.1 hb
  by_cases e : i = j
  · subst e; exact Int.le_refl _
  · have := List.pairwise_iff_getElem.1 (ris_sorted (h r hr)) i j hi hj (by omega)
    show (r[i].id : Int) ≤ (r[j].id : Int)
    omega

theorem outP_mem {rows : List (List Tc)} {ps : List (Nat × Nat)} (hK : KOut keyT rows ps) (t : Tc) : t ∈ outP rows ps ↔ ∃ r ∈ rows, t ∈ r := by
  unfold outP
  rw [List.mem_filterMap]
  constructor
  · rintro ⟨p, _, hp⟩
    unfold atP at hp
    rw [Option.bind_eq_some_iff] at hp
    obtain ⟨r, h1, h2⟩ := hp
    exact ⟨r, List.mem_of_getElem? h1, List.mem_of_getElem? h2⟩
  · rintro ⟨r, hr, ht⟩
    obtain ⟨i, hi⟩ := List.getElem?_of_mem hr
    obtain ⟨j, hj⟩ := List.getElem?_of_mem ht
    have : atP rows (i, j) = some t := by simp [atP, hi, hj]
    exact ⟨(i, j), (hK.all _).2 ⟨t, this⟩, this⟩

theorem outP_sorted {rows : List (List Tc)} {ps : List (Nat × Nat)} (hK : KOut keyT rows ps) : (outP rows ps).Pairwise (fun a b => a.id ≤ b.id) := by
  unfold outP
  refine List.Pairwise.filterMap _ (fun p q hpq a ha b hb => ?_) hK.sorted
  obtain ⟨x, y, h1, h2, h3⟩ := hpq
  rw [h1] at ha; rw [h2] at hb
  cases ha; cases hb
  have h4 : (a.id : Int) < (b.id : Int) ∨ (a.id : Int) = (b.id : Int) ∧ (p.1 < q.1 ∨ p.1 = q.1 ∧ p.2 < q.2) := h3
  omega

/-- MERGED, ROW BY ROW: THE GROUPS OF ALL SPANS -/
theorem merged_is {rows : List (List Tc)} {ps : List (Nat × Nat)} (hc : Canon rows) (hK : KOut keyT rows ps) : mergeT (outP rows ps) = groupL (spansP rows) := by
  have hm := mergeT_is _ (outP_sorted hK)
  have hcan : ∀ t, t ∈ outP rows ps → ∃ r ∈ rows, t ∈ r ∧ 1 ≤ t.sp.length ∧ (∀ s ∈ t.sp, s.tr = t.id) := by
    intro t ht
    obtain ⟨r, hr, htr⟩ := (outP_mem hK t).1 ht
    obtain ⟨i, hi⟩ := List.getElem?_of_mem htr
    obtain ⟨h1, _, h3, _⟩ := ris_at (hc r hr) hi
    exact ⟨r, hr, htr, h1, fun s hs => (h3 s hs).2⟩
  have hsp : ∀ s, s ∈ spansP rows ↔ ∃ t ∈ outP rows ps, s ∈ t.sp := by
    intro s
    unfold spansP
    simp only [List.mem_flatMap]
    constructor
    · rintro ⟨r, hr, t, ht, hs⟩
      exact ⟨t, (outP_mem hK t).2 ⟨r, hr, ht⟩, hs⟩
    · rintro ⟨t, ht, hs⟩
      obtain ⟨r, hr, htr⟩ := (outP_mem hK t).1 ht
      exact ⟨r, hr, t, htr, hs⟩
  refine GroupOf.uniq (l := spansP rows) (ids := fun id => ∃ s ∈ spansP rows, s.tr = id) ⟨hm.sorted, fun u hu => ?_, fun x => ?_⟩ (group_is _)
  · rw [hm.sp u hu, gather_of]
    refine gather_set fun s => ?_
    unfold ofI ofT
    rw [List.mem_filter, List.mem_flatMap, hsp]
    simp only [List.mem_filter, decide_eq_true_eq]
    constructor
    · rintro ⟨t, ⟨ht, hid⟩, hs⟩
      obtain ⟨_, _, _, _, h4⟩ := hcan t ht
      exact ⟨⟨t, ht, hs⟩, by simp [offT, h4 s hs, hid]⟩
    · rintro ⟨⟨t, ht, hs⟩, ho⟩
      obtain ⟨_, _, _, _, h4⟩ := hcan t ht
      have h0 : (s.tr : Int) = (u.id : Int) := by simpa [offT] using ho
      have : s.tr = u.id := by omega
      exact ⟨t, ⟨ht, by rw [← h4 s hs, this]⟩, hs⟩
  · rw [hm.ids]
    constructor
    · rintro ⟨t, ht, rfl⟩
      obtain ⟨_, _, _, h1, h4⟩ := hcan t ht
      have : t.sp ≠ [] := fun e => by rw [e] at h1; simp at h1
      obtain ⟨s, hs⟩ := List.exists_mem_of_ne_nil _ this
      exact ⟨s, (hsp s).2 ⟨t, ht, hs⟩, h4 s hs⟩
    · rintro ⟨s, hs, rfl⟩
      obtain ⟨t, ht, hst⟩ := (hsp s).1 hs
      obtain ⟨_, _, _, _, h4⟩ := hcan t ht
      exact ⟨t, ht, (h4 s hst).symm⟩

/-- groups of canonical spans are canonical, but for their lengths -/
theorem group_ris {rows : List (List Tc)} (hc : Canon rows) : risB (groupL (spansP rows)) = (groupL (spansP rows)).all fun t => decide (t.sp.length ≤ 100) := by
  have hg := group_is (spansP rows)
  have hmay : ∀ s ∈ spansP rows, mayS s = true := by
    intro s hs
    unfold spansP at hs
    simp only [List.mem_flatMap] at hs
    obtain ⟨r, hr, t, ht, hst⟩ := hs
    obtain ⟨i, hi⟩ := List.getElem?_of_mem ht
    exact ((ris_at (hc r hr) hi).2.2.1 s hst).1
  rw [Bool.eq_iff_iff]
  constructor
  · intro h
    rw [List.all_eq_true]
    intro t ht
    obtain ⟨i, hi⟩ := List.getElem?_of_mem ht
    exact decide_eq_true (ris_at h hi).2.1
  · intro h
    rw [List.all_eq_true] at h
    refine ris_of hg.sorted fun t ht => ?_
    have hsp := hg.sp t ht
    refine ⟨?_, by simpa using h t ht, fun s hs => ?_, ?_⟩
    · obtain ⟨s, hs, hst⟩ := (hg.ids t.id).1 ⟨t, ht, rfl⟩
      obtain ⟨z, hz, hk, _⟩ := gather_low hs
      have : z ∈ t.sp := by
        rw [hsp]; unfold ofT
        refine List.mem_filter.2 ⟨hz, ?_⟩
        have := (sameK_iff.1 hk).1
        simp [offT, ← this, hst]
      cases hts : t.sp with
      | nil => rw [hts] at this; cases this
      | cons a r => simp
    · rw [hsp] at hs
      unfold ofT at hs
      obtain ⟨h1, h2⟩ := List.mem_filter.1 hs
      have h3 : (s.tr : Int) = (t.id : Int) := by simpa [offT] using h2
      exact ⟨hmay s ((gather_mem _ s).1 h1).1, by omega⟩
    · rw [hsp, gather_of]
      have := gather_app (ofT t.id (spansP rows)) []
      simpa using this

end Go.VL

namespace Go.VL

open Go.Proofs

abbrev tcC (t : Tc) : List AV := [.int .u64 (t.id : Int), .sl (spsAV t.sp) .none]

theorem tcC_len (t : Tc) : (tcC t).length = 2 := rfl

theorem xsT_tcs (l : List Tc) : xsAVT l = tcsAV l := rfl

/-- what is put out so far -/
def OutS (σ t : St) (out : List Tc) (x : AV) : Prop := Like σ t ∧ ((x = .sl [] .nil ∧ out = []) ∨ ∃ nm, out ≠ [] ∧ x = .refr nm 2 out.length ∧ t.res nm = some (.obj (out.flatMap tcC)) ∧ σ.next ≤ nm ∧ nm < t.next)

theorem mergeT_sp (l : List Tc) : ∀ u ∈ mergeT l, u.sp.length ≤ (l.flatMap Tc.sp).length ∧ ∀ s ∈ u.sp, s ∈ l.flatMap Tc.sp := by
  have key : ∀ n (l : List Tc), l.length = n → ∀ u ∈ mergeT l, u.sp.length ≤ (l.flatMap Tc.sp).length ∧ ∀ s ∈ u.sp, s ∈ l.flatMap Tc.sp := by
    intro n
    induction n with
    | zero =>
      intro l hl
      have : l = [] := List.eq_nil_of_length_eq_zero hl
      subst this
      intro u hu; cases hu
    | succ n ih =>
      intro l hl
      have hne : l ≠ [] := by intro e; subst e; simp at hl
      have hs : l = l.dropLast ++ [l.getLast hne] := (List.dropLast_concat_getLast hne).symm
      have ih' := ih l.dropLast (by rw [List.length_dropLast]; omega)
      generalize l.getLast hne = t at hs
      generalize l.dropLast = p at hs ih'
      subst hs
      rw [mergeT_snoc, List.flatMap_append]
      have ht : ([t].flatMap Tc.sp) = t.sp := by simp
      rw [ht]
      have hnew : ∀ u : Tc, u.sp = gatherL t.sp → u.sp.length ≤ (p.flatMap Tc.sp ++ t.sp).length ∧ ∀ s ∈ u.sp, s ∈ p.flatMap Tc.sp ++ t.sp := fun u hu => by
        rw [hu]
        refine ⟨?_, fun s hs => List.mem_append_right _ ((gather_mem _ s).1 hs).1⟩
        have := gather_len t.sp
        rw [List.length_append]; omega
      have hold : ∀ u ∈ mergeT p, u.sp.length ≤ (p.flatMap Tc.sp ++ t.sp).length ∧ ∀ s ∈ u.sp, s ∈ p.flatMap Tc.sp ++ t.sp := fun u hu => by
        obtain ⟨h1, h2⟩ := ih' u hu
        exact ⟨by rw [List.length_append]; omega, fun s hs => List.mem_append_left _ (h2 s hs)⟩
      intro u hu
      unfold stepM at hu
      split at hu
      · rename_i v hv
        have hvm : v ∈ mergeT p := List.mem_of_getLast? hv
        split at hu
        · rcases List.mem_append.1 hu with hu | hu
          · exact hold u (List.dropLast_subset _ hu)
          · simp only [List.mem_singleton] at hu; subst hu
            obtain ⟨h1, h2⟩ := ih' v hvm
            refine ⟨?_, fun s hs => ?_⟩
            · have := gather_len (v.sp ++ t.sp)
              rw [List.length_append] at this ⊢
              show (gatherL (v.sp ++ t.sp)).length ≤ _
              omega
            · have := ((gather_mem _ s).1 hs).1
              rcases List.mem_append.1 this with h | h
              · exact List.mem_append_left _ (h2 s h)
              · exact List.mem_append_right _ h
        · rcases List.mem_append.1 hu with hu | hu
          · exact hold u hu
          · simp only [List.mem_singleton] at hu; subst hu; exact hnew _ rfl
      · simp only [List.mem_singleton] at hu; subst hu; exact hnew _ rfl
  exact key _ l rfl

theorem mergeT_len (l : List Tc) : (mergeT l).length ≤ l.length := by
  have key : ∀ (l out : List Tc), (l.foldl stepM out).length ≤ out.length + l.length := by
    intro l
    induction l with
    | nil => intro out; simp
    | cons t l ih =>
      intro out
      have h1 := ih (stepM out t)
      have h2 : (stepM out t).length ≤ out.length + 1 := by
        unfold stepM
        split
        · split
          · rw [List.length_append, List.length_dropLast, List.length_singleton]; omega
          · rw [List.length_append, List.length_singleton]; omega
        · simp
      simp only [List.foldl_cons, List.length_cons]; omega
  have := key l []
  simpa [mergeT] using this

theorem splice_last (P : List AV) (a b c : AV) : splice (P ++ [a, b]) (P.length + 1) [c] = P ++ [a, c] := by
  unfold splice
  have e1 : (P ++ [a, b]).take (P.length + 1) = P ++ [a] := by
    rw [show P ++ [a, b] = (P ++ [a]) ++ [b] by simp, List.take_append_of_le_length (by simp), List.take_of_length_le (by simp)]
  have e2 : (P ++ [a, b]).drop (P.length + 1 + [c].length) = [] := List.drop_eq_nil_of_le (by simp)
  rw [e1, e2]; simp

theorem last_cell0 (P : List AV) (a b : AV) : (P ++ [a, b])[P.length]? = some a := by simp

theorem last_cell1 (P : List AV) (a b : AV) : (P ++ [a, b])[P.length + 1]? = some b := by simp

theorem Wk.refr (n k len : Nat) : Wk (.refr n k len) (.ref n 0 len) := fun _ _ _ h => by
  obtain ⟨cap, rfl, h1, h2, _⟩ := h.refr_inv
  exact .ref n 0 len cap h2 h1

theorem Wks.set {x y : AV} (hw : Wk x y) : ∀ {ρ : List AV} {i : Nat}, ρ[i]? = some x → Wks ρ (ρ.set i y)
  | [], _, h => by simp at h
  | a :: ρ, 0, h => by simp at h; subst h; exact .cons hw (.refl ρ)
  | a :: ρ, i + 1, h => by simpa using Wks.cons (.refl a) (Wks.set hw (ρ := ρ) (i := i) (by simpa using h))

/-- an owned row with room is told to be a value -/
theorem Gh.frozen {ρ : List AV} {σ : St} {t n k len kk : Nat} {cs xs : List AV} (ht : ρ[t]? = some (.refr n k len)) (hr : σ.res n = some (.obj cs)) (hlen : xs.length = len) (hk : ∀ x ∈ xs, x.cells.length = kk)
    (hx : xs.flatMap AV.cells = cs.take (len * kk)) : Gh ρ σ (ρ.set t (.sl xs .none)) (σ.del n) := by
  have h1 : Gh ρ σ (ρ.set t (.ref n 0 len)) σ := .env (.set (.refr n k len) ht)
  have htl := (List.getElem?_eq_some_iff.1 ht).1
  have h2 := Gh.freeze (ρ := ρ.set t (.ref n 0 len)) (t := t) (off := 0) (k := kk) (xs := xs) (by rw [List.getElem?_set_self htl]) hr hlen hk (by simpa using hx) (Nat.zero_le _)
  rw [List.set_set] at h2
  exact h1.trans h2

theorem tcs_flat (l : List Tc) : (tcsAV l).flatMap AV.cells = l.flatMap tcC := by
  induction l with
  | nil => rfl
  | cons t l ih => simp only [tcsAV, List.map_cons, List.flatMap_cons] at ih ⊢; rw [ih]; rfl

/-- what is told of merged rows -/
def mergeR (rows : List (List Tc)) : AV :=
  if rows.all risB then (if risB (groupL (spansP rows)) then .tup [.sl (tcsAV (groupL (spansP rows))) .none, .nili] else .tup [.sl [] .nil, .iface tCode (.int .i64 3)]) else .tup [.sl [] .nil, .iface tCode (.int .i64 1)]

theorem flat_bound {l : List Tc} (h : ∀ t ∈ l, t.sp.length ≤ 100) : (l.flatMap Tc.sp).length ≤ 100 * l.length := by
  induction l with
  | nil => simp
  | cons t l ih =>
    have h1 := h t (by simp)
    have h2 := ih (fun t ht => h t (List.mem_cons_of_mem _ ht))
    simp only [List.flatMap_cons, List.length_append, List.length_cons]; omega

/-- the end of a round: the last one gets the spans -/
abbrev c_kmtail : C := (.reg [⟨(some 51), (.mv (.t 6)), none⟩, ⟨(some 52), (.mv (.t 9)), none⟩, ⟨(some 53), (.mv (.t 6)), none⟩, ⟨(some 54), (.mv (.t 9)), none⟩, ⟨(some 55), (.iaddr 2 (.t 53) (.t 54)), none⟩, ⟨(some 56), (.faddr 1 (.t 55)), none⟩, ⟨(some 57), (.load none (.t 56)), none⟩, ⟨(some 58), (.faddr 1 (.t 8)), none⟩, ⟨(some 59), (.load none (.t 58)), none⟩, ⟨(some 60), (.qcall n_tmerge [(.t 57), (.t 59)]), none⟩, ⟨(some 61), (.iaddr 2 (.t 51) (.t 52)), none⟩, ⟨(some 62), (.faddr 1 (.t 61)), none⟩, ⟨none, (.store 1 (.t 62) (.t 60)), none⟩])

set_option maxRecDepth 10000 in
theorem ktail_ok {S : List Tc} {i b nm id : Nat} {pre : List Tc} {a : List Sp} {y : Tc} {t2 u1 : St} {Q : Ex → List AV → St → Prop} (ha : a.length ≤ 90000) (hda : ∀ s ∈ a, s.da.length ≤ 1099511627776) (hy : y.sp.length ≤ 100) (hdy : ∀ s ∈ y.sp, s.da.length ≤ 1099511627776) (hpl : pre.length ≤ 1000)
    (hr : u1.res nm = some (.obj (pre.flatMap tcC ++ [.int .u64 (id : Int), .sl (spsAV a) .none]))) (hb : u1.res b = some (.obj (tcC y))) (hL : Like t2 u1) (hnm : t2.next ≤ nm) (hn : nm < u1.next)
    (hq : ∀ ρ2 u2, keep [6, 22, 23, 24] 0 ρ2 = [.any, .any, .any, .any, .any, .any, .refr nm 2 (pre.length + 1), .any, .any, .any, .any, .any, .any, .any, .any, .any, .any, .any, .any, .any, .any, .any, .sl (tcsAV S) .none, .int .i64 (S.length : Int), .int .i64 (i : Int)] ++ List.replicate 44 .any →
      u2.res nm = some (.obj ((pre ++ [(⟨id, gatherL (a ++ y.sp)⟩ : Tc)]).flatMap tcC)) → Like t2 u2 → nm < u2.next → Q .normal ρ2 u2) :
    T Try.prog ann_kmerge c_kmtail Q ([.any, .any, .any, .any, .any, .any, .refr nm 2 (pre.length + 1), .any, .ptr b 0, .int .i64 (pre.length : Int), .any, .any, .any, .any, .any, .any, .any, .any, .any, .any, .any, .any, .sl (tcsAV S) .none, .int .i64 (S.length : Int), .int .i64 (i : Int)] ++ List.replicate 44 .any) u1 := by
  have hPl : (pre.flatMap tcC).length = pre.length * 2 := flatk_len tcC_len pre
  have hc1 := last_cell1 (pre.flatMap tcC) (.int .u64 (id : Int)) (.sl (spsAV a) .none)
  have hsp := splice_last (pre.flatMap tcC) (.int .u64 (id : Int)) (.sl (spsAV a) .none) (.sl (spsAV (gatherL (a ++ y.sp))) .none)
  rw [hPl] at hc1 hsp
  have hlt : pre.length < pre.length + 1 := by omega
  have hltI : (pre.length : Int) < ((pre.length + 1 : Nat) : Int) := by omega
  have hlen : pre.length * 2 + 1 + 1 ≤ (pre.flatMap tcC ++ [AV.int .u64 (id : Int), .sl (spsAV a) .none]).length := by rw [List.length_append, hPl]; simp
  refine T.regt hm (tbl := []) Tbl.ok_nil ?_
  refine aopsT_cut 10 (fun K_c h_c => ?_)
  try simp only [↓reduceIte, namesOf, List.any, I.names, aopsT, qstep, qget, Tbl.get, astep, ev, setd, List.set, List.getD, List.getElem?_cons_zero, List.getElem?_cons_succ, List.cons_append, List.nil_append, List.replicate, Option.getD_some, Bool.or_false, Bool.false_eq_true, up_zero, ↓opt_def, ldc, List.map_cons, List.map_nil, Int.natCast_nonneg, Int.toNat_natCast, and_true, hr, hb, hc1, hltI, Nat.zero_add, List.take]
  refine ⟨_, tmerge_ok (a := a) (b := y.sp) (by omega) (by omega) hda hdy, ?_⟩
  refine h_c _ _ ?_
  clear h_c K_c
  simp only [List.drop_succ_cons, List.drop_zero, Nat.zero_add]
  try simp only [↓reduceIte, aopsT, qstep, astep, ev, setd, List.set, List.getD, List.getElem?_cons_zero, List.getElem?_cons_succ, List.length_cons, List.length_nil, Option.getD_some, Nat.reduceAdd, AV.isAny, AV.cells, Int.natCast_nonneg, Int.toNat_natCast, and_true, eq_self, decide_true, hr, hltI, hsp, hlen, AV.fits, AV.one, List.all_cons, List.all_nil, Nat.reduceBEq, Bool.not_false, Bool.and_self, decide_true]
  refine hq _ _ rfl ?_ (hL.set _ hnm) hn
  rw [St.set_same, List.flatMap_append]; rfl

set_option maxRecDepth 10000 in
set_option maxHeartbeats 2000000 in
theorem kmerge_ok {rows : List (List Tc)} {g : Ver} {σ : St} (hrn : rows.length ≤ 1000) (htot : (rows.map List.length).sum ≤ 900) (hrl : ∀ r ∈ rows, r.length ≤ 1000000)
    (hsl : ∀ r ∈ rows, ∀ t ∈ r, t.sp.length ≤ 9223372036854775807) (hda : ∀ r ∈ rows, ∀ t ∈ r, ∀ s ∈ t.sp, s.da.length ≤ 1099511627776) :
    ACalls Try.prog n_kmerge [.sl (pgsAV rows) g] σ (fun v σ' => v = mergeR rows ∧ σ' = σ) := by
  refine s_kmerge (fun wf => ?_)
  unfold c_kmerge
  refine T.seq_k (fun K_h0 h0 => ?_)
  refine T.regi hm ?_
  simp only [↓reduceIte, namesOf, List.any, I.names, aopsI, astep, ev, setd, List.set, List.cons_append, List.nil_append, List.length_cons, List.length_nil, List.replicate, then_normal, Bool.or_false, Bool.false_eq_true, up_zero, Nat.reduceAdd, Nat.reduceSub]
  refine h0 _ _ ?_
  try clear h0 K_h0
  refine T.seq_k (fun K_h1 h1 => ?_)
  refine T.seq_k (fun K_h0 h0 => ?_)
  refine T.regi hm ?_
  simp only [↓reduceIte, namesOf, List.any, I.names, aopsI, astep, ev, setd, List.set, List.getD, List.getElem?_cons_zero, List.getElem?_cons_succ, then_normal, Option.getD_some, Bool.or_false, Bool.false_eq_true, up_zero, pgs_len]
  refine h0 _ _ ?_
  try clear h0 K_h0
  refine T.block ?_
  refine T.gh (Gh.keep [0, 10, 11, 12]) ?_
  refine T.loopi (fun i ρ t => t = σ ∧ (rows.take i).all risB = true ∧ ρ = [.sl (pgsAV rows) g, .any, .any, .any, .any, .any, .any, .any, .any, .any, .sl (pgsAV rows) g, .int .i64 (rows.length : Int), .int .i64 (i : Int)] ++ List.replicate 56 .any)
    rows.length 0 (Nat.zero_le _) ⟨rfl, rfl, rfl⟩ ?_
  rintro i ρ t hi ⟨rfl, hpre, rfl⟩
  refine T.seq_k (fun K_h0 h0 => ?_)
  refine T.regi hm ?_
  simp only [↓reduceIte, namesOf, List.any, I.names, aopsI, astep, ev, setd, List.set, List.getD, List.getElem?_cons_zero, List.getElem?_cons_succ, List.cons_append, List.nil_append, List.replicate, then_normal, Option.getD_some, Bool.or_false, Bool.false_eq_true, up_zero, binv, ↓opt_def, lt_len, eq_self]
  refine h0 _ _ ?_
  try clear h0 K_h0
  refine T.seq_k (fun K_h2 h2 => ?_)
  by_cases hil : i < rows.length
  · refine T.cond (b := true) (by simp [ev]; omega) (fun _ => T.skip ?_) (fun h => by cases h)
    refine h2 _ _ ?_
    try clear h2 K_h2
    have hw := inc64' hil (by omega)
    have hg := pgs_get hil
    have hrm := List.getElem_mem hil
    have hrli := hrl _ hrm
    have hsli := hsl _ hrm
    refine T.seq_k (fun K_h2 h2 => ?_)
    refine T.block ?_
    refine T.seq_k (fun K_h0 h0 => ?_)
    refine T.regi hm ?_
    simp only [↓reduceIte, namesOf, List.any, I.names, aopsI, astep, ev, setd, List.set, List.getD, List.getElem?_cons_zero, List.getElem?_cons_succ, List.cons_append, List.nil_append, List.length_cons, List.length_nil, List.replicate, then_normal, Option.getD_some, Bool.or_false, Bool.false_eq_true, up_zero, ↓opt_def, AV.cells, ldc, Int.natCast_nonneg, lt_len, Int.toNat_natCast, true_and, and_true, eq_self, decide_true, hil, pgs_len, hg, Nat.zero_add]
    refine h0 _ _ ?_
    try clear h0 K_h0
    refine T.seq_k (fun K_h3 h3 => ?_)
    refine T.regi hm ?_
    simp only [↓reduceIte, namesOf, List.any, I.names, aopsI, astep, ev, setd, List.set, List.getD, List.getElem?_cons_zero, List.getElem?_cons_succ, List.cons_append, List.nil_append, List.replicate, then_normal, Option.getD_some, Bool.or_false, Bool.false_eq_true, up_zero, List.map_cons, List.map_nil]
    refine (is_ok (l := rows[i]) (by omega) hsli).mono ?_
    rintro v t2 ⟨rfl, rfl⟩
    rw [is_doc]
    try simp only []
    refine h3 _ _ ?_
    try clear h3 K_h3
    cases hr : risB rows[i] with
    | false =>
      refine T.cond rfl (fun _ => ?_) (fun h => by cases h)
      refine T.seq_k (fun K_h0 h0 => ?_)
      refine T.regi hm ?_
      simp only [↓reduceIte, namesOf, List.any, I.names, aopsI, astep, ev, setd, List.set, List.getD, List.getElem?_cons_zero, List.getElem?_cons_succ, List.cons_append, List.nil_append, List.replicate, then_normal, Option.getD_some, Bool.or_false, Bool.false_eq_true, up_zero]
      refine h0 _ _ ?_
      try clear h0 K_h0
      refine T.ret (Fin.ret rfl ⟨?_, rfl⟩)
      have : rows.all risB = false := all_ff hil hr
      simp [pack, mergeR, this]
    | true =>
      refine T.cond rfl (fun h => by cases h) (fun _ => T.skip ?_)
      try simp only [List.cons_append, List.nil_append, List.replicate, then_normal, inBlock_normal, inBlock_normal]
      refine h2 _ _ ?_
      try clear h2 K_h2
      refine T.regi hm ?_
      simp only [↓reduceIte, namesOf, List.any, I.names, aopsI, astep, ev, setd, List.set, List.getD, List.getElem?_cons_zero, List.getElem?_cons_succ, List.cons_append, List.nil_append, List.replicate, then_normal, Option.getD_some, Bool.or_false, Bool.false_eq_true, up_zero, binv, ↓opt_def, eq_self, hw]
      exact ⟨hil, _, _, Gh.keep [0, 10, 11, 12], rfl, take_all hil hpre hr, rfl⟩
  · refine T.cond (b := false) (by simp [ev]; omega) (fun h => by cases h) (fun _ => T.exit ?_)
    have hie : i = rows.length := by omega
    subst hie
    rw [List.take_length] at hpre
    have hc : Canon rows := fun r hr => List.all_eq_true.1 hpre r hr
    try simp only [List.cons_append, List.nil_append, List.replicate, then_normal, inBlock_exit, then_exit]
    refine h1 _ _ ?_
    try clear h1 K_h1
    refine T.seq_k (fun K_h0 h0 => ?_)
    refine T.regi hm ?_
    simp only [↓reduceIte, namesOf, List.any, I.names, aopsI, astep, ev, setd, List.set, then_normal, Bool.or_false, Bool.false_eq_true, up_zero]
    refine h0 _ _ ?_
    try clear h0 K_h0
    refine T.seq_k (fun K_h1 h1 => ?_)
    refine T.seq_k (fun K_h2 h2 => ?_)
    refine T.regi hm ?_
    simp only [↓reduceIte, namesOf, List.any, I.names, aopsI, astep, ev, setd, List.set, List.getD, List.getElem?_cons_zero, List.getElem?_cons_succ, then_normal, Option.getD_some, Bool.or_false, Bool.false_eq_true, up_zero, List.map_cons, List.map_nil]
    refine (ksortT_ok (rows := rows) hc.rising hrn hrl (by omega)).mono ?_
    rintro v t2 ⟨ps, hK, rfl, rfl⟩
    have hS := merged_is hc hK
    have hSn : (outP rows ps).length ≤ 900 := Nat.le_trans (outP_le ps) (Nat.le_trans hK.len htot)
    have hSm : ∀ t ∈ outP rows ps, t.sp.length ≤ 100 ∧ ∀ s ∈ t.sp, s.da.length ≤ 1099511627776 := fun t ht => by
      obtain ⟨r, hr, htr⟩ := (outP_mem hK t).1 ht
      obtain ⟨j, hj⟩ := List.getElem?_of_mem htr
      exact ⟨(ris_at (hc r hr) hj).2.1, hda r hr t htr⟩
    rw [xsT_tcs]
    generalize outP rows ps = S at hS hSn hSm
    try simp only [tcs_len]
    refine h2 _ _ ?_
    try clear h2 K_h2
    refine T.block ?_
    refine T.gh (Gh.keep [6, 22, 23, 24]) ?_
    refine T.loopi (fun i ρ t => ∃ x, OutS t2 t (mergeT (S.take i)) x ∧ ρ = [.any, .any, .any, .any, .any, .any, x, .any, .any, .any, .any, .any, .any, .any, .any, .any, .any, .any, .any, .any, .any, .any, .sl (tcsAV S) .none, .int .i64 (S.length : Int), .int .i64 (i : Int)] ++ List.replicate 44 .any)
      S.length 0 (Nat.zero_le _) ⟨_, ⟨.refl _, .inl ⟨rfl, rfl⟩⟩, rfl⟩ ?_
    rintro i ρ t hi2 ⟨x, ⟨hL, hO⟩, rfl⟩
    refine T.seq_k (fun K_h0 h0 => ?_)
    refine T.regi hm ?_
    simp only [↓reduceIte, namesOf, List.any, I.names, aopsI, astep, ev, setd, List.set, List.getD, List.getElem?_cons_zero, List.getElem?_cons_succ, List.cons_append, List.nil_append, List.replicate, then_normal, Option.getD_some, Bool.or_false, Bool.false_eq_true, up_zero, binv, ↓opt_def, lt_len, eq_self]
    refine h0 _ _ ?_
    try clear h0 K_h0
    refine T.seq_k (fun K_h2 h2 => ?_)
    by_cases hil : i < S.length
    · refine T.cond (b := true) (by simp [ev]; omega) (fun _ => T.skip ?_) (fun h => by cases h)
      refine h2 _ _ ?_
      try clear h2 K_h2
      have hw := inc64' hil (by omega)
      have hg := tcs_get hil
      have hst : mergeT (S.take (i + 1)) = stepM (mergeT (S.take i)) S[i] := by rw [List.take_succ_eq_append_getElem hil, mergeT_snoc]
      obtain ⟨hy1, hy2⟩ := hSm _ (List.getElem_mem hil)
      have hfb := flat_bound (l := S.take i) (fun t ht => (hSm t (List.mem_of_mem_take ht)).1)
      have hbd : ∀ u ∈ mergeT (S.take i), u.sp.length ≤ 90000 ∧ ∀ s ∈ u.sp, s.da.length ≤ 1099511627776 := fun u hu => by
        obtain ⟨h1, h2⟩ := mergeT_sp (S.take i) u hu
        rw [List.length_take] at hfb
        refine ⟨by omega, fun s hs => ?_⟩
        have := h2 s hs
        rw [List.mem_flatMap] at this
        obtain ⟨t, ht, hst⟩ := this
        exact (hSm t (List.mem_of_mem_take ht)).2 s hst
      have hol := mergeT_len (S.take i)
      rw [List.length_take] at hol
      generalize S[i] = y at hg hst hy1 hy2
      generalize mergeT (S.take i) = out at hst hbd hol hO
      rw [tcav'] at hg
      refine T.seq_k (fun K_h2 h2 => ?_)
      refine T.block ?_
      refine T.seq_k (fun K_h3 h3 => ?_)
      refine T.regi hm ?_
      simp only [↓reduceIte, namesOf, List.any, I.names, aopsI, astep, ev, setd, List.set, List.getD, List.getElem?_cons_zero, List.getElem?_cons_succ, List.cons_append, List.nil_append, List.length_cons, List.length_nil, List.replicate, then_normal, Option.getD_some, Bool.or_false, Bool.or_true, Nat.reduceAdd, ↓opt_def, AV.isAny, AV.cells, ldc, St.set_same, Int.natCast_nonneg, lt_len, Int.toNat_natCast, true_and, and_true, eq_self, decide_true, hil, tcs_len, hg, AV.fits, AV.one, List.all_cons, List.all_nil, Nat.reduceBEq, Bool.not_false, Bool.and_self, Nat.zero_add, splice, List.take, List.drop, Nat.reduceLeDiff, St.set_set]
      have hb : ((t.up 4).set (t.next + 2) (.obj (tcC y))).res (t.next + 2) = some (.obj (tcC y)) := St.set_same _ _ _
      have hL1 : Like t2 ((t.up 4).set (t.next + 2) (.obj (tcC y))) := hL.box (n := 4) (i := 2) _
      have hO1 : (x = .sl [] .nil ∧ out = []) ∨ ∃ nm, out ≠ [] ∧ x = .refr nm 2 out.length ∧ ((t.up 4).set (t.next + 2) (.obj (tcC y))).res nm = some (.obj (out.flatMap tcC)) ∧ t2.next ≤ nm ∧ nm < t.next + 2 := by
        rcases hO with h | ⟨nm, h1, h2, h3, h4, h5⟩
        · exact .inl h
        · exact .inr ⟨nm, h1, h2, by rw [St.set_other _ _ (by omega)]; exact h3, h4, by omega⟩
      have hbn : t.next + 2 < ((t.up 4).set (t.next + 2) (.obj (tcC y))).next := by simp
      have hbl : t2.next ≤ t.next + 2 := by have := hL.next; omega
      generalize ((t.up 4).set (t.next + 2) (.obj (tcC y))) = u at hb hL1 hO1 hbn ⊢
      generalize t.next + 2 = b at hb hO1 hbn hbl ⊢
      clear hO hL
      refine h3 _ _ ?_
      try clear h3 K_h3
      refine T.seq_k (fun K_h3 h3 => ?_)
      have hfin : ∀ (pre : List Tc) (id : Nat) (a : List Sp) (nm : Nat), stepM out y = pre ++ [⟨id, gatherL (a ++ y.sp)⟩] → t2.next ≤ nm → ∀ (ρ2 : List AV) (u2 : St), keep [6, 22, 23, 24] 0 ρ2 = [.any, .any, .any, .any, .any, .any, .refr nm 2 (pre.length + 1), .any, .any, .any, .any, .any, .any, .any, .any, .any, .any, .any, .any, .any, .any, .any, .sl (tcsAV S) .none, .int .i64 (S.length : Int), .int .i64 (i : Int)] ++ List.replicate 44 .any →
          u2.res nm = some (.obj ((pre ++ [(⟨id, gatherL (a ++ y.sp)⟩ : Tc)]).flatMap tcC)) → Like t2 u2 → nm < u2.next → K_h2 ρ2 u2 := by
        intro pre id a nm hstep hnm ρ2 u2 hk hr hl hn
        refine h2 _ _ ?_
        refine T.gh (Gh.keep [6, 22, 23, 24]) ?_
        rw [hk]
        refine T.regi hm ?_
        simp only [↓reduceIte, namesOf, List.any, I.names, aopsI, astep, ev, setd, List.set, List.getD, List.getElem?_cons_zero, List.getElem?_cons_succ, List.cons_append, List.nil_append, List.replicate, then_normal, Option.getD_some, Bool.or_false, Bool.false_eq_true, up_zero, binv, ↓opt_def, eq_self, hw]
        refine ⟨hil, _, _, Gh.keep [6, 22, 23, 24], _, ⟨hl, .inr ⟨nm, ?_, rfl, ?_, hnm, hn⟩⟩, ?_⟩
        · rw [hst, hstep]; simp
        · rw [hst, hstep]; exact hr
        · rw [hst, hstep]; simp [keep]
      have hbu : ∀ k, (u.up k).res b = some (.obj (tcC y)) := fun _ => hb
      rcases hO1 with ⟨rfl, rfl⟩ | ⟨nm, hne, rfl, hr, hn1, hn2⟩
      · have e1 : IntKind.i64.wrap (((0 : Nat) : Int) - 1) = -1 := by decide
        have e2 : decide ((-1 : Int) < 0) = true := rfl
        have e3 : IntKind.i64.wrap ((-1 : Int) + 1) = 0 := by decide
        refine T.regi hm ?_
        simp only [↓reduceIte, namesOf, List.any, I.names, aopsI, astep, ev, setd, List.set, List.getD, List.getElem?_cons_zero, List.getElem?_cons_succ, List.cons_append, List.nil_append, List.length_nil, List.replicate, then_normal, Option.getD_some, Bool.or_false, Bool.false_eq_true, up_zero, binv, ↓opt_def, eq_self, e1]
        refine h3 _ _ ?_
        try clear h3 K_h3
        refine T.seq_k (fun K_h3 h3 => ?_)
        refine T.seq_k (fun K_h0 h0 => ?_)
        refine T.regi hm ?_
        simp only [↓reduceIte, namesOf, List.any, I.names, aopsI, astep, ev, setd, List.set, List.getD, List.getElem?_cons_zero, List.getElem?_cons_succ, List.cons_append, List.nil_append, List.replicate, then_normal, Option.getD_some, Bool.or_false, Bool.false_eq_true, up_zero, binv, ↓opt_def, eq_self, reduceCtorEq, e2]
        refine h0 _ _ ?_
        try clear h0 K_h0
        refine T.cond rfl (fun _ => ?_) (fun h => by cases h)
        refine T.seq_k (fun K_h4 h4 => ?_)
        refine T.regi hm ?_
        simp only [↓reduceIte, namesOf, List.any, I.names, aopsI, astep, ev, setd, List.set, List.getD, List.getElem?_cons_zero, List.getElem?_cons_succ, List.cons_append, List.nil_append, List.length_cons, List.length_nil, List.replicate, then_normal, Option.getD_some, Bool.or_false, Bool.or_true, Bool.false_eq_true, Nat.reduceAdd, ↓opt_def, AV.isAny, AV.cells, ldc, List.map_cons, List.map_nil, eq_self, hbu, fillA, ↓Option.map_some, held, srcOf, AV.er, AV.er1, Ver.noRoom, AV.fits, AV.one, List.all_cons, List.all_nil, Nat.reduceBEq, Bool.not_false, Bool.and_self, Nat.zero_add, splice, List.take, List.drop, Nat.reduceLeDiff, Nat.one_mul, and_self, List.isEmpty, List.flatMap_cons, List.flatMap_nil, List.append_nil]
        have hb2 : ((u.up 7).set (u.next + 5) (.obj [.int .u64 (y.id : Int), .sl [] .none])).res b = some (.obj (tcC y)) := by rw [St.set_other _ _ (by omega)]; exact hb
        have hr2 : ((u.up 7).set (u.next + 5) (.obj [.int .u64 (y.id : Int), .sl [] .none])).res (u.next + 5) = some (.obj [.int .u64 (y.id : Int), .sl [] .none]) := St.set_same _ _ _
        have hL2 : Like t2 ((u.up 7).set (u.next + 5) (.obj [.int .u64 (y.id : Int), .sl [] .none])) := hL1.box (n := 7) (i := 5) _
        have hn2 : u.next + 5 < ((u.up 7).set (u.next + 5) (.obj [.int .u64 (y.id : Int), .sl [] .none])).next := by simp
        have hlo2 : t2.next ≤ u.next + 5 := by have := hL1.next; omega
        generalize ((u.up 7).set (u.next + 5) (.obj [.int .u64 (y.id : Int), .sl [] .none])) = u1 at hb2 hr2 hL2 hn2 ⊢
        generalize u.next + 5 = nm at hr2 hn2 hlo2 ⊢
        refine h4 _ _ ?_
        try clear h4 K_h4
        refine T.regi hm ?_
        simp only [↓reduceIte, namesOf, List.any, I.names, aopsI, astep, ev, setd, List.set, List.getD, List.getElem?_cons_zero, List.getElem?_cons_succ, List.cons_append, List.nil_append, List.replicate, then_normal, Option.getD_some, Bool.or_false, Bool.false_eq_true, up_zero, binv, ↓opt_def, eq_self, e3]
        refine h3 _ _ ?_
        refine T.gh (Gh.keep [6, 8, 9, 22, 23, 24]) ?_
        exact ktail_ok (S := S) (i := i) (pre := []) (a := []) (id := y.id) (by simp) (fun s hs => by cases hs) hy1 hy2 (by simp) hr2 hb2 hL2 hlo2 hn2 (hfin [] y.id [] nm rfl hlo2)
      · obtain ⟨pre, v, rfl⟩ : ∃ pre v, out = pre ++ [v] := ⟨out.dropLast, out.getLast hne, (List.dropLast_concat_getLast hne).symm⟩
        obtain ⟨hv1, hv2⟩ := hbd v (by simp)
        have hgl : (pre ++ [v]).getLast? = some v := by simp
        have hPl : (pre.flatMap tcC).length = pre.length * 2 := flatk_len tcC_len pre
        have hfl : (pre ++ [v]).flatMap tcC = pre.flatMap tcC ++ [.int .u64 (v.id : Int), .sl (spsAV v.sp) .none] := by rw [List.flatMap_append]; rfl
        rw [hfl] at hr
        have hll : (pre ++ [v]).length = pre.length + 1 := by simp
        rw [hll] at hol ⊢
        have hc0 := last_cell0 (pre.flatMap tcC) (.int .u64 (v.id : Int)) (.sl (spsAV v.sp) .none)
        rw [hPl] at hc0
        have e1 : IntKind.i64.wrap (((pre.length + 1 : Nat) : Int) - 1) = (pre.length : Int) := by rw [wrap64 (by omega) (by omega)]; omega
        have e2 : decide ((pre.length : Int) < 0) = false := decide_eq_false (by omega)
        have hltI : (pre.length : Int) < ((pre.length + 1 : Nat) : Int) := by omega
        have hst2 : stepM (pre ++ [v]) y = if v.id = y.id then pre ++ [⟨v.id, gatherL (v.sp ++ y.sp)⟩] else (pre ++ [v]) ++ [⟨y.id, gatherL ([] ++ y.sp)⟩] := by
          unfold stepM; rw [hgl]; simp
        refine T.regi hm ?_
        simp only [↓reduceIte, namesOf, List.any, I.names, aopsI, astep, ev, setd, List.set, List.getD, List.getElem?_cons_zero, List.getElem?_cons_succ, List.cons_append, List.nil_append, List.replicate, then_normal, Option.getD_some, Bool.or_false, Bool.false_eq_true, up_zero, binv, ↓opt_def, eq_self, e1]
        refine h3 _ _ ?_
        try clear h3 K_h3
        refine T.seq_k (fun K_h3 h3 => ?_)
        by_cases hid : v.id = y.id
        · have e3 : ((v.id : Int) != (y.id : Int)) = false := by simp; omega
          rw [if_pos hid] at hst2
          refine T.seq_k (fun K_h0 h0 => ?_)
          refine T.regi hm ?_
          simp only [↓reduceIte, namesOf, List.any, I.names, aopsI, astep, ev, setd, List.set, List.getD, List.getElem?_cons_zero, List.getElem?_cons_succ, List.cons_append, List.nil_append, List.replicate, then_normal, Option.getD_some, Bool.or_false, Bool.false_eq_true, up_zero, binv, ↓opt_def, ldc, Int.natCast_nonneg, Int.toNat_natCast, and_true, eq_self, e2, e3, hr, hb, hc0, hltI, Nat.add_zero]
          refine h0 _ _ ?_
          try clear h0 K_h0
          refine T.cond rfl (fun h => by cases h) (fun _ => T.skip ?_)
          refine h3 _ _ ?_
          refine T.gh (Gh.keep [6, 8, 9, 22, 23, 24]) ?_
          exact ktail_ok (S := S) (i := i) (pre := pre) (a := v.sp) (id := v.id) hv1 hv2 hy1 hy2 (by omega) hr hb hL1 hn1 (by omega) (hfin pre v.id v.sp nm hst2 hn1)
        · have e3 : ((v.id : Int) != (y.id : Int)) = true := by simp; omega
          rw [if_neg hid] at hst2
          refine T.seq_k (fun K_h0 h0 => ?_)
          refine T.regi hm ?_
          simp only [↓reduceIte, namesOf, List.any, I.names, aopsI, astep, ev, setd, List.set, List.getD, List.getElem?_cons_zero, List.getElem?_cons_succ, List.cons_append, List.nil_append, List.replicate, then_normal, Option.getD_some, Bool.or_false, Bool.false_eq_true, up_zero, binv, ↓opt_def, ldc, Int.natCast_nonneg, Int.toNat_natCast, and_true, eq_self, e2, e3, hr, hb, hc0, hltI, Nat.add_zero]
          refine h0 _ _ ?_
          try clear h0 K_h0
          refine T.cond rfl (fun _ => ?_) (fun h => by cases h)
          have hru : ∀ k, (u.up k).res nm = some (.obj (pre.flatMap tcC ++ [.int .u64 (v.id : Int), .sl (spsAV v.sp) .none])) := fun _ => hr
          have hcl : (pre.length + 1) * 2 ≤ (pre.flatMap tcC ++ [AV.int .u64 (v.id : Int), .sl (spsAV v.sp) .none]).length := by rw [List.length_append, hPl]; simp; omega
          have hct : (pre.flatMap tcC ++ [AV.int .u64 (v.id : Int), .sl (spsAV v.sp) .none]).take ((pre.length + 1) * 2) = (pre ++ [v]).flatMap tcC := by
            rw [List.take_of_length_le (by rw [List.length_append, hPl]; simp; omega), hfl]
          have hb1 : (pre.length + 1 + 1) * 32 ≤ 70368744177664 := by omega
          have hb2 : pre.length + 1 + 1 ≤ 4611686018427387904 := by omega
          have e4 : IntKind.i64.wrap ((pre.length : Int) + 1) = ((pre.length + 1 : Nat) : Int) := by rw [wrap64 (by omega) (by omega)]; omega
          refine T.seq_k (fun K_h4 h4 => ?_)
          refine T.regi hm ?_
          simp only [↓reduceIte, namesOf, List.any, I.names, aopsI, astep, ev, setd, List.set, List.getD, List.getElem?_cons_zero, List.getElem?_cons_succ, List.cons_append, List.nil_append, List.length_cons, List.length_nil, List.replicate, then_normal, Option.getD_some, Bool.or_false, Bool.or_true, Nat.reduceAdd, ↓opt_def, AV.isAny, AV.cells, ldc, List.map_cons, List.map_nil, eq_self, hbu, hru, hcl, hct, hb1, hb2, fillA, ↓Option.map_some, held, srcOf, AV.er, AV.er1, AV.fits, AV.one, List.all_cons, List.all_nil, Nat.reduceBEq, Bool.not_false, Bool.and_self, Nat.zero_add, splice, List.drop, Nat.reduceLeDiff, and_self, List.flatMap_cons, List.flatMap_nil, List.append_nil, List.take_zero]
          have hb3 : (((u.up 7).del nm).set (u.next + 5) (.obj ((pre ++ [v]).flatMap tcC ++ [.int .u64 (y.id : Int), .sl [] .none]))).res b = some (.obj (tcC y)) := by
            rw [St.set_other _ _ (by omega)]
            simp only [St.del]
            rw [if_neg (by omega)]; exact hb
          have hr3 : (((u.up 7).del nm).set (u.next + 5) (.obj ((pre ++ [v]).flatMap tcC ++ [.int .u64 (y.id : Int), .sl [] .none]))).res (u.next + 5) = some (.obj ((pre ++ [v]).flatMap tcC ++ [.int .u64 (y.id : Int), .sl [] .none])) := St.set_same _ _ _
          have hlo3 : t2.next ≤ u.next + 5 := by have := hL1.next; omega
          have hL3 : Like t2 (((u.up 7).del nm).set (u.next + 5) (.obj ((pre ++ [v]).flatMap tcC ++ [.int .u64 (y.id : Int), .sl [] .none]))) := ((hL1.up 7).del hn1).set _ hlo3
          have hn3 : u.next + 5 < (((u.up 7).del nm).set (u.next + 5) (.obj ((pre ++ [v]).flatMap tcC ++ [.int .u64 (y.id : Int), .sl [] .none]))).next := by simp
          generalize (((u.up 7).del nm).set (u.next + 5) (.obj ((pre ++ [v]).flatMap tcC ++ [.int .u64 (y.id : Int), .sl [] .none]))) = u1 at hb3 hr3 hL3 hn3 ⊢
          generalize u.next + 5 = nm2 at hr3 hn3 hlo3 ⊢
          have hll2 : (pre ++ [v]).length = pre.length + 1 := by simp
          refine h4 _ _ ?_
          try clear h4 K_h4
          refine T.regi hm ?_
          simp only [↓reduceIte, namesOf, List.any, I.names, aopsI, astep, ev, setd, List.set, List.getD, List.getElem?_cons_zero, List.getElem?_cons_succ, List.cons_append, List.nil_append, List.replicate, then_normal, Option.getD_some, Bool.or_false, Bool.false_eq_true, up_zero, binv, ↓opt_def, eq_self, e4]
          refine h3 _ _ ?_
          refine T.gh (Gh.keep [6, 8, 9, 22, 23, 24]) ?_
          rw [← hll2]
          exact ktail_ok (S := S) (i := i) (pre := pre ++ [v]) (a := []) (id := y.id) (by simp) (fun s hs => by cases hs) hy1 hy2 (by omega) hr3 hb3 hL3 hlo3 hn3 (hfin (pre ++ [v]) y.id [] nm2 hst2 hlo3)
    · refine T.cond (b := false) (by simp [ev]; omega) (fun h => by cases h) (fun _ => T.exit ?_)
      have hie : i = S.length := by omega
      subst hie
      rw [List.take_length] at hO
      try simp only [List.cons_append, List.nil_append, List.replicate, then_normal, inBlock_exit, then_exit]
      refine h1 _ _ ?_
      try clear h1 K_h1
      refine T.gh (Gh.keep [6]) ?_
      have hgh : ∃ (v : Ver) (u : St), Gh ([.any, .any, .any, .any, .any, .any, x] ++ List.replicate 62 .any) t ([.any, .any, .any, .any, .any, .any, .sl (tcsAV (mergeT S)) v] ++ List.replicate 62 .any) u ∧ ∀ n x, t2.res n = some x → u.res n = some x := by
        rcases hO with ⟨rfl, h⟩ | ⟨nm, _, rfl, h3, h4, h5⟩
        · rw [h]; exact ⟨.nil, t, .refl, hL.quiet wf⟩
        · refine ⟨.none, t.del nm, Gh.frozen (t := 6) (kk := 2) rfl h3 (tcs_len _) (fun x hx => ?_) ?_, fun n x hx => ?_⟩
          · obtain ⟨y, _, rfl⟩ := List.mem_map.1 hx; rfl
          · rw [tcs_flat, List.take_of_length_le (by rw [flatk_len tcC_len]; exact Nat.le_refl _)]
          · have hn := wf.lt hx
            simp only [St.del]
            rw [if_neg (by omega)]; exact hL.quiet wf n x hx
      obtain ⟨v, u, hgh, hqu⟩ := hgh
      refine T.gh hgh ?_
      have hGm : ∀ t ∈ mergeT S, t.sp.length ≤ 9223372036854775807 := fun t ht => by
        have h1 := (mergeT_sp S t ht).1
        have h2 := flat_bound (l := S) (fun t ht => (hSm t ht).1)
        omega
      have hGl := mergeT_len S
      rw [hS] at hGm hGl ⊢
      refine T.seq_k (fun K_h1 h1 => ?_)
      refine T.seq_k (fun K_h2 h2 => ?_)
      refine T.regi hm ?_
      simp only [↓reduceIte, namesOf, List.any, I.names, aopsI, astep, ev, setd, List.set, List.getD, List.getElem?_cons_zero, List.getElem?_cons_succ, List.cons_append, List.nil_append, List.replicate, then_normal, Option.getD_some, Bool.or_false, Bool.false_eq_true, up_zero, List.map_cons, List.map_nil]
      refine (is_ok (l := groupL (spansP rows)) (by omega) hGm).mono ?_
      rintro w u2 ⟨rfl, rfl⟩
      rw [is_doc]
      try simp only []
      refine h2 _ _ ?_
      try clear h2 K_h2
      cases hr : risB (groupL (spansP rows)) with
      | false =>
        refine T.cond rfl (fun _ => ?_) (fun h => by cases h)
        refine T.seq_k (fun K_h0 h0 => ?_)
        refine T.regi hm ?_
        simp only [↓reduceIte, namesOf, List.any, I.names, aopsI, astep, ev, setd, List.set, List.getD, List.getElem?_cons_zero, List.getElem?_cons_succ, then_normal, Option.getD_some, Bool.or_false, Bool.false_eq_true, up_zero]
        refine h0 _ _ ?_
        try clear h0 K_h0
        exact T.ret (Fin.quiet rfl ⟨⟨trivial, trivial⟩, trivial, trivial⟩ hqu ⟨by simp [pack, mergeR, hpre, hr], rfl⟩)
      | true =>
        refine T.cond rfl (fun h => by cases h) (fun _ => T.skip ?_)
        refine h1 _ _ ?_
        try clear h1 K_h1
        refine T.seq_k (fun K_h0 h0 => ?_)
        refine T.regi hm ?_
        simp only [↓reduceIte, namesOf, List.any, I.names, aopsI, astep, ev, setd, List.set, List.getD, List.getElem?_cons_zero, List.getElem?_cons_succ, then_normal, Option.getD_some, Bool.or_false, Bool.false_eq_true, up_zero]
        refine h0 _ _ ?_
        try clear h0 K_h0
        exact T.ret (Fin.quietw rfl (Wk.tup2 (.sl _ _)) ⟨⟨nbs_tcs _ _, trivial⟩, trivial, trivial⟩ hqu ⟨by simp [mergeR, hpre, hr], rfl⟩)

end Go.VL

namespace Go.VL

open Go.Proofs

def exK1 : List (List Tc) := [[⟨1, [⟨1, 2, 0, 0, []⟩]⟩], [⟨1, [⟨1, 1, 0, 0, []⟩]⟩]]

def exK2 : List (List Tc) := [[⟨0, []⟩]]

theorem exK1_is : mergeR exK1 = .tup [.sl (tcsAV [⟨1, [⟨1, 1, 0, 0, []⟩, ⟨1, 2, 0, 0, []⟩]⟩]) .none, .nili] := by
  unfold mergeR
  rw [if_pos (by decide), if_pos (by decide)]
  have : groupL (spansP exK1) = [⟨1, [⟨1, 1, 0, 0, []⟩, ⟨1, 2, 0, 0, []⟩]⟩] := by decide
  rw [this]

theorem exK2_is : mergeR exK2 = .tup [.sl [] .nil, .iface tCode (.int .i64 1)] := by
  unfold mergeR
  rw [if_neg (by decide)]

set_option maxRecDepth 10000 in
set_option maxHeartbeats 4000000 in
theorem up10_ok {σ : St} : ACalls Try.prog n_up10 [] σ (fun v σ' => v = .bool true ∧ σ' = σ) := by
  refine s_up10 (fun wf => ?_)
  unfold c_up10
  refine T.seq_k (fun K_h0 h0 => ?_)
  refine T.regi hm ?_
  simp only [↓reduceIte, namesOf, List.any, I.names, aopsI, astep, ev, setd, List.set, List.nil_append, List.length_nil, List.replicate, then_normal, Bool.or_false, Bool.false_eq_true, up_zero, Nat.reduceSub]
  refine h0 _ _ ?_
  try clear h0 K_h0
  refine T.seq_k (fun K_h0 h0 => ?_)
  refine T.regi hm ?_
  simp only [↓reduceIte, namesOf, List.any, I.names, aopsI, astep, ev, setd, List.set, List.getD, List.getElem?_cons_zero, List.getElem?_cons_succ, List.cons_append, List.nil_append, List.length_cons, List.length_nil, then_normal, Option.getD_some, Bool.or_false, Bool.false_eq_true, up_zero, Nat.reduceAdd, ↓opt_def, AV.isAny, AV.cells, List.map_cons, List.map_nil, and_true, eq_self, AV.fits, AV.one, List.all_cons, List.all_nil, Nat.reduceBEq, Bool.not_false, Bool.and_self, Nat.zero_add, splice, List.take, List.drop, Nat.reduceLeDiff, held, AV.er, AV.er1, fillA, ↓Option.map_some]
  refine h0 _ _ ?_
  try clear h0 K_h0
  refine T.seq_k (fun K_h0 h0 => ?_)
  refine T.regi hm ?_
  simp only [↓reduceIte, namesOf, List.any, I.names, aopsI, astep, ev, setd, List.set, List.getD, List.getElem?_cons_zero, List.getElem?_cons_succ, List.cons_append, List.nil_append, List.length_cons, List.length_nil, then_normal, Option.getD_some, Bool.or_false, Bool.false_eq_true, up_zero, Nat.reduceAdd, ↓opt_def, AV.isAny, AV.cells, List.map_cons, List.map_nil, and_true, eq_self, AV.fits, AV.one, List.all_cons, List.all_nil, Nat.reduceBEq, Bool.not_false, Bool.and_self, Nat.zero_add, splice, List.take, List.drop, Nat.reduceLeDiff, held, AV.er, AV.er1, fillA, ↓Option.map_some]
  refine h0 _ _ ?_
  try clear h0 K_h0
  refine T.seq_k (fun K_h1 h1 => ?_)
  refine T.regi hm ?_
  simp only [↓reduceIte, namesOf, List.any, I.names, aopsI, astep, ev, setd, List.set, List.getD, List.getElem?_cons_zero, List.getElem?_cons_succ, List.length_cons, List.length_nil, then_normal, Option.getD_some, Bool.or_false, Bool.false_eq_true, up_zero, ↓opt_def, AV.isAny, AV.cells, List.map_cons, List.map_nil, eq_self, AV.fits, AV.one, List.all_cons, List.all_nil, Nat.reduceBEq, Bool.not_false, Bool.and_self, Nat.zero_add, held, AV.er, AV.er1]
  refine (kmerge_ok (rows := exK1) (g := .none) (by simp [exK1]) (by simp [exK1]) (by simp [exK1]) (by simp [exK1]) (by simp [exK1])).mono ?_
  rintro v σ1 ⟨rfl, rfl⟩
  rw [exK1_is]
  try simp only [List.getElem?_cons_zero, List.getElem?_cons_succ]
  refine h1 _ _ ?_
  try clear h1 K_h1
  refine T.seq_k (fun K_h1 h1 => ?_)
  refine T.regi hm ?_
  simp only [↓reduceIte, namesOf, List.any, I.names, aopsI, astep, ev, setd, List.set, List.getD, List.getElem?_cons_zero, List.getElem?_cons_succ, List.length_cons, List.length_nil, then_normal, Option.getD_some, Bool.or_false, Bool.false_eq_true, up_zero, Nat.reduceAdd, ↓opt_def, AV.isAny, AV.cells, List.map_cons, List.map_nil, eq_self, AV.fits, AV.one, List.all_cons, List.all_nil, Nat.reduceBEq, Bool.not_false, Bool.and_self, Nat.zero_add, held, AV.er, AV.er1, fillA, ↓Option.map_some]
  refine (kmerge_ok (rows := exK2) (g := .none) (by simp [exK2]) (by simp [exK2]) (by simp [exK2]) (by simp [exK2]) (by simp [exK2])).mono ?_
  rintro v σ2 ⟨rfl, rfl⟩
  rw [exK2_is]
  try simp only [List.getElem?_cons_zero, List.getElem?_cons_succ]
  refine h1 _ _ ?_
  try clear h1 K_h1
  have hlen : (tcsAV [⟨1, [⟨1, 1, 0, 0, []⟩, ⟨1, 2, 0, 0, []⟩]⟩]).length = 1 := rfl
  have hx0 : (tcsAV [⟨1, [⟨1, 1, 0, 0, []⟩, ⟨1, 2, 0, 0, []⟩]⟩])[0]? = some (.agg [.int .u64 1, .sl [.agg [.int .u64 1, .int .u64 1, .int .i64 0, .int .i64 0, .sl [] .none], .agg [.int .u64 1, .int .u64 2, .int .i64 0, .int .i64 0, .sl [] .none]] .none]) := rfl
  generalize tcsAV [⟨1, [⟨1, 1, 0, 0, []⟩, ⟨1, 2, 0, 0, []⟩]⟩] = xs at hlen hx0 ⊢
  refine T.seq_k (fun K_h1 h1 => ?_)
  have f0 : ((0 : Int) < ((1 : Nat) : Int)) = True := eq_true (by decide)
  have f1 : ((0 : Int) < ((2 : Nat) : Int)) = True := eq_true (by decide)
  have f3 : ((0 : Int) ≤ 0) = True := eq_true (by decide)
  have f4 : ((((1 : Nat) : Int)) == 1) = true := rfl
  have f5 : ((((2 : Nat) : Int)) == 2) = true := rfl
  have f6 : (0 : Int).toNat = 0 := rfl
  have f7 : eqIv true [(31, .i64)] .nili .nili = some true := rfl
  have f8 : eqIv false [(31, .i64)] (.iface tCode (.int .i64 1)) (.iface 31 (.int .i64 1)) = some true := rfl
  refine T.regt hm (tbl := []) Tbl.ok_nil ?_
  iterate 30 (refine aopsT_cut 1 (fun K_c h_c => ?_); simp only [↓reduceIte, namesOf, List.any, I.names, aopsT, qstep, astep, ev, setd, List.set, List.getD, List.getElem?_cons_zero, List.getElem?_cons_succ, List.length_cons, List.length_nil, Option.getD_some, Bool.or_false, Bool.false_eq_true, up_zero, Nat.reduceAdd, binv, ↓opt_def, AV.cells, ldc, and_true, eq_self, Nat.zero_add, List.take, List.drop, hlen, hx0, f0, f1, f3, f4, f5, f6, f7, f8, beq_self_eq_true]; refine h_c _ _ ?_; clear h_c K_c; simp only [List.drop_succ_cons, List.drop_zero, Nat.zero_add, Nat.reduceAdd])
  simp only [aopsT, qstep, astep, ev, setd, List.set, List.getD, List.getElem?_cons_zero, List.getElem?_cons_succ, then_normal, Option.getD_some]
  refine h1 _ _ ?_
  try clear h1 K_h1
  exact T.ret (Fin.ret rfl ⟨rfl, rfl⟩)

/-! ### Plain: what is merged in parts -/

end Go.VL

namespace Go.VL

open Go.Proofs

theorem fewt_of {m : Nat} {l : List Tc} (h : fewtB (m : Int) l = true) : l.length ≤ 100 ∧ total l ≤ m ∧ ∀ t ∈ l, t.sp.length ≤ 150 ∧ ∀ s ∈ t.sp, s.da.length ≤ 200 := by
  unfold fewtB at h
  simp only [Bool.and_eq_true, decide_eq_true_eq, List.all_eq_true] at h
  obtain ⟨⟨h1, h2⟩, h3⟩ := h
  refine ⟨h2, by omega, fun t ht => ?_⟩
  have := few_of (m := 150) (h1 t ht)
  exact this

theorem total_flat (l : List Tc) : (l.flatMap Tc.sp).length = total l := by
  induction l with
  | nil => rfl
  | cons t l ih => simp only [List.flatMap_cons, List.length_append, ih, total, List.map_cons, List.sum_cons]

structure Small8 (l : List (List Tc)) : Prop where
  n : l.length ≤ 8
  row : ∀ r ∈ l, r.length ≤ 100 ∧ total r ≤ 100 ∧ ∀ t ∈ r, t.sp.length ≤ 150 ∧ ∀ s ∈ t.sp, s.da.length ≤ 200

theorem small8_of {l : List (List Tc)} (h : small8 l = true) : Small8 l := by
  unfold small8 at h
  simp only [Bool.and_eq_true, decide_eq_true_eq, List.all_eq_true] at h
  exact ⟨h.2, fun r hr => fewt_of (m := 100) (h.1 r hr)⟩

theorem Small8.sum {l : List (List Tc)} (h : Small8 l) : (l.map List.length).sum ≤ 800 ∧ (spansP l).length ≤ 800 := by
  have key : ∀ (l : List (List Tc)), (∀ r ∈ l, r.length ≤ 100 ∧ total r ≤ 100) → (l.map List.length).sum ≤ 100 * l.length ∧ (spansP l).length ≤ 100 * l.length := by
    intro l
    induction l with
    | nil => intro _; simp [spansP]
    | cons r l ih =>
      intro h
      obtain ⟨i1, i2⟩ := ih (fun r hr => h r (List.mem_cons_of_mem _ hr))
      obtain ⟨h1, h2⟩ := h r (by simp)
      unfold spansP at i2 ⊢
      rw [List.flatMap_cons, List.length_append, total_flat]
      simp only [List.map_cons, List.sum_cons, List.length_cons]
      omega
  have := key l (fun r hr => ⟨(h.row r hr).1, (h.row r hr).2.1⟩)
  have hn := h.n
  omega

theorem Small8.merge {l : List (List Tc)} (h : Small8 l) {g : Ver} {σ : St} : ACalls Try.prog n_kmerge [.sl (pgsAV l) g] σ (fun v σ' => v = mergeR l ∧ σ' = σ) :=
  kmerge_ok (by have := h.n; omega) (by have := h.sum; omega) (fun r hr => by have := (h.row r hr).1; omega) (fun r hr t ht => by have := ((h.row r hr).2.2 t ht).1; omega) (fun r hr t ht s hs => by have := ((h.row r hr).2.2 t ht).2 s hs; omega)

theorem ei_nn : eqIv true [(31, .i64)] .nili .nili = some true := rfl

theorem ei_11 : eqIv false [(31, .i64)] (.iface tCode (.int .i64 1)) (.iface 31 (.int .i64 1)) = some true := rfl

theorem ei_33 : eqIv false [(31, .i64)] (.iface tCode (.int .i64 3)) (.iface 31 (.int .i64 3)) = some true := rfl

set_option maxRecDepth 10000 in
set_option maxHeartbeats 1000000 in
theorem kwayMerges_ok {l : List (List Tc)} {g : Ver} {σ : St} (hl : l.length ≤ 9223372036854775807) (hs : ∀ p ∈ l, p.length ≤ 9223372036854775807 ∧ ∀ t ∈ p, t.sp.length ≤ 9223372036854775807) :
    ACalls Try.prog n_kwayMerges [.sl (pgsAV l) g] σ (fun v σ' => v = .bool true ∧ σ' = σ) := by
  refine s_kwayMerges (fun wf => ?_)
  unfold c_kwayMerges
  refine T.seq_k (fun K_h0 h0 => ?_)
  refine T.regi hm ?_
  simp only [↓reduceIte, namesOf, List.any, I.names, aopsI, astep, ev, setd, List.set, List.cons_append, List.nil_append, List.length_cons, List.length_nil, List.replicate, then_normal, Bool.or_false, Bool.false_eq_true, up_zero, Nat.reduceAdd, Nat.reduceSub]
  refine h0 _ _ ?_
  try clear h0 K_h0
  refine T.seq_k (fun K_h1 h1 => ?_)
  refine T.regi hm ?_
  simp only [↓reduceIte, namesOf, List.any, I.names, aopsI, astep, ev, setd, List.set, List.getD, List.getElem?_cons_zero, List.getElem?_cons_succ, then_normal, Option.getD_some, Bool.or_false, Bool.false_eq_true, up_zero, List.map_nil]
  refine up10_ok.mono ?_
  rintro v σ1 ⟨rfl, rfl⟩
  try simp only [↓reduceIte, namesOf, List.any, I.names, aops, aopsI, aopsT, qstep, CPt, qget, Tbl.get, astep, ev, setd, List.set, List.getD, List.getElem?_cons_zero, List.getElem?_cons_succ, List.getElem?_nil, List.cons_append, List.nil_append, List.length_cons, List.length_nil, List.replicate, then_normal, inBlock_normal, Option.getD_some, Option.getD_none, Bool.or_false, Bool.or_true, Bool.true_or, Bool.false_or, Bool.false_eq_true, if_false, if_true, up_zero, Nat.reduceAdd, Nat.reduceSub, binv, ↓opt_def, AV.isAny, AV.cells, ldc, List.map_cons, List.map_nil, St.set_next, St.set_same, St.up_next, Int.natCast_nonneg, lt_len, le_len, Int.toNat_natCast, true_and, and_true, eq_self, reduceCtorEq, decide_true, List.length_singleton, er_int, er_bool, er_str, up_zero]
  refine h1 _ _ ?_
  try clear h1 K_h1
  refine T.seq_k (fun K_h1 h1 => ?_)
  refine T.regi hm ?_
  simp only [↓reduceIte, namesOf, List.any, I.names, aopsI, astep, ev, setd, List.set, List.getD, List.getElem?_cons_zero, List.getElem?_cons_succ, then_normal, Option.getD_some, Bool.or_false, Bool.false_eq_true, up_zero, List.map_cons, List.map_nil]
  refine (small10_ok hl hs).mono ?_
  rintro v σ2 ⟨rfl, rfl⟩
  try simp only [↓reduceIte, namesOf, List.any, I.names, aops, aopsI, aopsT, qstep, CPt, qget, Tbl.get, astep, ev, setd, List.set, List.getD, List.getElem?_cons_zero, List.getElem?_cons_succ, List.getElem?_nil, List.cons_append, List.nil_append, List.length_cons, List.length_nil, List.replicate, then_normal, inBlock_normal, Option.getD_some, Option.getD_none, Bool.or_false, Bool.or_true, Bool.true_or, Bool.false_or, Bool.false_eq_true, if_false, if_true, up_zero, Nat.reduceAdd, Nat.reduceSub, binv, ↓opt_def, AV.isAny, AV.cells, ldc, List.map_cons, List.map_nil, St.set_next, St.set_same, St.up_next, Int.natCast_nonneg, lt_len, le_len, Int.toNat_natCast, true_and, and_true, eq_self, reduceCtorEq, decide_true, List.length_singleton, er_int, er_bool, er_str, up_zero]
  refine h1 _ _ ?_
  try clear h1 K_h1
  refine T.seq_k (fun K_h1 h1 => ?_)
  cases hf : small8 l with
  | false =>
    refine T.seq_k (fun K_h0 h0 => ?_)
    refine T.regi hm ?_
    simp only [↓reduceIte, namesOf, List.any, I.names, aopsI, astep, ev, setd, List.set, List.getD, List.getElem?_cons_zero, List.getElem?_cons_succ, then_normal, Option.getD_some, Bool.or_false, Bool.false_eq_true, up_zero]
    refine h0 _ _ ?_
    try clear h0 K_h0
    refine T.cond rfl (fun _ => ?_) (fun h => by cases h)
    refine T.seq_k (fun K_h0 h0 => ?_)
    refine T.regi hm ?_
    simp only [↓reduceIte, namesOf, List.any, I.names, aopsI, astep, ev, setd, List.set, List.getD, List.getElem?_cons_zero, List.getElem?_cons_succ, then_normal, Option.getD_some, Bool.or_false, Bool.false_eq_true, up_zero]
    refine h0 _ _ ?_
    try clear h0 K_h0
    exact T.ret (Fin.ret rfl ⟨rfl, rfl⟩)
  | true =>
  refine T.seq_k (fun K_h0 h0 => ?_)
  refine T.regi hm ?_
  simp only [↓reduceIte, namesOf, List.any, I.names, aopsI, astep, ev, setd, List.set, List.getD, List.getElem?_cons_zero, List.getElem?_cons_succ, then_normal, Option.getD_some, Bool.or_false, Bool.false_eq_true, up_zero]
  refine h0 _ _ ?_
  try clear h0 K_h0
  refine T.cond rfl (fun h => by cases h) (fun _ => T.skip ?_)
  have hS := small8_of hf
  have hn := hS.n
  have hsum := hS.sum
  refine h1 _ _ ?_
  try clear h1 K_h1
  refine T.seq_k (fun K_h1 h1 => ?_)
  refine T.regi hm ?_
  simp only [↓reduceIte, namesOf, List.any, I.names, aopsI, astep, ev, setd, List.set, List.getD, List.getElem?_cons_zero, List.getElem?_cons_succ, then_normal, Option.getD_some, Bool.or_false, Bool.false_eq_true, up_zero, ↓opt_def, List.map_cons, List.map_nil]
  refine hS.merge.mono ?_
  rintro v σ3 ⟨rfl, rfl⟩
  -- what it tells
  obtain ⟨xv, er0, hmr, hcase⟩ : ∃ xv er0, mergeR l = .tup [xv, er0] ∧ ((l.all risB = false ∧ xv = .sl [] .nil ∧ er0 = .iface tCode (.int .i64 1)) ∨
      (l.all risB = true ∧ risB (groupL (spansP l)) = false ∧ xv = .sl [] .nil ∧ er0 = .iface tCode (.int .i64 3)) ∨ (l.all risB = true ∧ risB (groupL (spansP l)) = true ∧ xv = .sl (tcsAV (groupL (spansP l))) .none ∧ er0 = .nili)) := by
    unfold mergeR
    cases h1 : l.all risB with
    | false => exact ⟨_, _, rfl, .inl ⟨rfl, rfl, rfl⟩⟩
    | true =>
      cases h2 : risB (groupL (spansP l)) with
      | false => exact ⟨_, _, rfl, .inr (.inl ⟨rfl, rfl, rfl, rfl⟩)⟩
      | true => exact ⟨_, _, rfl, .inr (.inr ⟨rfl, rfl, rfl, rfl⟩)⟩
  rw [hmr]
  try simp only [List.getElem?_cons_zero, List.getElem?_cons_succ]
  refine h1 _ _ ?_
  try clear h1 K_h1
  refine T.seq_k (fun K_h1 h1 => ?_)
  refine T.seq_k (fun K_h2 h2 => ?_)
  refine T.regi hm ?_
  simp only [↓reduceIte, namesOf, List.any, I.names, aopsI, astep, ev, setd, List.set, then_normal, Bool.or_false, Bool.false_eq_true, up_zero]
  refine h2 _ _ ?_
  try clear h2 K_h2
  refine T.block ?_
  refine T.gh (Gh.keep [0, 3, 5, 6, 7]) ?_
  refine T.loopi (fun i ρ t => t = σ3 ∧ (l.take i).all risB = true ∧ ρ = [.sl (pgsAV l) g, .any, .any, .bool true, .any, xv, er0, .int .i64 (i : Int)] ++ List.replicate 75 .any)
    l.length 0 (Nat.zero_le _) ⟨rfl, rfl, rfl⟩ ?_
  rintro i ρ t hi ⟨rfl, hpre, rfl⟩
  refine T.seq_k (fun K_h2 h2 => ?_)
  refine T.seq_k (fun K_h0 h0 => ?_)
  refine T.regi hm ?_
  simp only [↓reduceIte, namesOf, List.any, I.names, aopsI, astep, ev, setd, List.set, List.getD, List.getElem?_cons_zero, List.getElem?_cons_succ, List.cons_append, List.nil_append, List.replicate, then_normal, Option.getD_some, Bool.or_false, Bool.false_eq_true, up_zero, binv, ↓opt_def, lt_len, eq_self, pgs_len]
  refine h0 _ _ ?_
  try clear h0 K_h0
  by_cases hil : i < l.length
  · refine T.cond (b := true) (by simp [ev]; omega) (fun _ => T.skip ?_) (fun h => by cases h)
    refine h2 _ _ ?_
    try clear h2 K_h2
    have hw := inc64' hil (by omega)
    have hg := pgs_get hil
    obtain ⟨r1, _, r3⟩ := hS.row _ (List.getElem_mem hil)
    refine T.seq_k (fun K_h2 h2 => ?_)
    refine T.block ?_
    refine T.seq_k (fun K_h3 h3 => ?_)
    refine T.regi hm ?_
    simp only [↓reduceIte, namesOf, List.any, I.names, aopsI, astep, ev, setd, List.set, List.getD, List.getElem?_cons_zero, List.getElem?_cons_succ, List.cons_append, List.nil_append, List.length_cons, List.length_nil, List.replicate, then_normal, Option.getD_some, Bool.or_false, Bool.false_eq_true, up_zero, ↓opt_def, AV.cells, ldc, List.map_cons, List.map_nil, Int.natCast_nonneg, lt_len, Int.toNat_natCast, true_and, and_true, eq_self, decide_true, hil, pgs_len, hg, Nat.zero_add]
    refine (ris_ok (l := l[i]) (by omega) (fun t ht => by have := (r3 t ht).1; omega)).mono ?_
    rintro v t2 ⟨rfl, rfl⟩
    try simp only [↓reduceIte, namesOf, List.any, I.names, aops, aopsI, aopsT, qstep, CPt, qget, Tbl.get, astep, ev, setd, List.set, List.getD, List.getElem?_cons_zero, List.getElem?_cons_succ, List.getElem?_nil, List.cons_append, List.nil_append, List.length_cons, List.length_nil, List.replicate, then_normal, inBlock_normal, Option.getD_some, Option.getD_none, Bool.or_false, Bool.or_true, Bool.true_or, Bool.false_or, Bool.false_eq_true, if_false, if_true, up_zero, Nat.reduceAdd, Nat.reduceSub, binv, ↓opt_def, AV.isAny, AV.cells, ldc, List.map_cons, List.map_nil, St.set_next, St.set_same, St.up_next, Int.natCast_nonneg, lt_len, le_len, Int.toNat_natCast, true_and, and_true, eq_self, reduceCtorEq, decide_true, List.length_singleton, er_int, er_bool, er_str, up_zero]
    refine h3 _ _ ?_
    try clear h3 K_h3
    cases hr : risB l[i] with
    | false =>
      have hall : l.all risB = false := all_ff hil hr
      refine T.seq_k (fun K_h0 h0 => ?_)
      refine T.regi hm ?_
      simp only [↓reduceIte, namesOf, List.any, I.names, aopsI, astep, ev, setd, List.set, List.getD, List.getElem?_cons_zero, List.getElem?_cons_succ, List.cons_append, List.nil_append, List.replicate, then_normal, Option.getD_some, Bool.or_false, Bool.false_eq_true, up_zero]
      refine h0 _ _ ?_
      try clear h0 K_h0
      refine T.cond rfl (fun _ => ?_) (fun h => by cases h)
      obtain ⟨-, rfl, rfl⟩ : l.all risB = false ∧ xv = .sl [] .nil ∧ er0 = .iface tCode (.int .i64 1) := by
        rcases hcase with h | ⟨h, _⟩ | ⟨h, _⟩
        · exact h
        · rw [hall] at h; cases h
        · rw [hall] at h; cases h
      refine T.seq_k (fun K_h0 h0 => ?_)
      refine T.regi hm ?_
      simp only [↓reduceIte, namesOf, List.any, I.names, aopsI, astep, ev, setd, List.set, List.getD, List.getElem?_cons_zero, List.getElem?_cons_succ, List.cons_append, List.nil_append, List.length_nil, List.replicate, then_normal, Option.getD_some, Bool.or_false, Bool.false_eq_true, up_zero, binv, ↓opt_def, eq_self, ei_11, Bool.bne_false, List.length_nil, Int.natCast_zero, beq_self_eq_true]
      refine h0 _ _ ?_
      try clear h0 K_h0
      exact T.ret (Fin.ret rfl ⟨rfl, rfl⟩)
    | true =>
      refine T.seq_k (fun K_h0 h0 => ?_)
      refine T.regi hm ?_
      simp only [↓reduceIte, namesOf, List.any, I.names, aopsI, astep, ev, setd, List.set, List.getD, List.getElem?_cons_zero, List.getElem?_cons_succ, List.cons_append, List.nil_append, List.replicate, then_normal, Option.getD_some, Bool.or_false, Bool.false_eq_true, up_zero]
      refine h0 _ _ ?_
      try clear h0 K_h0
      refine T.cond rfl (fun h => by cases h) (fun _ => T.skip ?_)
      try simp only [List.cons_append, List.nil_append, List.replicate, then_normal, inBlock_normal, inBlock_normal]
      refine h2 _ _ ?_
      try clear h2 K_h2
      refine T.regi hm ?_
      simp only [↓reduceIte, namesOf, List.any, I.names, aopsI, astep, ev, setd, List.set, List.getD, List.getElem?_cons_zero, List.getElem?_cons_succ, List.cons_append, List.nil_append, List.replicate, then_normal, Option.getD_some, Bool.or_false, Bool.false_eq_true, up_zero, binv, ↓opt_def, eq_self, hw]
      exact ⟨hil, _, _, Gh.keep [0, 3, 5, 6, 7], rfl, take_all hil hpre hr, rfl⟩
  refine T.cond (b := false) (by simp [ev]; omega) (fun h => by cases h) (fun _ => T.exit ?_)
  have hie : i = l.length := by omega
  subst hie
  rw [List.take_length] at hpre
  have hc : Canon l := fun r hr => List.all_eq_true.1 hpre r hr
  have hgr := group_ris hc
  try simp only [List.cons_append, List.nil_append, List.replicate, then_normal, inBlock_exit, then_exit]
  refine h1 _ _ ?_
  try clear h1 K_h1
  refine T.seq_k (fun K_h1 h1 => ?_)
  refine T.regi hm ?_
  simp only [↓reduceIte, namesOf, List.any, I.names, aopsI, astep, ev, setd, List.set, List.getD, List.getElem?_cons_zero, List.getElem?_cons_succ, then_normal, Option.getD_some, Bool.or_false, Bool.false_eq_true, up_zero, List.map_cons, List.map_nil]
  refine (spans10_ok (l := l) (by omega) (fun r hr => by have := (hS.row r hr).1; omega) (by omega)).mono ?_
  rintro v t2 ⟨rfl, rfl⟩
  try simp only [↓reduceIte, namesOf, List.any, I.names, aops, aopsI, aopsT, qstep, CPt, qget, Tbl.get, astep, ev, setd, List.set, List.getD, List.getElem?_cons_zero, List.getElem?_cons_succ, List.getElem?_nil, List.cons_append, List.nil_append, List.length_cons, List.length_nil, List.replicate, then_normal, inBlock_normal, Option.getD_some, Option.getD_none, Bool.or_false, Bool.or_true, Bool.true_or, Bool.false_or, Bool.false_eq_true, if_false, if_true, up_zero, Nat.reduceAdd, Nat.reduceSub, binv, ↓opt_def, AV.isAny, AV.cells, ldc, List.map_cons, List.map_nil, St.set_next, St.set_same, St.up_next, Int.natCast_nonneg, lt_len, le_len, Int.toNat_natCast, true_and, and_true, eq_self, reduceCtorEq, decide_true, List.length_singleton, er_int, er_bool, er_str, up_zero]
  refine (rgroup_ok (l := spansP l) (by omega)).mono ?_
  rintro v t3 ⟨rfl, rfl⟩
  have hGl : (groupL (spansP l)).length ≤ 800 := Nat.le_trans (groupN_len _ _) hsum.2
  have hGs : ∀ t ∈ groupL (spansP l), t.sp.length ≤ 800 := fun t ht => by
    rw [(group_is _).sp t ht]
    have := gatherOf_len t.id (spansP l)
    omega
  generalize groupL (spansP l) = G at hcase hgr hGl hGs ⊢
  try simp only [↓reduceIte, namesOf, List.any, I.names, aops, aopsI, aopsT, qstep, CPt, qget, Tbl.get, astep, ev, setd, List.set, List.getD, List.getElem?_cons_zero, List.getElem?_cons_succ, List.getElem?_nil, List.cons_append, List.nil_append, List.length_cons, List.length_nil, List.replicate, then_normal, inBlock_normal, Option.getD_some, Option.getD_none, Bool.or_false, Bool.or_true, Bool.true_or, Bool.false_or, Bool.false_eq_true, if_false, if_true, up_zero, Nat.reduceAdd, Nat.reduceSub, binv, ↓opt_def, AV.isAny, AV.cells, ldc, List.map_cons, List.map_nil, St.set_next, St.set_same, St.up_next, Int.natCast_nonneg, lt_len, le_len, Int.toNat_natCast, true_and, and_true, eq_self, reduceCtorEq, decide_true, List.length_singleton, er_int, er_bool, er_str, up_zero]
  refine h1 _ _ ?_
  try clear h1 K_h1
  refine T.seq_k (fun K_h1 h1 => ?_)
  refine T.seq_k (fun K_h0 h0 => ?_)
  refine T.regi hm ?_
  simp only [↓reduceIte, namesOf, List.any, I.names, aopsI, astep, ev, setd, List.set, then_normal, Bool.or_false, Bool.false_eq_true, up_zero]
  refine h0 _ _ ?_
  try clear h0 K_h0
  refine T.block ?_
  refine T.gh (Gh.keep [3, 5, 6, 9, 10]) ?_
  refine T.loopi (fun i ρ t => t = t3 ∧ (G.take i).all (fun t => decide (t.sp.length ≤ 100)) = true ∧ ρ = [.any, .any, .any, .bool true, .any, xv, er0, .any, .any, .sl (tcsAV G) .none, .int .i64 (i : Int)] ++ List.replicate 72 .any)
    G.length 0 (Nat.zero_le _) ⟨rfl, rfl, rfl⟩ ?_
  rintro i ρ t hi ⟨rfl, hpre2, rfl⟩
  refine T.seq_k (fun K_h2 h2 => ?_)
  refine T.seq_k (fun K_h0 h0 => ?_)
  refine T.regi hm ?_
  simp only [↓reduceIte, namesOf, List.any, I.names, aopsI, astep, ev, setd, List.set, List.getD, List.getElem?_cons_zero, List.getElem?_cons_succ, List.cons_append, List.nil_append, List.replicate, then_normal, Option.getD_some, Bool.or_false, Bool.false_eq_true, up_zero, binv, ↓opt_def, lt_len, eq_self, tcs_len]
  refine h0 _ _ ?_
  try clear h0 K_h0
  by_cases hil : i < G.length
  · refine T.cond (b := true) (by simp [ev]; omega) (fun _ => T.skip ?_) (fun h => by cases h)
    refine h2 _ _ ?_
    try clear h2 K_h2
    have hw := inc64' hil (by omega)
    have hg := tcs_get hil
    rw [tcav'] at hg
    refine T.seq_k (fun K_h2 h2 => ?_)
    refine T.block ?_
    by_cases hsp : G[i].sp.length ≤ 100
    · have e1 : decide ((G[i].sp.length : Int) > 100) = false := decide_eq_false (by omega)
      refine T.seq_k (fun K_h0 h0 => ?_)
      refine T.regi hm ?_
      simp only [↓reduceIte, namesOf, List.any, I.names, aopsI, astep, ev, setd, List.set, List.getD, List.getElem?_cons_zero, List.getElem?_cons_succ, List.cons_append, List.nil_append, List.length_cons, List.length_nil, List.replicate, then_normal, Option.getD_some, Bool.or_false, Bool.false_eq_true, up_zero, Nat.reduceAdd, binv, ↓opt_def, AV.cells, ldc, Int.natCast_nonneg, lt_len, Int.toNat_natCast, true_and, and_true, eq_self, decide_true, hil, tcs_len, sps_len, hg, Nat.zero_add, List.drop, e1]
      refine h0 _ _ ?_
      try clear h0 K_h0
      refine T.cond rfl (fun h => by cases h) (fun _ => T.skip ?_)
      try simp only [List.cons_append, List.nil_append, List.replicate, then_normal, inBlock_normal, inBlock_normal]
      refine h2 _ _ ?_
      try clear h2 K_h2
      refine T.regi hm ?_
      simp only [↓reduceIte, namesOf, List.any, I.names, aopsI, astep, ev, setd, List.set, List.getD, List.getElem?_cons_zero, List.getElem?_cons_succ, List.cons_append, List.nil_append, List.replicate, then_normal, Option.getD_some, Bool.or_false, Bool.false_eq_true, up_zero, binv, ↓opt_def, eq_self, hw]
      exact ⟨hil, _, _, Gh.keep [3, 5, 6, 9, 10], rfl, take_all hil hpre2 (decide_eq_true hsp), rfl⟩
    · have e1 : decide ((G[i].sp.length : Int) > 100) = true := decide_eq_true (by omega)
      have hall : (G.all fun t => decide (t.sp.length ≤ 100)) = false := all_ff hil (decide_eq_false hsp)
      refine T.seq_k (fun K_h0 h0 => ?_)
      refine T.regi hm ?_
      simp only [↓reduceIte, namesOf, List.any, I.names, aopsI, astep, ev, setd, List.set, List.getD, List.getElem?_cons_zero, List.getElem?_cons_succ, List.cons_append, List.nil_append, List.length_cons, List.length_nil, List.replicate, then_normal, Option.getD_some, Bool.or_false, Bool.false_eq_true, up_zero, Nat.reduceAdd, binv, ↓opt_def, AV.cells, ldc, Int.natCast_nonneg, lt_len, Int.toNat_natCast, true_and, and_true, eq_self, decide_true, hil, tcs_len, sps_len, hg, Nat.zero_add, List.drop, e1]
      refine h0 _ _ ?_
      try clear h0 K_h0
      refine T.cond rfl (fun _ => ?_) (fun h => by cases h)
      obtain ⟨rfl, rfl⟩ : xv = .sl [] .nil ∧ er0 = .iface tCode (.int .i64 3) := by
        rcases hcase with ⟨h, _⟩ | ⟨_, _, h⟩ | ⟨_, h, _⟩
        · rw [hpre] at h; cases h
        · exact h
        · rw [hgr, hall] at h; cases h
      refine T.seq_k (fun K_h0 h0 => ?_)
      refine T.regi hm ?_
      simp only [↓reduceIte, namesOf, List.any, I.names, aopsI, astep, ev, setd, List.set, List.getD, List.getElem?_cons_zero, List.getElem?_cons_succ, List.cons_append, List.nil_append, List.length_nil, List.replicate, then_normal, Option.getD_some, Bool.or_false, Bool.false_eq_true, up_zero, binv, ↓opt_def, eq_self, ei_33, Bool.bne_false, List.length_nil, Int.natCast_zero, beq_self_eq_true]
      refine h0 _ _ ?_
      try clear h0 K_h0
      exact T.ret (Fin.ret rfl ⟨rfl, rfl⟩)
  · refine T.cond (b := false) (by simp [ev]; omega) (fun h => by cases h) (fun _ => T.exit ?_)
    have hie : i = G.length := by omega
    subst hie
    rw [List.take_length] at hpre2
    obtain ⟨rfl, rfl⟩ : xv = .sl (tcsAV G) .none ∧ er0 = .nili := by
      rcases hcase with ⟨h, _⟩ | ⟨_, h, _⟩ | ⟨_, _, h⟩
      · rw [hpre] at h; cases h
      · rw [hgr, hpre2] at h; cases h
      · exact h
    try simp only [List.cons_append, List.nil_append, List.replicate, then_normal, inBlock_exit, then_exit]
    refine h1 _ _ ?_
    try clear h1 K_h1
    refine T.seq_k (fun K_h1 h1 => ?_)
    refine T.regt hm (tbl := []) Tbl.ok_nil ?_
    refine aopsT_cut 8 (fun K_c h_c => ?_)
    try simp only [↓reduceIte, namesOf, List.any, I.names, aopsT, qstep, astep, ev, setd, List.set, List.getD, List.getElem?_cons_zero, List.getElem?_cons_succ, Option.getD_some, Bool.or_false, Bool.false_eq_true, up_zero, eq_self, List.take_succ_cons, List.take_zero, ei_nn, Bool.bne_false]
    refine h_c _ _ ?_
    clear h_c K_c
    simp only [List.drop_succ_cons, List.drop_zero, Nat.zero_add]
    refine aopsT_cut 1 (fun K_c h_c => ?_)
    try simp only [↓reduceIte, aopsT, qstep, CPt, Tbl.get, astep, ev, setd, List.set, List.getD, List.getElem?_cons_zero, List.getElem?_cons_succ, Option.getD_some, List.map_cons, List.map_nil, eq_self, List.take_succ_cons, List.take_zero]
    refine (rtraces_ok (a := G) (b := G) (by omega) (fun t ht => by have := hGs t ht; omega)).mono ?_
    rintro _ _ ⟨rfl, rfl⟩
    refine h_c _ _ ?_
    clear h_c K_c
    simp only [List.drop_succ_cons, List.drop_zero, Nat.reduceAdd]
    try simp only [↓reduceIte, aopsT, qstep, astep, ev, setd, List.set, List.getD, List.getElem?_cons_zero, List.getElem?_cons_succ, then_normal, Option.getD_some, eq_self, decide_true, decide_true]
    refine h1 _ _ ?_
    try clear h1 K_h1
    exact T.ret (Fin.ret rfl ⟨rfl, rfl⟩)

end Go.VL

namespace Go.VL

open Go.Proofs

theorem bytes_of {P : Program} {n : Nat} {e : TypeId} (hu : P.underlying e = some (.int .u8)) : ∀ {ys : List AV}, (∀ y ∈ ys, HasE P (n + 1) e y) → ∃ l : List UInt8, ys = bytesAV l
  | [], _ => ⟨[], rfl⟩
  | y :: r, h => by
    obtain ⟨m, rfl, h1, h2⟩ := has_int hu (h y (by simp))
    obtain ⟨l, rfl⟩ := bytes_of hu (fun z hz => h z (List.mem_cons_of_mem _ hz))
    have h1' : 0 ≤ m := h1
    have h2' : m ≤ 255 := h2
    refine ⟨UInt8.ofNat m.toNat :: l, ?_⟩
    have : ((UInt8.ofNat m.toNat).toNat : Int) = m := by
      rw [UInt8.toNat_ofNat']; omega
    simp only [bytesAV, List.map_cons, this]

def fts (P : Program) (t : TypeId) : Option (List TypeId) := match P.underlying t with
  | some (.struct fs) => some (fs.toList.map (·.type))
  | _ => none

def HasTs (P : Program) (n : Nat) : List TypeId → List AV → Prop
  | [], xs => xs = []
  | t :: r, xs => ∃ ys zs, xs = ys ++ zs ∧ HasT P n t ys ∧ HasTs P n r zs

theorem hasTs_of {P : Program} {n : Nat} : ∀ {fs : List Field} {xs : List AV}, HasF P n fs xs → HasTs P n (fs.map (·.type)) xs
  | [], xs, h => by rw [hasF_nil] at h; exact h
  | f :: r, xs, h => by
    rw [hasF_cons] at h
    obtain ⟨ys, zs, e, h1, h2⟩ := h
    exact ⟨ys, zs, e, h1, hasTs_of h2⟩

theorem has_fields {P : Program} {n : Nat} {t : TypeId} {ts : List TypeId} {y : AV} (hf : fts P t = some ts) (h : HasE P (n + 1) t y) : ∃ zs, y = .agg zs ∧ HasTs P n ts zs := by
  unfold fts at hf
  split at hf
  · rename_i fs hu
    simp only [Option.some.injEq] at hf; subst hf
    rw [hasE_iff] at h
    obtain ⟨h1, h2, _⟩ := h
    obtain ⟨zs, rfl⟩ := h2 (by unfold isStruct; rw [hu])
    rw [hasT_succ, hu] at h1
    exact ⟨zs, rfl, hasTs_of h1⟩
  · cases hf

theorem hasT_int {P : Program} {n : Nat} {t : TypeId} {k : IntKind} {xs : List AV} (hu : P.underlying t = some (.int k)) (h : HasT P (n + 1) t xs) : ∃ m, xs = [.int k m] ∧ k.min ≤ m ∧ m ≤ k.max := by
  rw [hasT_succ, hu] at h; exact h

theorem hasT_slice {P : Program} {n : Nat} {t e : TypeId} {xs : List AV} (hu : P.underlying t = some (.slice e)) (h : HasT P (n + 1) t xs) : ∃ ys, xs = [.sl ys .none] ∧ ys.length ≤ maxLen ∧ ∀ y ∈ ys, HasE P n e y := by
  rw [hasT_succ, hu] at h; exact h

theorem maxLen_eq : maxLen = 9223372036854775807 := by decide

theorem u64_nat {m : Int} (h1 : IntKind.u64.min ≤ m) (h2 : m ≤ IntKind.u64.max) : ∃ n : Nat, m = (n : Int) ∧ n < 18446744073709551616 := by
  have h1' : 0 ≤ m := h1
  have h2' : m ≤ 18446744073709551615 := h2
  exact ⟨m.toNat, by omega, by omega⟩

end Go.VL

namespace Go.Proofs.Ytmbbeldgfhnkbaa

open Go.RowKit Go.VL

theorem own : ownKnob Try.prog.godebug = none := by kernel_rfl

theorem laidOut : laidOutB Try.prog = true := by kernel_rfl

end Go.Proofs.Ytmbbeldgfhnkbaa

namespace Go.VL

open Go.Proofs

/-- a span whose numbers fit -/
def Sp.ok (s : Sp) : Prop := s.tr < 18446744073709551616 ∧ s.id < 18446744073709551616 ∧ (-9223372036854775808 ≤ s.st ∧ s.st ≤ 9223372036854775807) ∧ (-9223372036854775808 ≤ s.en ∧ s.en ≤ 9223372036854775807) ∧ s.da.length ≤ 9223372036854775807

def Tc.ok (t : Tc) : Prop := t.id < 18446744073709551616 ∧ t.sp.length ≤ 9223372036854775807 ∧ ∀ s ∈ t.sp, s.ok

/-- the numbers of the types of spans and traces -/
structure Types (P : Program) where
  u64 : TypeId
  i64 : TypeId
  bs : TypeId
  u8 : TypeId
  span : TypeId
  spans : TypeId
  trace : TypeId
  traces : TypeId
  h1 : P.underlying u64 = some (.int .u64)
  h2 : P.underlying i64 = some (.int .i64)
  h3 : P.underlying bs = some (.slice u8)
  h4 : P.underlying u8 = some (.int .u8)
  h5 : fts P span = some [u64, u64, i64, i64, bs]
  h6 : P.underlying spans = some (.slice span)
  h7 : fts P trace = some [u64, spans]
  h8 : P.underlying traces = some (.slice trace)

theorem span_of {P : Program} (T : Types P) {n : Nat} {y : AV} (h : HasE P (n + 3) T.span y) : ∃ s : Sp, y = s.av ∧ s.ok := by
  obtain ⟨zs, hy, hf⟩ := has_fields T.h5 h
  clear h
  subst hy
  have h := hf
  clear hf
  obtain ⟨y1, z1, rfl, k1, h⟩ := h
  obtain ⟨y2, z2, rfl, k2, h⟩ := h
  obtain ⟨y3, z3, rfl, k3, h⟩ := h
  obtain ⟨y4, z4, rfl, k4, h⟩ := h
  obtain ⟨y5, z5, rfl, k5, h⟩ := h
  have hz : z5 = [] := h
  subst hz
  obtain ⟨m1, rfl, a1, b1⟩ := hasT_int T.h1 k1
  obtain ⟨m2, rfl, a2, b2⟩ := hasT_int T.h1 k2
  obtain ⟨m3, rfl, a3, b3⟩ := hasT_int T.h2 k3
  obtain ⟨m4, rfl, a4, b4⟩ := hasT_int T.h2 k4
  obtain ⟨ys, rfl, hl, k5⟩ := hasT_slice T.h3 k5
  obtain ⟨da, rfl⟩ := bytes_of T.h4 k5
  obtain ⟨n1, rfl, c1⟩ := u64_nat a1 b1
  obtain ⟨n2, rfl, c2⟩ := u64_nat a2 b2
  rw [maxLen_eq, bytesAV_len] at hl
  exact ⟨⟨n1, n2, m3, m4, da⟩, rfl, c1, c2, ⟨a3, b3⟩, ⟨a4, b4⟩, hl⟩

theorem spans_of {P : Program} (T : Types P) {n : Nat} : ∀ {ys : List AV}, (∀ y ∈ ys, HasE P (n + 3) T.span y) → ∃ l : List Sp, ys = spsAV l ∧ ∀ s ∈ l, s.ok
  | [], _ => ⟨[], rfl, fun _ h => by cases h⟩
  | y :: r, h => by
    obtain ⟨s, rfl, hs⟩ := span_of T (h y (by simp))
    obtain ⟨l, rfl, hl⟩ := spans_of T (fun z hz => h z (List.mem_cons_of_mem _ hz))
    exact ⟨s :: l, rfl, fun x hx => by rcases List.mem_cons.1 hx with rfl | hx; exact hs; exact hl x hx⟩

theorem trace_of {P : Program} (T : Types P) {n : Nat} {y : AV} (h : HasE P (n + 5) T.trace y) : ∃ t : Tc, y = t.av ∧ t.ok := by
  obtain ⟨zs, hy, hf⟩ := has_fields T.h7 h
  clear h
  subst hy
  have h := hf
  clear hf
  obtain ⟨y1, z1, rfl, k1, h⟩ := h
  obtain ⟨y2, z2, rfl, k2, h⟩ := h
  have hz : z2 = [] := h
  subst hz
  obtain ⟨m1, rfl, a1, b1⟩ := hasT_int T.h1 k1
  obtain ⟨ys, rfl, hl, k2⟩ := hasT_slice T.h6 k2
  obtain ⟨l, rfl, hs⟩ := spans_of T k2
  obtain ⟨n1, rfl, c1⟩ := u64_nat a1 b1
  rw [maxLen_eq, sps_len] at hl
  exact ⟨⟨n1, l⟩, rfl, c1, hl, hs⟩

theorem traces_of {P : Program} (T : Types P) {n : Nat} : ∀ {ys : List AV}, (∀ y ∈ ys, HasE P (n + 5) T.trace y) → ∃ l : List Tc, ys = tcsAV l ∧ ∀ t ∈ l, t.ok
  | [], _ => ⟨[], rfl, fun _ h => by cases h⟩
  | y :: r, h => by
    obtain ⟨s, rfl, hs⟩ := trace_of T (h y (by simp))
    obtain ⟨l, rfl, hl⟩ := traces_of T (fun z hz => h z (List.mem_cons_of_mem _ hz))
    exact ⟨s :: l, rfl, fun x hx => by rcases List.mem_cons.1 hx with rfl | hx; exact hs; exact hl x hx⟩

theorem pages_of {P : Program} (T : Types P) {n : Nat} : ∀ {ys : List AV}, (∀ y ∈ ys, HasE P (n + 6) T.traces y) → ∃ l : List (List Tc), ys = pgsAV l ∧ ∀ p ∈ l, p.length ≤ 9223372036854775807 ∧ ∀ t ∈ p, t.ok
  | [], _ => ⟨[], rfl, fun _ h => by cases h⟩
  | y :: r, h => by
    obtain ⟨zs, rfl, hl, hz⟩ := has_slice T.h8 (h y (by simp))
    obtain ⟨p, rfl, hp⟩ := traces_of T hz
    obtain ⟨l, rfl, hh⟩ := pages_of T (fun z hz => h z (List.mem_cons_of_mem _ hz))
    rw [maxLen_eq, tcs_len] at hl
    exact ⟨p :: l, rfl, fun x hx => by rcases List.mem_cons.1 hx with rfl | hx; exact ⟨hl, hp⟩; exact hh x hx⟩

end Go.VL

namespace Go.VL

open Go.Proofs

set_option maxRecDepth 100000 in
def tys : Types Try.prog := ⟨51, 2, 34, 5, 53, 47, 95, 22, by kernel_rfl, by kernel_rfl, by kernel_rfl, by kernel_rfl, by kernel_rfl, by kernel_rfl, by kernel_rfl, by kernel_rfl⟩

end Go.VL

namespace Go.VL

open Go.Proofs

theorem pages_ty : Try.prog.underlying 25 = some (.slice 22) := by kernel_rfl

end Go.VL

namespace Go.Proofs.Ytmbbeldgfhnkbaa

open Go.ChangeShapes Go.WideShapes Go.ChangeAt Go.RowKit Go.VL

set_option maxRecDepth 100000 in
theorem kwayMerges_lifted (os : Os) (started : os.Started) (H : Type) (enc : TypeId × Value → H) :
    ReturnsInHanded {} Try.checked os n_kwayMerges .any (Rows.kwayMergesSpec.pre6 enc Try.prog Try.f9 Rows.kwayMergesRow.domain false) (Rows.kwayMergesSpec.post enc Try.prog Try.f9 false true false false) := by
  refine returnsInHanded_of_change (C := Try.checked) own started (by kernel_rfl) Try.func9
    (ChangeSpec.witness6 (enc := enc) (C := Try.checked) false ⟨#[], #[.slice none 0 0], []⟩ 8 (by kernel_rfl) (by kernel_rfl) (by kernel_rfl) (by kernel_rfl)) ?_
  intro W base args ds gs before hval0 hW _ _
  refine law_calls 7 (tb := 4) laidOut (by kernel_rfl) rfl (by kernel_rfl) (by kernel_rfl) (fun ds hds => ?_) (fun xs hxs => ?_) hval0 hW
  · match ds, hds with
    | [_d1], _ => rfl
  · have hxs' : HasAll Try.prog 7 [_] xs := hxs
    cases hxs' with
    | cons h1 r1 =>
    cases r1
    obtain ⟨ys, rfl, hlen, h1⟩ := has_slice pages_ty h1
    obtain ⟨l, rfl, hl⟩ := pages_of tys h1
    rw [maxLen_eq, pgs_len] at hlen
    exact (kwayMerges_ok hlen (fun p hp => ⟨(hl p hp).1, fun t ht => ((hl p hp).2 t ht).2.1⟩)).mono fun v _ ⟨e, _⟩ => e

theorem kwayMerges_holds : Rows.KwayMergesSaid :=
  OpenClaim.holds_of_wide n_kwayMerges Try.f9 rfl rfl rfl rfl rfl rfl rfl ⟨rfl, rfl, rfl, rfl, rfl⟩ rfl rfl rfl rfl rfl (by kernel_rfl) Try.func9 (by kernel_rfl)
    (of_decide_eq_true (by kernel_rfl)) (by unfold Func.isWrapper; first | (rw [if_pos (by decide +kernel)]; kernel_rfl) | (rw [if_neg (by decide +kernel)]; exact ⟨rfl, rfl⟩))
    (fun os started H enc _ => kwayMerges_lifted os started H enc)

end Go.Proofs.Ytmbbeldgfhnkbaa
