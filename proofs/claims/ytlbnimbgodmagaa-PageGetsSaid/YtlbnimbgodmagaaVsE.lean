/- Contracts: the document's canonical traces; its index. -/
import Derived.Test.YtlbnimbgodmagaaVsD
namespace Go.VL
open Go.Proofs

open Classical in
noncomputable def gGather (args : List AV) : Option AV := if h : ∃ l : List Sp, args = [.sl (spsAV l) .none] ∧ l.length ≤ 1000000 then some (.sl (spsAV (gatherL h.choose)) .none) else none
theorem gGather_eq {l : List Sp} (hl : l.length ≤ 1000000) : gGather [.sl (spsAV l) .none] = some (.sl (spsAV (gatherL l)) .none) := by
  unfold gGather
  have hex : ∃ l' : List Sp, [AV.sl (spsAV l) .none] = [.sl (spsAV l') .none] ∧ l'.length ≤ 1000000 := ⟨l, rfl, hl⟩
  rw [dif_pos hex]
  have key : ∀ c : List Sp, [AV.sl (spsAV l) .none] = [.sl (spsAV c) .none] → c = l := fun c h => by
    simp only [List.cons.injEq, and_true, AV.sl.injEq] at h
    exact (spsAV_inj h).symm
  rw [key _ hex.choose_spec.1]
theorem gather_pure : PureC Try.prog n_rgather gGather := by
  intro args σ v hv
  unfold gGather at hv
  split at hv
  · rename_i hex
    simp only [Option.some.injEq] at hv; subst hv
    have hc := hex.choose_spec
    generalize hex.choose = c at hc
    obtain ⟨rfl, hl⟩ := hc
    exact rgather_ok hl
  · cases hv
open Classical in
noncomputable def gSpans (args : List AV) : Option AV := if h : ∃ p : List Sp × List Sp, args = [.sl (spsAV p.1) .none, .sl (spsAV p.2) .none] ∧ p.1.length ≤ 1000000 then some (.bool (decide (h.choose.1 = h.choose.2))) else none
theorem gSpans_eq {a b : List Sp} (hl : a.length ≤ 1000000) : gSpans [.sl (spsAV a) .none, .sl (spsAV b) .none] = some (.bool (decide (a = b))) := by
  unfold gSpans
  have hex : ∃ p : List Sp × List Sp, [AV.sl (spsAV a) .none, .sl (spsAV b) .none] = [.sl (spsAV p.1) .none, .sl (spsAV p.2) .none] ∧ p.1.length ≤ 1000000 := ⟨(a, b), rfl, hl⟩
  rw [dif_pos hex]
  have key : ∀ p : List Sp × List Sp, [AV.sl (spsAV a) .none, .sl (spsAV b) .none] = [.sl (spsAV p.1) .none, .sl (spsAV p.2) .none] → p = (a, b) := fun p h => by
    simp only [List.cons.injEq, and_true, AV.sl.injEq] at h
    obtain ⟨p1, p2⟩ := p
    simp only at h
    rw [spsAV_inj h.1, spsAV_inj h.2]
  rw [key _ hex.choose_spec.1]
theorem spans_pure : PureC Try.prog n_rspans gSpans := by
  intro args σ v hv
  unfold gSpans at hv
  split at hv
  · rename_i hex
    simp only [Option.some.injEq] at hv; subst hv
    have hc := hex.choose_spec
    generalize hex.choose = c at hc
    obtain ⟨rfl, hl⟩ := hc
    exact rspans_ok (by omega)
  · cases hv
noncomputable def tI : Tbl := [(n_rgather, gGather), (n_rspans, gSpans)]
theorem tI_ok : tI.ok Try.prog := Tbl.ok_cons gather_pure (Tbl.ok_cons spans_pure Tbl.ok_nil)

def risAt (l : List Tc) (i : Nat) : Bool := match l[i]? with
  | some t => decide (1 ≤ t.sp.length) && decide (t.sp.length ≤ 100) && (i == 0 || (match l[i - 1]? with | some p => decide (p.id < t.id) | none => false)) &&
      t.sp.all (fun s => mayS s && decide (s.tr = t.id)) && decide (gatherL t.sp = t.sp)
  | none => false
def risB (l : List Tc) : Bool := (List.range l.length).all (risAt l)
theorem ris_false {l : List Tc} {i : Nat} (hi : i < l.length) (h : risAt l i = false) : risB l = false := by
  unfold risB
  rw [Bool.eq_false_iff]
  intro hh
  have := List.all_eq_true.1 hh i (by simpa using hi)
  rw [h] at this; cases this

set_option maxRecDepth 10000 in
set_option maxHeartbeats 4000000 in
theorem ris_ok {l : List Tc} {g : Ver} {σ : St} (hl : l.length ≤ 9223372036854775807) (hs : ∀ t ∈ l, t.sp.length ≤ 9223372036854775807) : ACalls Try.prog n_ris [.sl (tcsAV l) g] σ (fun v σ' => v = .bool (risB l) ∧ σ' = σ) := by
  refine s_ris (fun wf => ?_)
  unfold c_ris
  refine T.seq_k (fun K_h1 h1 => ?_)
  refine T.regi hm ?_
  simp only [↓reduceIte, namesOf, List.any, I.names, aopsI, astep, ev, setd, List.set, List.cons_append, List.nil_append, List.length_cons, List.length_nil, List.replicate, then_normal, Bool.or_false, Bool.false_eq_true, up_zero, Nat.reduceAdd, Nat.reduceSub]
  refine h1 _ _ ?_
  try clear h1 K_h1
  refine T.seq_k (fun K_h1 h1 => ?_)
  refine T.seq_k (fun K_h2 h2 => ?_)
  refine T.regi hm ?_
  simp only [↓reduceIte, namesOf, List.any, I.names, aopsI, astep, ev, setd, List.set, then_normal, Bool.or_false, Bool.false_eq_true, up_zero]
  refine h2 _ _ ?_
  try clear h2 K_h2
  refine T.block ?_
  refine T.gh (Gh.keep [0, 3]) ?_
  refine T.loopi (fun i ρ σ' => σ.next ≤ σ'.next ∧ (∀ n x, σ.res n = some x → σ'.res n = some x) ∧ (List.range i).all (risAt l) = true ∧ ρ = [.sl (tcsAV l) g, .any, .any, .int .i64 (i : Int)] ++ List.replicate 73 .any)
    l.length 0 (Nat.zero_le _) ⟨Nat.le_refl _, fun _ _ h => h, rfl, rfl⟩ ?_
  rintro i ρ σ' hi ⟨hn, ho, hpre, rfl⟩
  refine T.seq_k (fun K_h2 h2 => ?_)
  refine T.seq_k (fun K_h3 h3 => ?_)
  refine T.regi hm ?_
  simp only [↓reduceIte, namesOf, List.any, I.names, aopsI, astep, ev, setd, List.set, List.getD, List.getElem?_cons_zero, List.getElem?_cons_succ, List.cons_append, List.nil_append, List.replicate, then_normal, Option.getD_some, Bool.or_false, Bool.false_eq_true, up_zero, binv, ↓opt_def, lt_len, eq_self, tcs_len]
  refine h3 _ _ ?_
  try clear h3 K_h3
  refine T.cond rfl (fun hb => ?_) (fun hb => ?_)
  · refine T.skip ?_
    refine h2 _ _ ?_
    try clear h2 K_h2
    have hil : i < l.length := by simpa using hb
    clear hb
    have hw := inc64 hil hl
    generalize ht : l[i] = t
    have hti : l[i]? = some t := by rw [← ht]; simp [hil]
    have htl : t.sp.length ≤ 9223372036854775807 := by rw [← ht]; exact hs _ (List.getElem_mem hil)
    refine T.seq_k (fun K_h2 h2 => ?_)
    refine T.block ?_
    refine T.seq_k (fun K_h3 h3 => ?_)
    refine T.regi hm ?_
    simp only [↓reduceIte, namesOf, List.any, I.names, aopsI, astep, ev, setd, List.set, List.getD, List.getElem?_cons_zero, List.getElem?_cons_succ, List.cons_append, List.nil_append, List.length_cons, List.length_nil, List.replicate, then_normal, Option.getD_some, Bool.or_false, Bool.or_true, Nat.reduceAdd, ↓opt_def, AV.isAny, AV.cells, ldc, St.set_same, Int.natCast_nonneg, lt_len, Int.toNat_natCast, true_and, and_true, eq_self, decide_true, tcs_len, tcs_get hil, hil, ht, tcav', AV.fits, AV.one, List.all_cons, List.all_nil, Nat.reduceBEq, Bool.not_false, Bool.and_self, Nat.zero_add, splice, List.take, List.drop, Nat.reduceLeDiff, St.set_set]
    have ho2 := set_quiet wf hn ho (k := 6) (.obj [.int .u64 (t.id : Int), .sl (spsAV t.sp) .none]) (a := σ'.next + 4) (by omega)
    have hb5 : ((σ'.up 6).set (σ'.next + 4) (.obj [.int .u64 (t.id : Int), .sl (spsAV t.sp) .none])).res (σ'.next + 4) = some (.obj [.int .u64 (t.id : Int), .sl (spsAV t.sp) .none]) := by simp
    have hn2 : σ.next ≤ ((σ'.up 6).set (σ'.next + 4) (.obj [.int .u64 (t.id : Int), .sl (spsAV t.sp) .none])).next := by simp; omega
    generalize ((σ'.up 6).set (σ'.next + 4) (.obj [.int .u64 (t.id : Int), .sl (spsAV t.sp) .none])) = σ2 at ho2 hb5 hn2 ⊢
    generalize σ'.next + 4 = b at hb5 ⊢
    refine h3 _ _ ?_
    try clear h3 K_h3
    have fin : risAt l i = false → ∀ ρ' : List AV, ρ'.getD 2 .any = .bool false → Fin σ [.t 2] (fun v σ' => v = .bool (risB l) ∧ σ' = σ) .ret ρ' σ2 := by
      intro hf ρ' hρ
      refine Fin.quiet (xs := [ρ'.getD 2 .any]) rfl (by rw [hρ]; trivial) ho2 ⟨?_, rfl⟩
      rw [ris_false hil hf, hρ]; rfl
    refine T.seq_k (fun K_h3 h3 => ?_)
    refine T.seq_k (fun K_h4 h4 => ?_)
    by_cases c1 : 1 ≤ t.sp.length
    case neg =>
      have e1 : decide ((t.sp.length : Int) < 1) = true := decide_eq_true (by omega)
      refine T.regi hm ?_
      simp only [↓reduceIte, namesOf, List.any, I.names, aopsI, astep, ev, setd, List.set, List.getD, List.getElem?_cons_zero, List.getElem?_cons_succ, List.cons_append, List.nil_append, List.replicate, then_normal, Option.getD_some, Bool.or_false, Bool.false_eq_true, up_zero, Nat.reduceAdd, binv, ↓opt_def, ldc, eq_self, reduceCtorEq, hb5, sps_len, e1, reduceCtorEq]
      refine h4 _ _ ?_
      try clear h4 K_h4
      refine T.cond rfl (fun _ => ?_) (fun h => by cases h)
      refine T.seq_k (fun K_h4 h4 => ?_)
      refine T.regi hm ?_
      simp only [↓reduceIte, namesOf, List.any, I.names, aopsI, astep, ev, setd, List.set, List.cons_append, List.nil_append, List.replicate, then_normal, Bool.or_false, Bool.false_eq_true, up_zero]
      refine h4 _ _ ?_
      try clear h4 K_h4
      exact T.ret (fin (by unfold risAt; simp only [hti, decide_eq_false c1, Bool.false_and]) _ rfl)
    have e1 : decide ((t.sp.length : Int) < 1) = false := decide_eq_false (by omega)
    by_cases c2 : t.sp.length ≤ 100
    case neg =>
      have e2 : decide ((t.sp.length : Int) > 100) = true := decide_eq_true (by omega)
      refine T.regi hm ?_
      simp only [↓reduceIte, namesOf, List.any, I.names, aopsI, astep, ev, setd, List.set, List.getD, List.getElem?_cons_zero, List.getElem?_cons_succ, List.cons_append, List.nil_append, List.replicate, then_normal, Option.getD_some, Bool.or_false, Bool.false_eq_true, up_zero, Nat.reduceAdd, binv, ↓opt_def, ldc, eq_self, reduceCtorEq, hb5, sps_len, e1, e2, reduceCtorEq]
      refine h4 _ _ ?_
      try clear h4 K_h4
      refine T.cond rfl (fun _ => ?_) (fun h => by cases h)
      refine T.seq_k (fun K_h4 h4 => ?_)
      refine T.regi hm ?_
      simp only [↓reduceIte, namesOf, List.any, I.names, aopsI, astep, ev, setd, List.set, List.cons_append, List.nil_append, List.replicate, then_normal, Bool.or_false, Bool.false_eq_true, up_zero]
      refine h4 _ _ ?_
      try clear h4 K_h4
      exact T.ret (fin (by unfold risAt; simp only [hti, decide_eq_false c2, Bool.false_and, Bool.and_false]) _ rfl)
    have e2 : decide ((t.sp.length : Int) > 100) = false := decide_eq_false (by omega)
    -- the rest, once the numbers rise
    have rest : (i == 0 || (match l[i - 1]? with | some p => decide (p.id < t.id) | none => false)) = true → ∀ ρ', keep [0, 3, 4] 0 ρ' = [.sl (tcsAV l) g, .any, .any, .int .i64 (i : Int), .ptr b 0] ++ List.replicate 72 .any → ρ'.getD 42 .any = .bool false → K_h4 ρ' σ2 := by
      intro c3 ρ' hρ h42
      refine h4 _ _ ?_
      try clear h4 K_h4
      refine T.cond (b := false) (by simpa [ev] using h42) (fun h => by cases h) (fun _ => T.skip ?_)
      refine h3 _ _ ?_
      try clear h3 K_h3
      refine T.gh (Gh.keep [0, 3, 4]) ?_
      rw [hρ]
      clear hρ h42 ρ'
      refine T.seq_k (fun K_h3 h3 => ?_)
      refine T.seq_k (fun K_h5 h5 => ?_)
      refine T.regi hm ?_
      simp only [↓reduceIte, namesOf, List.any, I.names, aopsI, astep, ev, setd, List.set, List.cons_append, List.nil_append, List.replicate, then_normal, Bool.or_false, Bool.false_eq_true, up_zero]
      refine h5 _ _ ?_
      try clear h5 K_h5
      refine T.block ?_
      refine T.gh (Gh.keep [0, 3, 4, 5]) ?_
      refine T.loopi (fun k ρ s => s = σ2 ∧ (t.sp.take k).all (fun s => mayS s && decide (s.tr = t.id)) = true ∧ ρ = [.sl (tcsAV l) g, .any, .any, .int .i64 (i : Int), .ptr b 0, .int .i64 (k : Int)] ++ List.replicate 71 .any)
        t.sp.length 0 (Nat.zero_le _) ⟨rfl, by simp, rfl⟩ ?_
      rintro k ρ s hk ⟨rfl, hpre2, rfl⟩
      refine T.seq_k (fun K_h5 h5 => ?_)
      refine T.seq_k (fun K_h6 h6 => ?_)
      refine T.regi hm ?_
      simp only [↓reduceIte, namesOf, List.any, I.names, aopsI, astep, ev, setd, List.set, List.getD, List.getElem?_cons_zero, List.getElem?_cons_succ, List.cons_append, List.nil_append, List.replicate, then_normal, Option.getD_some, Bool.or_false, Bool.false_eq_true, up_zero, Nat.reduceAdd, binv, ↓opt_def, ldc, lt_len, eq_self, hb5, sps_len]
      refine h6 _ _ ?_
      try clear h6 K_h6
      refine T.cond rfl (fun hb => ?_) (fun hb => ?_)
      · refine T.skip ?_
        refine h5 _ _ ?_
        try clear h5 K_h5
        have hkl : k < t.sp.length := by simpa using hb
        clear hb
        generalize hx : t.sp[k] = x
        have hw2 := inc64 hkl htl
        have badx : (mayS x && decide (x.tr = t.id)) = false → risAt l i = false := by
          intro h
          unfold risAt
          simp only [hti, all_ff (p := fun s : Sp => mayS s && decide (s.tr = t.id)) hkl (by rw [hx]; exact h), Bool.and_false, Bool.false_and]
        refine T.seq_k (fun K_h5 h5 => ?_)
        refine T.block ?_
        refine T.seq_k (fun K_h6 h6 => ?_)
        refine T.regi hm ?_
        simp only [↓reduceIte, namesOf, List.any, I.names, aopsI, astep, ev, setd, List.set, List.getD, List.getElem?_cons_zero, List.getElem?_cons_succ, List.cons_append, List.nil_append, List.length_cons, List.length_nil, List.replicate, then_normal, Option.getD_some, Bool.or_false, Bool.false_eq_true, up_zero, Nat.reduceAdd, ↓opt_def, AV.cells, ldc, List.map_cons, List.map_nil, Int.natCast_nonneg, lt_len, Int.toNat_natCast, true_and, and_true, eq_self, decide_true, hb5, sps_len, sps_get hkl, hkl, hx, spav, Nat.zero_add, List.take, List.drop, Nat.reduceLeDiff]
        refine rmay_ok.mono ?_
        rintro v s2 ⟨rfl, rfl⟩
        try simp only [↓reduceIte, namesOf, List.any, I.names, aops, aopsI, aopsT, qstep, CPt, qget, Tbl.get, astep, ev, setd, List.set, List.getD, List.getElem?_cons_zero, List.getElem?_cons_succ, List.getElem?_nil, List.cons_append, List.nil_append, List.length_cons, List.length_nil, List.replicate, then_normal, inBlock_normal, Option.getD_some, Option.getD_none, Bool.or_false, Bool.or_true, Bool.true_or, Bool.false_or, Bool.false_eq_true, if_false, if_true, up_zero, Nat.reduceAdd, Nat.reduceSub, binv, ↓opt_def, AV.isAny, AV.cells, ldc, List.map_cons, List.map_nil, St.set_next, St.set_same, St.up_next, Int.natCast_nonneg, lt_len, le_len, Int.toNat_natCast, true_and, and_true, eq_self, reduceCtorEq, decide_true, List.length_singleton, er_int, er_bool, er_str, up_zero]
        refine h6 _ _ ?_
        try clear h6 K_h6
        refine T.seq_k (fun K_h6 h6 => ?_)
        cases cm : mayS x with
        | false =>
          have em : mayI x.st x.en (bytesAV x.da).length = false := by rw [bytesAV_len]; exact cm
          rw [em]
          refine T.regi hm ?_
          simp only [↓reduceIte, namesOf, List.any, I.names, aopsI, astep, ev, setd, List.set, List.getD, List.getElem?_cons_zero, List.getElem?_cons_succ, List.cons_append, List.nil_append, List.replicate, then_normal, Option.getD_some, Bool.or_false, Bool.false_eq_true, up_zero, eq_self, reduceCtorEq, reduceCtorEq, Bool.not_false]
          refine h6 _ _ ?_
          try clear h6 K_h6
          refine T.cond rfl (fun _ => ?_) (fun h => by cases h)
          refine T.seq_k (fun K_h6 h6 => ?_)
          refine T.regi hm ?_
          simp only [↓reduceIte, namesOf, List.any, I.names, aopsI, astep, ev, setd, List.set, List.cons_append, List.nil_append, List.replicate, then_normal, Bool.or_false, Bool.false_eq_true, up_zero]
          refine h6 _ _ ?_
          try clear h6 K_h6
          exact T.ret (fin (badx (by rw [cm]; rfl)) _ rfl)
        | true =>
        have em : mayI x.st x.en (bytesAV x.da).length = true := by rw [bytesAV_len]; exact cm
        rw [em]
        by_cases ct : x.tr = t.id
        · have e3 : ((x.tr : Int) != (t.id : Int)) = false := by simp; omega
          refine T.regi hm ?_
          simp only [↓reduceIte, namesOf, List.any, I.names, aopsI, astep, ev, setd, List.set, List.getD, List.getElem?_cons_zero, List.getElem?_cons_succ, List.cons_append, List.nil_append, List.length_cons, List.length_nil, List.replicate, then_normal, Option.getD_some, Bool.or_false, Bool.false_eq_true, up_zero, Nat.reduceAdd, binv, ↓opt_def, AV.cells, ldc, Int.natCast_nonneg, lt_len, Int.toNat_natCast, true_and, and_true, eq_self, Bool.not_true, hb5, sps_len, sps_get hkl, hkl, hx, spav, Nat.zero_add, List.drop, e3]
          refine h6 _ _ ?_
          try clear h6 K_h6
          refine T.cond rfl (fun h => by cases h) (fun _ => T.skip ?_)
          try simp only [List.cons_append, List.nil_append, List.replicate, then_normal, inBlock_normal, inBlock_normal]
          refine h5 _ _ ?_
          try clear h5 K_h5
          refine T.regi hm ?_
          simp only [↓reduceIte, namesOf, List.any, I.names, aopsI, astep, ev, setd, List.set, List.getD, List.getElem?_cons_zero, List.getElem?_cons_succ, List.cons_append, List.nil_append, List.replicate, then_normal, Option.getD_some, Bool.or_false, Bool.false_eq_true, up_zero, binv, ↓opt_def, eq_self, hw2]
          exact ⟨hkl, _, _, Gh.keep [0, 3, 4, 5], rfl, take_all (p := fun s : Sp => mayS s && decide (s.tr = t.id)) hkl hpre2 (by rw [hx, cm]; simp [ct]), rfl⟩
        · have e3 : ((x.tr : Int) != (t.id : Int)) = true := by simp; omega
          refine T.regi hm ?_
          simp only [↓reduceIte, namesOf, List.any, I.names, aopsI, astep, ev, setd, List.set, List.getD, List.getElem?_cons_zero, List.getElem?_cons_succ, List.cons_append, List.nil_append, List.length_cons, List.length_nil, List.replicate, then_normal, Option.getD_some, Bool.or_false, Bool.false_eq_true, up_zero, Nat.reduceAdd, binv, ↓opt_def, AV.cells, ldc, Int.natCast_nonneg, lt_len, Int.toNat_natCast, true_and, and_true, eq_self, Bool.not_true, hb5, sps_len, sps_get hkl, hkl, hx, spav, Nat.zero_add, List.drop, e3]
          refine h6 _ _ ?_
          try clear h6 K_h6
          refine T.cond rfl (fun _ => ?_) (fun h => by cases h)
          refine T.seq_k (fun K_h6 h6 => ?_)
          refine T.regi hm ?_
          simp only [↓reduceIte, namesOf, List.any, I.names, aopsI, astep, ev, setd, List.set, List.cons_append, List.nil_append, List.replicate, then_normal, Bool.or_false, Bool.false_eq_true, up_zero]
          refine h6 _ _ ?_
          try clear h6 K_h6
          exact T.ret (fin (badx (by rw [decide_eq_false ct, Bool.and_false])) _ rfl)
      · refine T.exit ?_
        have : k = t.sp.length := by simp at hb; omega
        subst this
        rw [List.take_length] at hpre2
        try simp only [List.cons_append, List.nil_append, List.replicate, then_normal, inBlock_exit, then_exit]
        refine h3 _ _ ?_
        try clear h3 K_h3
        have hg1 := gGather_eq (l := t.sp) (by omega)
        have hg2 := gSpans_eq (a := gatherL t.sp) (b := t.sp) (by have := gatherN_le t.sp t.sp.length; unfold gatherL; omega)
        refine T.seq_k (fun K_h3 h3 => ?_)
        refine T.regt hm tI_ok ?_
        simp only [↓reduceIte, namesOf, List.any, I.names, aopsT, qstep, qget, Tbl.get, astep, ev, setd, List.set, List.getD, List.getElem?_cons_zero, List.getElem?_cons_succ, List.cons_append, List.nil_append, List.replicate, then_normal, Option.getD_some, Bool.or_false, Bool.false_eq_true, up_zero, Nat.reduceAdd, ↓opt_def, ldc, List.map_cons, List.map_nil, eq_self, Nat.reduceEqDiff, tI, n_rgather, n_rspans, hb5, hg1, hg2]
        refine h3 _ _ ?_
        try clear h3 K_h3
        refine T.seq_k (fun K_h3 h3 => ?_)
        refine T.regi hm ?_
        simp only [↓reduceIte, namesOf, List.any, I.names, aopsI, astep, ev, setd, List.set, List.getD, List.getElem?_cons_zero, List.getElem?_cons_succ, List.cons_append, List.nil_append, List.replicate, then_normal, Option.getD_some, Bool.or_false, Bool.false_eq_true, up_zero]
        refine h3 _ _ ?_
        try clear h3 K_h3
        by_cases cg : gatherL t.sp = t.sp
        · refine T.cond (b := false) (by simp [ev, cg]) (fun h => by cases h) (fun _ => T.skip ?_)
          try simp only [List.cons_append, List.nil_append, List.replicate, then_normal, inBlock_normal, inBlock_normal]
          refine h2 _ _ ?_
          try clear h2 K_h2
          refine T.regi hm ?_
          simp only [↓reduceIte, namesOf, List.any, I.names, aopsI, astep, ev, setd, List.set, List.getD, List.getElem?_cons_zero, List.getElem?_cons_succ, List.cons_append, List.nil_append, List.replicate, then_normal, Option.getD_some, Bool.or_false, Bool.false_eq_true, up_zero, binv, ↓opt_def, eq_self, hw]
          refine ⟨hil, _, _, Gh.keep [0, 3], hn2, ho2, range_all hpre ?_, rfl⟩
          unfold risAt
          simp only [hti, decide_eq_true c1, decide_eq_true c2, c3, hpre2, decide_eq_true cg, Bool.and_self]
        · refine T.cond (b := true) (by simp [ev, cg]) (fun _ => ?_) (fun h => by cases h)
          refine T.seq_k (fun K_h3 h3 => ?_)
          refine T.regi hm ?_
          simp only [↓reduceIte, namesOf, List.any, I.names, aopsI, astep, ev, setd, List.set, List.cons_append, List.nil_append, List.replicate, then_normal, Bool.or_false, Bool.false_eq_true, up_zero]
          refine h3 _ _ ?_
          try clear h3 K_h3
          exact T.ret (fin (by unfold risAt; simp only [hti, decide_eq_false cg, Bool.and_false]) _ rfl)
    cases i with
    | zero =>
      have hz : decide (((0 : Nat) : Int) > 0) = false := rfl
      refine T.regi hm ?_
      simp only [↓reduceIte, namesOf, List.any, I.names, aopsI, astep, ev, setd, List.set, List.getD, List.getElem?_cons_zero, List.getElem?_cons_succ, List.cons_append, List.nil_append, List.replicate, then_normal, Option.getD_some, Bool.or_false, Bool.false_eq_true, up_zero, Nat.reduceAdd, binv, ↓opt_def, ldc, eq_self, hb5, sps_len, e1, e2, hz]
      exact rest rfl _ rfl rfl
    | succ j =>
      have hjl : j < l.length := by omega
      generalize hp : l[j] = p
      have hpj : l[j]? = some p := by rw [← hp]; simp [hjl]
      have hz : decide (((j + 1 : Nat) : Int) > 0) = true := decide_eq_true (by omega)
      have hd : IntKind.i64.wrap (((j + 1 : Nat) : Int) - 1) = (j : Int) := by rw [wrap64 (by omega) (by omega)]; omega
      by_cases c4 : p.id < t.id
      · have e4 : decide ((p.id : Int) ≥ (t.id : Int)) = false := decide_eq_false (by omega)
        refine T.regi hm ?_
        simp only [↓reduceIte, namesOf, List.any, I.names, aopsI, astep, ev, setd, List.set, List.getD, List.getElem?_cons_zero, List.getElem?_cons_succ, List.cons_append, List.nil_append, List.length_cons, List.length_nil, List.replicate, then_normal, Option.getD_some, Bool.or_false, Bool.false_eq_true, up_zero, Nat.reduceAdd, binv, ↓opt_def, AV.cells, ldc, Int.natCast_nonneg, lt_len, Int.toNat_natCast, and_true, eq_self, hb5, sps_len, e1, e2, hz, hd, tcs_len, tcs_get hjl, hjl, hp, tcav', e4, Nat.zero_add, List.drop]
        exact rest (by simp [hpj, c4]) _ rfl rfl
      · have e4 : decide ((p.id : Int) ≥ (t.id : Int)) = true := decide_eq_true (by omega)
        refine T.regi hm ?_
        simp only [↓reduceIte, namesOf, List.any, I.names, aopsI, astep, ev, setd, List.set, List.getD, List.getElem?_cons_zero, List.getElem?_cons_succ, List.cons_append, List.nil_append, List.length_cons, List.length_nil, List.replicate, then_normal, Option.getD_some, Bool.or_false, Bool.false_eq_true, up_zero, Nat.reduceAdd, binv, ↓opt_def, AV.cells, ldc, Int.natCast_nonneg, lt_len, Int.toNat_natCast, and_true, eq_self, hb5, sps_len, e1, e2, hz, hd, tcs_len, tcs_get hjl, hjl, hp, tcav', e4, Nat.zero_add, List.drop]
        refine h4 _ _ ?_
        try clear h4 K_h4
        refine T.cond rfl (fun _ => ?_) (fun h => by cases h)
        refine T.seq_k (fun K_h4 h4 => ?_)
        refine T.regi hm ?_
        simp only [↓reduceIte, namesOf, List.any, I.names, aopsI, astep, ev, setd, List.set, List.cons_append, List.nil_append, List.replicate, then_normal, Bool.or_false, Bool.false_eq_true, up_zero]
        refine h4 _ _ ?_
        try clear h4 K_h4
        exact T.ret (fin (by unfold risAt; simp [hti, hpj, c4]) _ rfl)
  · refine T.exit ?_
    have : i = l.length := by simp at hb; omega
    subst this
    try simp only [List.cons_append, List.nil_append, List.replicate, then_normal, inBlock_exit, then_exit]
    refine h1 _ _ ?_
    try clear h1 K_h1
    refine T.seq_k (fun K_h1 h1 => ?_)
    refine T.regi hm ?_
    simp only [↓reduceIte, namesOf, List.any, I.names, aopsI, astep, ev, setd, List.set, then_normal, Bool.or_false, Bool.false_eq_true, up_zero]
    refine h1 _ _ ?_
    try clear h1 K_h1
    exact T.ret (Fin.quiet rfl trivial ho ⟨by rw [show risB l = true from hpre]; rfl, rfl⟩)
end Go.VL
