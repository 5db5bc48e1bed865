/- Contracts: canonical traces. -/
import Derived.Test.YtlbnimbgodmagaaVrB
namespace Go.VL
open Go.Proofs

theorem spav (s : Sp) : s.av = .agg [.int .u64 (s.tr : Int), .int .u64 (s.id : Int), .int .i64 s.st, .int .i64 s.en, .sl (bytesAV s.da) .none] := rfl
def mayS (s : Sp) : Bool := mayI s.st s.en s.da.length
def cmpSp (a b : Sp) : Int := cmpS a.st a.id a.tr b.st b.id b.tr
def okAt (t : Tc) (i : Nat) : Bool := match t.sp[i]? with
  | some s => decide (s.tr = t.id) && mayS s && !((t.sp.take i).map Sp.id).contains s.id && (i == 0 || (match t.sp[i - 1]? with | some p => decide (cmpSp p s < 0) | none => false))
  | none => false
def oneB (t : Tc) : Bool := (List.range t.sp.length).all (okAt t) && decide (1 ≤ t.sp.length) && decide (t.sp.length ≤ 100)

def metAV (l : List Nat) : List (AV × AV) := l.map fun n : Nat => (.int .u64 (n : Int), .bool true)
theorem met_find (l : List Nat) (n : Nat) : mfind (.int .u64 (n : Int)) (metAV l) = some (if l.contains n then some (.bool true) else none) := by
  induction l with
  | nil => rfl
  | cons a r ih =>
    unfold metAV at ih ⊢
    by_cases h : n = a
    · subst h
      simp [mfind, keq]
    · have h1 : ((n : Int) == (a : Int)) = false := by simp; omega
      have h2 : (n == a) = false := by simpa using h
      have h3 : (a == n) = false := by simpa using fun e => h e.symm
      simp only [List.map_cons, mfind, keq, if_true, h1, ih, List.contains_cons, h2, Bool.false_or]
theorem met_put (l : List Nat) (n : Nat) (h : l.contains n = false) : mput (.int .u64 (n : Int)) (.bool true) (metAV l) = metAV (l ++ [n]) := by
  induction l with
  | nil => rfl
  | cons a r ih =>
    unfold metAV at ih ⊢
    simp only [List.contains_cons, Bool.or_eq_false_iff] at h
    have h1 : ((n : Int) == (a : Int)) = false := by have := h.1; simp at this ⊢; omega
    simp only [List.map_cons, mput, keq, if_true, h1, ih h.2, List.cons_append]

structure OneSt (σ σ' : St) (a m : Nat) (t : Tc) (l : List Nat) : Prop where
  a0 : σ.next ≤ a
  m0 : σ.next ≤ m
  a1 : a < σ'.next
  m1 : m < σ'.next
  obj : σ'.res a = some (.obj t.av.cells)
  map : σ'.res m = some (.map (metAV l) (List.range l.length) l.length)
  old : ∀ n r, σ.res n = some r → σ'.res n = some r

theorem OneSt.other {σ σ' : St} {a m : Nat} {t : Tc} {l : List Nat} (wf : WF σ) (h : OneSt σ σ' a m t l) {k b : Nat} (r : Res) (hb : σ'.next ≤ b) : OneSt σ ((σ'.up k).set b r) a m t l where
  a0 := h.a0
  m0 := h.m0
  a1 := Nat.lt_of_lt_of_le h.a1 (Nat.le_add_right _ _)
  m1 := Nat.lt_of_lt_of_le h.m1 (Nat.le_add_right _ _)
  obj := by rw [St.set_other _ _ (by have := h.a1; omega)]; exact h.obj
  map := by rw [St.set_other _ _ (by have := h.m1; omega)]; exact h.map
  old := fun n r' hr => by
    have hn : n < σ.next := by
      rcases Nat.lt_or_ge n σ.next with h' | h'
      · exact h'
      · rw [wf n h'] at hr; cases hr
    rw [St.set_other _ _ (by have := h.a0; have := h.a1; omega)]; exact h.old n r' hr
theorem OneSt.put {σ σ' : St} {a m : Nat} {t : Tc} {l : List Nat} {n : Nat} (wf : WF σ) (ham : a ≠ m) (h : OneSt σ σ' a m t l) (hn : l.contains n = false) : OneSt σ (σ'.set m (.map (mput (.int .u64 (n : Int)) (.bool true) (metAV l)) (List.range l.length ++ [l.length]) (l.length + 1))) a m t (l ++ [n]) where
  a0 := h.a0
  m0 := h.m0
  a1 := h.a1
  m1 := h.m1
  obj := by rw [St.set_other _ _ ham]; exact h.obj
  map := by rw [St.set_same, met_put l n hn, List.length_append, List.length_singleton, List.range_succ]
  old := fun n r' hr => by
    have hn : n < σ.next := by
      rcases Nat.lt_or_ge n σ.next with h' | h'
      · exact h'
      · rw [wf n h'] at hr; cases hr
    rw [St.set_other _ _ (by have := h.m0; omega)]; exact h.old n r' hr

theorem one_false {t : Tc} {i : Nat} (hi : i < t.sp.length) (h : okAt t i = false) : oneB t = false := by
  unfold oneB
  have : (List.range t.sp.length).all (okAt t) = false := by
    rw [Bool.eq_false_iff]
    intro hh
    have := List.all_eq_true.1 hh i (by simpa using hi)
    rw [h] at this; cases this
  rw [this]; rfl

set_option maxRecDepth 10000 in
set_option maxHeartbeats 4000000 in
theorem tone_ok {t : Tc} {σ : St} (hl : t.sp.length ≤ 9223372036854775807) : ACalls Try.prog n_one [.agg [.int .u64 (t.id : Int), .sl (spsAV t.sp) .none]] σ (fun v σ' => v = .bool (oneB t) ∧ σ' = σ) := by
  refine s_one (fun wf => ?_)
  unfold c_one
  refine T.seq_k (fun K_h1 h1 => ?_)
  refine T.regi hm ?_
  simp only [↓reduceIte, namesOf, List.any, I.names, aopsI, astep, ev, setd, List.set, List.getD, List.getElem?_cons_zero, List.cons_append, List.nil_append, List.length_cons, List.length_nil, List.replicate, then_normal, Option.getD_some, Bool.or_false, Bool.false_eq_true, Nat.reduceAdd, Nat.reduceSub, AV.isAny, AV.cells, eq_self]
  refine h1 _ _ ?_
  try clear h1 K_h1
  refine T.seq_k (fun K_h1 h1 => ?_)
  refine T.regi hm ?_
  simp only [↓reduceIte, namesOf, List.any, I.names, aopsI, astep, ev, setd, List.set, List.getD, List.getElem?_cons_zero, List.getElem?_cons_succ, List.length_cons, List.length_nil, then_normal, Option.getD_some, Bool.or_false, Nat.reduceAdd, St.set_next, St.up_next, eq_self]
  have o0 : OneSt σ ((((σ.up 2).set (σ.next + 0) (.obj [.int .u64 (t.id : Int), .sl (spsAV t.sp) .none])).up 2).set (σ.next + 2 + 0) (.map [] [] 0)) (σ.next + 0) (σ.next + 2 + 0) t [] := by
    refine ⟨by omega, by omega, by simp; omega, by simp, ?_, by simp [metAV], fun n r hr => ?_⟩
    · rw [St.set_other _ _ (by omega)]; simp [tccells]
    · have hn : n < σ.next := by
        rcases Nat.lt_or_ge n σ.next with h' | h'
        · exact h'
        · rw [wf n h'] at hr; cases hr
      rw [St.set_other _ _ (by omega), St.up_res, St.set_other _ _ (by omega)]; exact hr
  have ham : σ.next + 0 ≠ σ.next + 2 + 0 := by omega
  generalize ((((σ.up 2).set (σ.next + 0) (.obj [.int .u64 (t.id : Int), .sl (spsAV t.sp) .none])).up 2).set (σ.next + 2 + 0) (.map [] [] 0)) = σ1 at o0 ⊢
  generalize σ.next + 0 = a at o0 ham ⊢
  generalize σ.next + 2 + 0 = m at o0 ham ⊢
  refine h1 _ _ ?_
  try clear h1 K_h1
  refine T.seq_k (fun K_h1 h1 => ?_)
  refine T.seq_k (fun K_h2 h2 => ?_)
  have ha := o0.obj
  rw [tccells] at ha
  refine T.regi hm ?_
  simp only [↓reduceIte, namesOf, List.any, I.names, aopsI, astep, ev, setd, List.set, List.getD, List.getElem?_cons_zero, List.getElem?_cons_succ, then_normal, Option.getD_some, Bool.or_false, Bool.false_eq_true, up_zero, Nat.reduceAdd, ↓opt_def, ldc, ha, sps_len]
  refine h2 _ _ ?_
  try clear h2 K_h2
  clear ha
  refine T.block ?_
  refine T.gh (Gh.keep [1, 3, 8, 9, 10]) ?_
  refine T.loopi (fun i ρ σ' => OneSt σ σ' a m t ((t.sp.take i).map Sp.id) ∧ (List.range i).all (okAt t) = true ∧ ρ = [.any, .ptr a 0, .any, .map m, .any, .any, .any, .any, .sl (spsAV t.sp) .none, .int .i64 (t.sp.length : Int), .int .i64 (i : Int)] ++ List.replicate 49 .any)
    t.sp.length 0 (Nat.zero_le _) ⟨o0, rfl, rfl⟩ ?_
  clear o0 σ1
  rintro i ρ σ' hi ⟨o1, hpre, rfl⟩
  refine T.seq_k (fun K_h2 h2 => ?_)
  refine T.regi hm ?_
  simp only [↓reduceIte, namesOf, List.any, I.names, aopsI, astep, ev, setd, List.set, List.getD, List.getElem?_cons_zero, List.getElem?_cons_succ, List.cons_append, List.nil_append, List.replicate, then_normal, Option.getD_some, Bool.or_false, Bool.false_eq_true, up_zero, binv, ↓opt_def, lt_len, eq_self]
  refine h2 _ _ ?_
  try clear h2 K_h2
  refine T.seq_k (fun K_h2 h2 => ?_)
  refine T.cond rfl (fun hb => ?_) (fun hb => ?_)
  · refine T.skip ?_
    refine h2 _ _ ?_
    try clear h2 K_h2
    have hil : i < t.sp.length := by simpa using hb
    clear hb
    generalize hs : t.sp[i] = s
    have hsi : t.sp[i]? = some s := by rw [← hs]; simp [hil]
    refine T.seq_k (fun K_h2 h2 => ?_)
    refine T.block ?_
    refine T.seq_k (fun K_h3 h3 => ?_)
    refine T.regi hm ?_
    simp only [↓reduceIte, namesOf, List.any, I.names, aopsI, astep, ev, setd, List.set, List.getD, List.getElem?_cons_zero, List.getElem?_cons_succ, List.cons_append, List.nil_append, List.length_cons, List.length_nil, List.replicate, then_normal, Option.getD_some, Bool.or_false, Bool.or_true, Nat.reduceAdd, ↓opt_def, AV.isAny, AV.cells, ldc, St.set_same, Int.natCast_nonneg, lt_len, Int.toNat_natCast, true_and, and_true, eq_self, decide_true, sps_len, sps_get hil, hil, hs, spav, AV.fits, AV.one, List.all_cons, List.all_nil, Nat.reduceBEq, Bool.not_false, Bool.and_self, Nat.zero_add, splice, List.take, List.drop, Nat.reduceLeDiff, St.set_set]
    have o2 := o1.other wf (k := 6) (.obj [.int .u64 (s.tr : Int), .int .u64 (s.id : Int), .int .i64 s.st, .int .i64 s.en, .sl (bytesAV s.da) .none]) (b := σ'.next + 3) (by omega)
    have hb5 : ((σ'.up 6).set (σ'.next + 3) (.obj [.int .u64 (s.tr : Int), .int .u64 (s.id : Int), .int .i64 s.st, .int .i64 s.en, .sl (bytesAV s.da) .none])).res (σ'.next + 3) = some (.obj [.int .u64 (s.tr : Int), .int .u64 (s.id : Int), .int .i64 s.st, .int .i64 s.en, .sl (bytesAV s.da) .none]) := by simp
    have hbn : σ'.next + 3 < ((σ'.up 6).set (σ'.next + 3) (.obj [.int .u64 (s.tr : Int), .int .u64 (s.id : Int), .int .i64 s.st, .int .i64 s.en, .sl (bytesAV s.da) .none])).next := by simp
    have hbm : σ'.next + 3 ≠ m := by have := o1.m1; omega
    clear o1
    generalize ((σ'.up 6).set (σ'.next + 3) (.obj [.int .u64 (s.tr : Int), .int .u64 (s.id : Int), .int .i64 s.st, .int .i64 s.en, .sl (bytesAV s.da) .none])) = σ2 at o2 hb5 hbn ⊢
    generalize σ'.next + 3 = b at hb5 hbn hbm ⊢
    refine h3 _ _ ?_
    try clear h3 K_h3
    have ha := o2.obj
    rw [tccells] at ha
    have hm2 := o2.map
    refine T.seq_k (fun K_h3 h3 => ?_)
    refine T.seq_k (fun K_h4 h4 => ?_)
    -- the four parts
    have fin : okAt t i = false → ∀ ρ' : List AV, ρ'.getD 2 .any = .bool false → Fin σ [.t 2] (fun v σ' => v = .bool (oneB t) ∧ σ' = σ) .ret ρ' σ2 := by
      intro hf ρ' hρ
      refine Fin.quiet (xs := [ρ'.getD 2 .any]) rfl (by rw [hρ]; trivial) o2.old ⟨?_, rfl⟩
      rw [one_false hil hf, hρ]; rfl
    by_cases c1 : s.tr = t.id
    case neg =>
      have e1 : ((s.tr : Int) != (t.id : Int)) = true := by simp; omega
      refine T.regt hm tS_ok ?_
      simp only [↓reduceIte, namesOf, List.any, I.names, aopsT, qstep, astep, ev, setd, List.set, List.getD, List.getElem?_cons_zero, List.getElem?_cons_succ, List.cons_append, List.nil_append, List.replicate, then_normal, Option.getD_some, Bool.or_false, Bool.false_eq_true, up_zero, Nat.reduceAdd, binv, ↓opt_def, ldc, eq_self, reduceCtorEq, hb5, ha, e1, reduceCtorEq]
      refine h4 _ _ ?_
      try clear h4 K_h4
      refine T.cond rfl (fun _ => ?_) (fun h => by cases h)
      refine T.seq_k (fun K_h4 h4 => ?_)
      refine T.regi hm ?_
      simp only [↓reduceIte, namesOf, List.any, I.names, aopsI, astep, ev, setd, List.set, List.cons_append, List.nil_append, List.replicate, then_normal, Bool.or_false, Bool.false_eq_true, up_zero]
      refine h4 _ _ ?_
      try clear h4 K_h4
      exact T.ret (fin (by unfold okAt; simp [hsi, c1]) _ rfl)
    have e1 : ((s.tr : Int) != (t.id : Int)) = false := by simp; omega
    cases c2 : mayS s with
    | false =>
      have e2 : mayI s.st s.en (bytesAV s.da).length = false := by rw [bytesAV_len]; exact c2
      refine T.regt hm tS_ok ?_
      simp only [↓reduceIte, namesOf, List.any, I.names, aopsT, qstep, qget, Tbl.get, astep, ev, setd, List.set, List.getD, List.getElem?_cons_zero, List.getElem?_cons_succ, List.cons_append, List.nil_append, List.length_cons, List.length_nil, List.replicate, then_normal, Option.getD_some, Bool.or_false, Bool.false_eq_true, up_zero, Nat.reduceAdd, binv, ↓opt_def, ldc, List.map_cons, List.map_nil, eq_self, reduceCtorEq, Nat.reduceEqDiff, tS, n_scmp, n_may, hb5, ha, e1, g_may, e2, Bool.not_false, Nat.zero_add, List.take, List.drop, Nat.reduceLeDiff, Bool.not_false, reduceCtorEq]
      refine h4 _ _ ?_
      try clear h4 K_h4
      refine T.cond rfl (fun _ => ?_) (fun h => by cases h)
      refine T.seq_k (fun K_h4 h4 => ?_)
      refine T.regi hm ?_
      simp only [↓reduceIte, namesOf, List.any, I.names, aopsI, astep, ev, setd, List.set, List.cons_append, List.nil_append, List.replicate, then_normal, Bool.or_false, Bool.false_eq_true, up_zero]
      refine h4 _ _ ?_
      try clear h4 K_h4
      exact T.ret (fin (by unfold okAt; simp [hsi, c2]) _ rfl)
    | true =>
    have e2 : mayI s.st s.en (bytesAV s.da).length = true := by rw [bytesAV_len]; exact c2
    cases c3 : ((t.sp.take i).map Sp.id).contains s.id with
    | true =>
      have e3 : mfind (.int .u64 (s.id : Int)) (metAV ((t.sp.take i).map Sp.id)) = some (some (.bool true)) := by rw [met_find, c3]; rfl
      refine T.regt hm tS_ok ?_
      simp only [↓reduceIte, namesOf, List.any, I.names, aopsT, qstep, qget, Tbl.get, astep, ev, setd, List.set, List.getD, List.getElem?_cons_zero, List.getElem?_cons_succ, List.cons_append, List.nil_append, List.length_cons, List.length_nil, List.replicate, then_normal, Option.getD_some, Bool.or_false, Bool.false_eq_true, up_zero, Nat.reduceAdd, binv, ↓opt_def, ldc, List.map_cons, List.map_nil, eq_self, reduceCtorEq, Nat.reduceEqDiff, tS, n_scmp, n_may, hb5, ha, e1, g_may, e2, hm2, e3, kshape, Nat.zero_add, List.take, List.drop, Nat.reduceLeDiff, Bool.not_true, reduceCtorEq]
      refine h4 _ _ ?_
      try clear h4 K_h4
      refine T.cond rfl (fun _ => ?_) (fun h => by cases h)
      refine T.seq_k (fun K_h4 h4 => ?_)
      refine T.regi hm ?_
      simp only [↓reduceIte, namesOf, List.any, I.names, aopsI, astep, ev, setd, List.set, List.cons_append, List.nil_append, List.replicate, then_normal, Bool.or_false, Bool.false_eq_true, up_zero]
      refine h4 _ _ ?_
      try clear h4 K_h4
      exact T.ret (fin (by unfold okAt; simp only [hsi, c3, Bool.not_true, Bool.and_false, Bool.false_and]) _ rfl)
    | false =>
    have e3 : mfind (.int .u64 (s.id : Int)) (metAV ((t.sp.take i).map Sp.id)) = some none := by rw [met_find, c3]; rfl
    -- what comes behind a good one
    have cont : okAt t i = true → OneSt σ (σ2.set m (.map (mput (.int .u64 (s.id : Int)) (.bool true) (metAV ((t.sp.take i).map Sp.id))) (List.range ((t.sp.take i).map Sp.id).length ++ [((t.sp.take i).map Sp.id).length]) (((t.sp.take i).map Sp.id).length + 1))) a m t ((t.sp.take (i + 1)).map Sp.id) ∧ (List.range (i + 1)).all (okAt t) = true := by
      intro hk
      refine ⟨?_, ?_⟩
      · rw [List.take_succ_eq_append_getElem hil, List.map_append, hs]
        exact o2.put wf ham c3
      · rw [List.range_succ, List.all_append, hpre]; simp [hk]
    have hw := inc64 hil hl
    cases i with
    | zero =>
      have hok : okAt t 0 = true := by unfold okAt; rw [hsi]; simp [c1, c2]
      have hz : decide (((0 : Nat) : Int) > 0) = false := rfl
      refine T.regt hm tS_ok ?_
      simp only [↓reduceIte, namesOf, List.any, I.names, aopsT, qstep, qget, Tbl.get, astep, ev, setd, List.set, List.getD, List.getElem?_cons_zero, List.getElem?_cons_succ, List.cons_append, List.nil_append, List.length_cons, List.length_nil, List.replicate, then_normal, Option.getD_some, Bool.or_false, Bool.false_eq_true, up_zero, Nat.reduceAdd, binv, ↓opt_def, ldc, List.map_cons, List.map_nil, eq_self, Nat.reduceEqDiff, tS, n_scmp, n_may, hb5, ha, e1, g_may, e2, hm2, kshape, Nat.zero_add, List.take, List.drop, Nat.reduceLeDiff, Bool.not_true, hz]
      refine h4 _ _ ?_
      try clear h4 K_h4
      refine T.cond rfl (fun h => by cases h) (fun _ => ?_)
      refine T.skip ?_
      refine h3 _ _ ?_
      try clear h3 K_h3
      refine T.regi hm ?_
      simp only [↓reduceIte, namesOf, List.any, I.names, aopsI, astep, ev, setd, List.set, List.getD, List.getElem?_cons_zero, List.getElem?_cons_succ, List.cons_append, List.nil_append, List.replicate, then_normal, inBlock_normal, Option.getD_some, Bool.or_false, Bool.false_eq_true, up_zero, Nat.reduceAdd, ↓opt_def, ldc, eq_self, hb5, hm2, e3, kshape]
      refine h2 _ _ ?_
      try clear h2 K_h2
      obtain ⟨k1, k2⟩ := cont hok
      refine T.regi hm ?_
      simp only [↓reduceIte, namesOf, List.any, I.names, aopsI, astep, ev, setd, List.set, List.getD, List.getElem?_cons_zero, List.getElem?_cons_succ, List.cons_append, List.nil_append, List.replicate, then_normal, Option.getD_some, Bool.or_false, Bool.false_eq_true, up_zero, Nat.reduceAdd, binv, ↓opt_def, eq_self, hw]
      exact ⟨hil, _, _, Gh.keep [1, 3, 8, 9, 10], k1, k2, rfl⟩
    | succ j =>
      have hjl : j < t.sp.length := by omega
      generalize hp : t.sp[j] = p
      have hpj : t.sp[j]? = some p := by rw [← hp]; simp [hjl]
      have hz : decide (((j + 1 : Nat) : Int) > 0) = true := decide_eq_true (by omega)
      have hd : IntKind.i64.wrap (((j + 1 : Nat) : Int) - 1) = (j : Int) := by rw [wrap64 (by omega) (by omega)]; omega
      by_cases c4 : cmpSp p s < 0
      · have hok : okAt t (j + 1) = true := by unfold okAt; rw [hsi]; simp [c1, c2, hpj, c4]; simpa using c3
        have e4 : decide (cmpS p.st p.id p.tr s.st s.id s.tr ≥ 0) = false := decide_eq_false (by have : cmpS p.st p.id p.tr s.st s.id s.tr < 0 := c4; omega)
        refine T.regt hm tS_ok ?_
        simp only [↓reduceIte, namesOf, List.any, I.names, aopsT, qstep, qget, Tbl.get, astep, ev, setd, List.set, List.getD, List.getElem?_cons_zero, List.getElem?_cons_succ, List.cons_append, List.nil_append, List.length_cons, List.length_nil, List.replicate, then_normal, Option.getD_some, Bool.or_false, Bool.false_eq_true, up_zero, Nat.reduceAdd, binv, ↓opt_def, AV.cells, ldc, List.map_cons, List.map_nil, Int.natCast_nonneg, lt_len, Int.toNat_natCast, and_true, eq_self, Nat.reduceEqDiff, tS, n_scmp, n_may, hb5, ha, e1, g_may, g_scmp, e2, hm2, e3, kshape, Nat.zero_add, List.take, List.drop, Nat.reduceLeDiff, Bool.not_true, hz, hd, sps_len, sps_get hjl, hjl, hp, spav, e4]
        refine h4 _ _ ?_
        try clear h4 K_h4
        refine T.cond rfl (fun h => by cases h) (fun _ => ?_)
        refine T.skip ?_
        refine h3 _ _ ?_
        try clear h3 K_h3
        refine T.regi hm ?_
        simp only [↓reduceIte, namesOf, List.any, I.names, aopsI, astep, ev, setd, List.set, List.getD, List.getElem?_cons_zero, List.getElem?_cons_succ, List.cons_append, List.nil_append, List.replicate, then_normal, inBlock_normal, Option.getD_some, Bool.or_false, Bool.false_eq_true, up_zero, Nat.reduceAdd, ↓opt_def, ldc, eq_self, hb5, hm2, e3, kshape]
        refine h2 _ _ ?_
        try clear h2 K_h2
        obtain ⟨k1, k2⟩ := cont hok
        refine T.regi hm ?_
        simp only [↓reduceIte, namesOf, List.any, I.names, aopsI, astep, ev, setd, List.set, List.getD, List.getElem?_cons_zero, List.getElem?_cons_succ, List.cons_append, List.nil_append, List.replicate, then_normal, Option.getD_some, Bool.or_false, Bool.false_eq_true, up_zero, binv, ↓opt_def, eq_self, hw]
        exact ⟨hil, _, _, Gh.keep [1, 3, 8, 9, 10], k1, k2, rfl⟩
      · have e4 : decide (cmpS p.st p.id p.tr s.st s.id s.tr ≥ 0) = true := decide_eq_true (by have : ¬ cmpS p.st p.id p.tr s.st s.id s.tr < 0 := c4; omega)
        refine T.regt hm tS_ok ?_
        simp only [↓reduceIte, namesOf, List.any, I.names, aopsT, qstep, qget, Tbl.get, astep, ev, setd, List.set, List.getD, List.getElem?_cons_zero, List.getElem?_cons_succ, List.cons_append, List.nil_append, List.length_cons, List.length_nil, List.replicate, then_normal, Option.getD_some, Bool.or_false, Bool.false_eq_true, up_zero, Nat.reduceAdd, binv, ↓opt_def, AV.cells, ldc, List.map_cons, List.map_nil, Int.natCast_nonneg, lt_len, Int.toNat_natCast, and_true, eq_self, Nat.reduceEqDiff, tS, n_scmp, n_may, hb5, ha, e1, g_may, g_scmp, e2, hm2, e3, kshape, Nat.zero_add, List.take, List.drop, Nat.reduceLeDiff, Bool.not_true, hz, hd, sps_len, sps_get hjl, hjl, hp, spav, e4]
        refine h4 _ _ ?_
        try clear h4 K_h4
        refine T.cond rfl (fun _ => ?_) (fun h => by cases h)
        refine T.seq_k (fun K_h4 h4 => ?_)
        refine T.regi hm ?_
        simp only [↓reduceIte, namesOf, List.any, I.names, aopsI, astep, ev, setd, List.set, List.cons_append, List.nil_append, List.replicate, then_normal, Bool.or_false, Bool.false_eq_true, up_zero]
        refine h4 _ _ ?_
        try clear h4 K_h4
        exact T.ret (fin (by unfold okAt; rw [hsi]; simp [hpj, c4]) _ rfl)
  · refine T.exit ?_
    have : i = t.sp.length := by simp at hb; omega
    subst this
    try simp only [List.cons_append, List.nil_append, List.replicate, then_normal, inBlock_exit, then_exit]
    refine h1 _ _ ?_
    try clear h1 K_h1
    have ha := o1.obj
    rw [tccells] at ha
    refine T.seq_k (fun K_h1 h1 => ?_)
    have fin : ∀ (x : Bool) (ρ' : List AV), oneB t = x → ρ'.getD 2 .any = .bool x → Fin σ [.t 2] (fun v σ' => v = .bool (oneB t) ∧ σ' = σ) .ret ρ' σ' := by
      intro x ρ' hx hρ
      refine Fin.quiet (xs := [ρ'.getD 2 .any]) rfl (by rw [hρ]; trivial) o1.old ⟨?_, rfl⟩
      rw [hx, hρ]; rfl
    by_cases c1 : 1 ≤ t.sp.length
    · have e1 : decide ((t.sp.length : Int) ≥ 1) = true := decide_eq_true (by omega)
      refine T.regi hm ?_
      simp only [↓reduceIte, namesOf, List.any, I.names, aopsI, astep, ev, setd, List.set, List.getD, List.getElem?_cons_zero, List.getElem?_cons_succ, then_normal, Option.getD_some, Bool.or_false, Bool.false_eq_true, up_zero, Nat.reduceAdd, binv, ↓opt_def, ldc, eq_self, ha, sps_len, e1]
      refine h1 _ _ ?_
      try clear h1 K_h1
      refine T.ret (fin _ _ ?_ rfl)
      unfold oneB
      rw [hpre, decide_eq_true c1]
      have : decide ((t.sp.length : Int) ≤ 100) = decide (t.sp.length ≤ 100) := by rw [decide_eq_decide]; omega
      rw [this]; rfl
    · have e1 : decide ((t.sp.length : Int) ≥ 1) = false := decide_eq_false (by omega)
      refine T.regi hm ?_
      simp only [↓reduceIte, namesOf, List.any, I.names, aopsI, astep, ev, setd, List.set, List.getD, List.getElem?_cons_zero, List.getElem?_cons_succ, then_normal, Option.getD_some, Bool.or_false, Bool.false_eq_true, up_zero, Nat.reduceAdd, binv, ↓opt_def, ldc, eq_self, ha, sps_len, e1]
      refine h1 _ _ ?_
      try clear h1 K_h1
      refine T.ret (fin _ _ ?_ rfl)
      unfold oneB
      rw [hpre, decide_eq_false c1]; rfl
end Go.VL
