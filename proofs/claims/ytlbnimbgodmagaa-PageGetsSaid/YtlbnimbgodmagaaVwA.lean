/- Contracts: readers of texts. -/
import Derived.Test.YtlbnimbgodmagaaVvA
namespace Go.VL
open Go.Proofs

/-- where a text can't be read -/
def rXbad (l : List UInt8) (s : Rs) : Bool := decide ((rN l s 2).bad ≠ -1) || decide ((rW l s 2 : Int) > l.length - (rN l s 2).at_)
/-- a text -/
def rX (l : List UInt8) (s : Rs) : List UInt8 := if rXbad l s then [] else (l.drop (rN l s 2).at_.toNat).take (rW l s 2)
/-- the reader behind it -/
def rXN (l : List UInt8) (s : Rs) : Rs := if (rN l s 2).bad ≠ -1 then rN l s 2 else if (rW l s 2 : Int) > l.length - (rN l s 2).at_ then ⟨s.at_, s.at_⟩ else ⟨(rN l s 2).at_ + rW l s 2, -1⟩
theorem rXN_ok {l : List UInt8} {s : Rs} (h : s.ok l) : (rXN l s).ok l := by
  have h2 := rN_ok (w := 2) h
  unfold rXN
  split
  · exact h2
  · rename_i hb
    have hb' : (rN l s 2).bad = -1 := by simpa using hb
    split
    · obtain ⟨⟨a1, a2, a3⟩, _⟩ := h
      exact ⟨⟨a1, a2, a3⟩, .inr a2⟩
    · obtain ⟨⟨a1, a2, a3⟩, _⟩ := h2
      exact ⟨⟨a1, by simp only; omega, by simp only; omega⟩, .inl rfl⟩
theorem rX_len {l : List UInt8} {s : Rs} (h : s.ok l) : (rX l s).length ≤ 65535 := by
  have := rW_lt (w := 2) h
  unfold rX
  split
  · simp
  · rw [List.length_take]; omega

set_option maxRecDepth 10000 in
set_option maxHeartbeats 1000000 in
theorem wtextR_ok {l : List UInt8} {s : Rs} {n : Nat} {σ : St} (hd : s.ok l) (hr : σ.res n = some (rdS l .none s)) :
    ACalls Try.prog n_wtextR [.ptr n 0, .int .i64 65535] σ (fun v σ' => v = .sl (bytesAV (rX l s)) .none ∧ σ' = σ.set n (rdS l .none (rXN l s))) := by
  refine s_wtextR (fun wf => ?_)
  unfold c_wtextR
  have hr' : σ.res n = some (.obj [.sl (bytesAV l) .none, .int .i64 s.at_, .int .i64 s.bad]) := hr
  have h2 := rN_ok (w := 2) hd
  have hN := rW_lt (w := 2) hd
  have eN : IntKind.i64.wrap (rW l s 2 : Int) = (rW l s 2 : Int) := wrap64 (by omega) (by omega)
  obtain ⟨⟨b1, b2, b3⟩, b4⟩ := h2
  have hn0 := wf.lt hr
  refine T.seq_k (fun K_h0 h0 => ?_)
  refine T.regi hm ?_
  simp only [↓reduceIte, namesOf, List.any, I.names, aopsI, astep, ev, setd, List.set, List.cons_append, List.nil_append, List.length_cons, List.length_nil, List.replicate, then_normal, Bool.or_false, Bool.false_eq_true, up_zero, Nat.reduceAdd, Nat.reduceSub]
  refine h0 _ _ ?_
  try clear h0 K_h0
  refine T.seq_k (fun K_h0 h0 => ?_)
  refine T.regi hm ?_
  simp only [↓reduceIte, namesOf, List.any, I.names, aopsI, astep, ev, setd, List.set, List.getD, List.getElem?_cons_zero, List.getElem?_cons_succ, then_normal, Option.getD_some, Bool.or_false, Bool.false_eq_true, up_zero, Nat.reduceAdd, ↓opt_def, ldc, hr']
  refine h0 _ _ ?_
  try clear h0 K_h0
  refine T.seq_k (fun K_h1 h1 => ?_)
  refine T.regi hm ?_
  simp only [↓reduceIte, namesOf, List.any, I.names, aopsI, astep, ev, setd, List.set, List.getD, List.getElem?_cons_zero, List.getElem?_cons_succ, then_normal, Option.getD_some, Bool.or_false, Bool.false_eq_true, up_zero, List.map_cons, List.map_nil]
  refine (wwordF hd rfl hr).mono ?_
  rintro v σ1 ⟨rfl, rfl⟩
  try simp only [eN]
  refine h1 _ _ ?_
  try clear h1 K_h1
  generalize hS : rN l s 2 = s2 at b2 b3 b4
  generalize hM : rW l s 2 = m at hN
  have hr2 : (σ.set n (rdS l .none s2)).res n = some (.obj [.sl (bytesAV l) .none, .int .i64 s2.at_, .int .i64 s2.bad]) := St.set_same _ _ _
  have hr2' : (σ.set n (rdS l .none s2)).res n = some (rdS l .none s2) := St.set_same _ _ _
  generalize hσ2 : σ.set n (rdS l .none s2) = t2 at hr2 hr2' ⊢
  have hXb : rXbad l s = (decide (s2.bad ≠ -1) || decide ((m : Int) > l.length - s2.at_)) := by unfold rXbad; rw [hS, hM]
  have hXN : rXN l s = if s2.bad ≠ -1 then s2 else if (m : Int) > l.length - s2.at_ then ⟨s.at_, s.at_⟩ else ⟨s2.at_ + m, -1⟩ := by unfold rXN; rw [hS, hM]
  have hX : rX l s = if rXbad l s then [] else (l.drop s2.at_.toNat).take m := by unfold rX; rw [hS, hM]
  have e1 : decide ((m : Int) > 65535) = false := decide_eq_false (by omega)
  refine T.seq_k (fun K_h1 h1 => ?_)
  by_cases hbad : s2.bad = -1
  case neg =>
    have e2 : (s2.bad == -1) = false := by simpa using hbad
    have e3 : (s2.bad != -1) = true := by simpa using hbad
    refine T.seq_k (fun K_h0 h0 => ?_)
    refine T.regi hm ?_
    simp only [↓reduceIte, namesOf, List.any, I.names, aopsI, astep, ev, setd, List.set, List.getD, List.getElem?_cons_zero, List.getElem?_cons_succ, then_normal, Option.getD_some, Bool.or_false, Bool.false_eq_true, up_zero, Nat.reduceAdd, binv, ↓opt_def, ldc, eq_self, hr2, e2]
    refine h0 _ _ ?_
    try clear h0 K_h0
    refine T.cond rfl (fun h => by cases h) (fun _ => T.skip ?_)
    refine h1 _ _ ?_
    try clear h1 K_h1
    refine T.seq_k (fun K_h1 h1 => ?_)
    refine T.seq_k (fun K_h0 h0 => ?_)
    refine T.regi hm ?_
    simp only [↓reduceIte, namesOf, List.any, I.names, aopsI, astep, ev, setd, List.set, List.getD, List.getElem?_cons_zero, List.getElem?_cons_succ, then_normal, Option.getD_some, Bool.or_false, Bool.false_eq_true, up_zero, Nat.reduceAdd, binv, ↓opt_def, ldc, eq_self, hr2, e3]
    refine h0 _ _ ?_
    try clear h0 K_h0
    refine T.cond rfl (fun _ => ?_) (fun h => by cases h)
    refine T.seq_k (fun K_h0 h0 => ?_)
    refine T.regi hm ?_
    simp only [↓reduceIte, namesOf, List.any, I.names, aopsI, astep, ev, setd, List.set, then_normal, Bool.or_false, Bool.false_eq_true, up_zero]
    refine h0 _ _ ?_
    try clear h0 K_h0
    have hb' : s2.bad ≠ -1 := hbad
    refine T.ret (Fin.likeset (r := rdS l .none s2) wf rfl (Wk.sl _ _) (by rw [hσ2]; exact .refl _) hr ⟨trivial, trivial⟩ (nb_rd _ _ _ _) ⟨?_, ?_⟩)
    · rw [hX, hXb, decide_eq_true hb']; rfl
    · rw [hXN, if_pos hb']
  have e2 : (s2.bad == -1) = true := by simpa using hbad
  have hb' : ¬ s2.bad ≠ -1 := fun h => h hbad
  by_cases hm2 : (m : Int) > l.length - s2.at_
  · have e3 : decide ((m : Int) > (l.length : Int) - s2.at_) = true := decide_eq_true hm2
    refine T.seq_k (fun K_h0 h0 => ?_)
    refine T.regi hm ?_
    simp only [↓reduceIte, namesOf, List.any, I.names, aopsI, astep, ev, setd, List.set, List.getD, List.getElem?_cons_zero, List.getElem?_cons_succ, then_normal, Option.getD_some, Bool.or_false, Bool.false_eq_true, up_zero, Nat.reduceAdd, binv, ↓opt_def, ldc, List.map_cons, List.map_nil, eq_self, hr2, e2, e1]
    refine (wleft_ok b1 b2 b3 hr2').mono ?_
    rintro v σ2 ⟨rfl, rfl⟩
    try simp only [↓reduceIte, eq_self, e3]
    refine h0 _ _ ?_
    try clear h0 K_h0
    refine T.cond rfl (fun _ => ?_) (fun h => by cases h)
    refine T.seq_k (fun K_h0 h0 => ?_)
    refine T.regi hm ?_
    simp only [↓reduceIte, namesOf, List.any, I.names, aopsI, astep, ev, setd, List.set, List.getD, List.getElem?_cons_zero, List.getElem?_cons_succ, List.cons_append, List.nil_append, List.length_cons, List.length_nil, then_normal, Option.getD_some, Bool.or_false, Bool.false_eq_true, up_zero, Nat.reduceAdd, AV.isAny, AV.cells, eq_self, decide_true, hr2, AV.fits, AV.one, List.all_cons, List.all_nil, Nat.reduceBEq, Bool.not_false, Bool.and_self, Nat.zero_add, splice, List.take, List.drop, Nat.reduceLeDiff]
    refine h0 _ _ ?_
    try clear h0 K_h0
    refine T.regi hm ?_
    simp only [↓reduceIte, namesOf, List.any, I.names, aopsI, astep, ev, setd, List.set, List.getD, List.getElem?_cons_zero, List.getElem?_cons_succ, then_normal, Option.getD_some, Bool.or_false, Bool.false_eq_true, up_zero, List.map_cons, List.map_nil]
    rw [← hσ2, St.set_set]
    have hr3 : (σ.set n (.obj [.sl (bytesAV l) .none, .int .i64 s.at_, .int .i64 s2.bad])).res n = some (rd l .none s.at_ s2.bad) := St.set_same _ _ _
    generalize hσ3 : σ.set n (.obj [.sl (bytesAV l) .none, .int .i64 s.at_, .int .i64 s2.bad]) = t3 at hr3 ⊢
    refine (wfail_ok hr3).mono ?_
    rintro v σ3 hσ4
    rw [if_pos hbad, ← hσ3, St.set_set] at hσ4
    have hr4 : σ3.res n = some (.obj [.sl (bytesAV l) .none, .int .i64 s.at_, .int .i64 s.at_]) := by rw [hσ4]; exact St.set_same _ _ _
    try simp only [↓reduceIte, namesOf, List.any, I.names, aops, aopsI, aopsT, qstep, CPt, qget, Tbl.get, astep, ev, setd, List.set, List.getD, List.getElem?_cons_zero, List.getElem?_cons_succ, List.getElem?_nil, List.cons_append, List.nil_append, List.length_cons, List.length_nil, List.replicate, then_normal, inBlock_normal, Option.getD_some, Option.getD_none, Bool.or_false, Bool.or_true, Bool.true_or, Bool.false_or, Bool.false_eq_true, if_false, if_true, up_zero, Nat.reduceAdd, Nat.reduceSub, binv, ↓opt_def, AV.isAny, AV.cells, ldc, List.map_cons, List.map_nil, St.set_next, St.set_same, St.up_next, Int.natCast_nonneg, lt_len, le_len, Int.toNat_natCast, true_and, and_true, eq_self, reduceCtorEq, decide_true, List.length_singleton, er_int, er_bool, er_str, up_zero]
    refine h1 _ _ ?_
    try clear h1 K_h1
    refine T.seq_k (fun K_h1 h1 => ?_)
    have e4 : (s.at_ != -1) = true := by have := hd.1.lo; rw [bne_iff_ne]; omega
    refine T.seq_k (fun K_h0 h0 => ?_)
    refine T.regi hm ?_
    simp only [↓reduceIte, namesOf, List.any, I.names, aopsI, astep, ev, setd, List.set, List.getD, List.getElem?_cons_zero, List.getElem?_cons_succ, then_normal, Option.getD_some, Bool.or_false, Bool.false_eq_true, up_zero, Nat.reduceAdd, binv, ↓opt_def, ldc, eq_self, hr4, e4]
    refine h0 _ _ ?_
    try clear h0 K_h0
    refine T.cond rfl (fun _ => ?_) (fun h => by cases h)
    refine T.seq_k (fun K_h0 h0 => ?_)
    refine T.regi hm ?_
    simp only [↓reduceIte, namesOf, List.any, I.names, aopsI, astep, ev, setd, List.set, then_normal, Bool.or_false, Bool.false_eq_true, up_zero]
    refine h0 _ _ ?_
    try clear h0 K_h0
    refine T.ret (Fin.likeset (r := rd l .none s.at_ s.at_) wf rfl (Wk.sl _ _) (by rw [hσ4]; exact .refl _) hr ⟨trivial, trivial⟩ (nb_rd _ _ _ _) ⟨?_, ?_⟩)
    · rw [hX, hXb, decide_eq_true hm2, Bool.or_true]; rfl
    · rw [hXN, if_neg hb', if_pos hm2]; rfl
  · have e3 : decide ((m : Int) > (l.length : Int) - s2.at_) = false := decide_eq_false hm2
    refine T.seq_k (fun K_h0 h0 => ?_)
    refine T.regi hm ?_
    simp only [↓reduceIte, namesOf, List.any, I.names, aopsI, astep, ev, setd, List.set, List.getD, List.getElem?_cons_zero, List.getElem?_cons_succ, then_normal, Option.getD_some, Bool.or_false, Bool.false_eq_true, up_zero, Nat.reduceAdd, binv, ↓opt_def, ldc, List.map_cons, List.map_nil, eq_self, hr2, e2, e1]
    refine (wleft_ok b1 b2 b3 hr2').mono ?_
    rintro v σ2 ⟨rfl, rfl⟩
    try simp only [↓reduceIte, eq_self, e3]
    refine h0 _ _ ?_
    try clear h0 K_h0
    refine T.cond rfl (fun h => by cases h) (fun _ => T.skip ?_)
    refine h1 _ _ ?_
    try clear h1 K_h1
    have e4 : (s2.bad != -1) = false := by simpa using hbad
    refine T.seq_k (fun K_h1 h1 => ?_)
    refine T.seq_k (fun K_h0 h0 => ?_)
    refine T.regi hm ?_
    simp only [↓reduceIte, namesOf, List.any, I.names, aopsI, astep, ev, setd, List.set, List.getD, List.getElem?_cons_zero, List.getElem?_cons_succ, then_normal, Option.getD_some, Bool.or_false, Bool.false_eq_true, up_zero, Nat.reduceAdd, binv, ↓opt_def, ldc, eq_self, hr2, e4]
    refine h0 _ _ ?_
    try clear h0 K_h0
    refine T.cond rfl (fun h => by cases h) (fun _ => T.skip ?_)
    refine h1 _ _ ?_
    try clear h1 K_h1
    refine T.seq_k (fun K_h1 h1 => ?_)
    refine T.regi hm ?_
    simp only [↓reduceIte, namesOf, List.any, I.names, aopsI, astep, ev, setd, List.set, List.getD, List.getElem?_cons_zero, List.getElem?_cons_succ, List.nil_append, List.length_cons, List.length_nil, then_normal, Option.getD_some, Bool.or_false, Bool.or_true, Nat.reduceAdd, List.map_cons, List.map_nil, eq_self, held, List.all_nil]
    have L1 : Like σ2 ((σ2.up 6).set (σ2.next + 0) (Res.tip 1)) := (Like.refl σ2).box _
    have hn2 : n < σ2.next := by rw [← hσ2]; exact hn0
    have u1 : ((σ2.up 6).set (σ2.next + 0) (Res.tip 1)).res n = some (rd l .none s2.at_ s2.bad) := by rw [St.set_other _ _ (by omega)]; exact hr2'
    refine (wtake_ok ⟨b1, b2, b3⟩ (by omega) u1).mono ?_
    rintro v t4 (⟨_, rfl, rfl⟩ | ⟨hno, _⟩)
    case inr => exact absurd ⟨hbad, by omega⟩ hno
    have L2 := L1.put n (rd l .none (s2.at_ + m) s2.bad)
    have L3 : Like (σ2.set n (rd l .none (s2.at_ + m) s2.bad)) (((((σ2.up 6).set (σ2.next + 0) (Res.tip 1)).set n (rd l .none (s2.at_ + m) s2.bad)).del (σ2.next + 0)).set (σ2.next + 4) (.tip 1)) :=
      (L2.del (n := σ2.next + 0) (Nat.le_refl _)).set _ (Nat.le_add_right _ _)
    have u2 : (((σ2.up 6).set (σ2.next + 0) (Res.tip 1)).set n (rd l .none (s2.at_ + m) s2.bad)).res (σ2.next + 0) = some (.tip 1) := by rw [St.set_other _ _ (by omega)]; simp
    have hlen : ((l.drop s2.at_.toNat).take m).length ≤ 65536 := by rw [List.length_take]; omega
    have hle : decide ((0 + ((l.drop s2.at_.toNat).take m).length) * 1 ≤ 70368744177664 ∧ 0 + ((l.drop s2.at_.toNat).take m).length ≤ 4611686018427387904) = true := app_le (by omega)
    generalize hV : (l.drop s2.at_.toNat).take m = V at hlen hle ⊢
    try simp only [↓reduceIte, eq_self, srcOf, bytesAV_er, bytes_all, bytesAV_len, Bool.and_self, u2, hle]
    refine h1 _ _ ?_
    try clear h1 K_h1
    refine T.ret (Fin.likeset (r := rd l .none (s2.at_ + m) s2.bad) wf rfl (Wk.sl _ _) (by rw [← hσ2, St.set_set] at L3; rw [← hσ2]; exact L3) hr ⟨nb_bytes _ _, trivial⟩ (nb_rd _ _ _ _) ⟨?_, ?_⟩)
    · rw [hX, hXb, decide_eq_false hb', decide_eq_false hm2, ← hV]; rfl
    · rw [hXN, if_neg hb', if_neg hm2, hbad]; rfl

set_option maxRecDepth 10000 in
set_option maxHeartbeats 1000000 in
theorem rtextR_ok {l : List UInt8} {s : Rs} {n : Nat} {σ : St} (hd : s.ok l) (hr : σ.res n = some (rdS l .none s)) :
    ACalls Try.prog n_rtextR [.ptr n 0, .int .i64 65535] σ (fun v σ' => v = .sl (bytesAV (rX l s)) .none ∧ σ' = σ.set n (rdS l .none (rXN l s))) := by
  refine s_rtextR (fun wf => ?_)
  unfold c_rtextR
  have hr' : σ.res n = some (.obj [.sl (bytesAV l) .none, .int .i64 s.at_, .int .i64 s.bad]) := hr
  have h2 := rN_ok (w := 2) hd
  have hN := rW_lt (w := 2) hd
  have eN : IntKind.i64.wrap (rW l s 2 : Int) = (rW l s 2 : Int) := wrap64 (by omega) (by omega)
  obtain ⟨⟨b1, b2, b3⟩, b4⟩ := h2
  have hn0 := wf.lt hr
  refine T.seq_k (fun K_h0 h0 => ?_)
  refine T.regi hm ?_
  simp only [↓reduceIte, namesOf, List.any, I.names, aopsI, astep, ev, setd, List.set, List.cons_append, List.nil_append, List.length_cons, List.length_nil, List.replicate, then_normal, Bool.or_false, Bool.false_eq_true, up_zero, Nat.reduceAdd, Nat.reduceSub]
  refine h0 _ _ ?_
  try clear h0 K_h0
  refine T.seq_k (fun K_h0 h0 => ?_)
  refine T.regi hm ?_
  simp only [↓reduceIte, namesOf, List.any, I.names, aopsI, astep, ev, setd, List.set, List.getD, List.getElem?_cons_zero, List.getElem?_cons_succ, then_normal, Option.getD_some, Bool.or_false, Bool.false_eq_true, up_zero, Nat.reduceAdd, ↓opt_def, ldc, hr']
  refine h0 _ _ ?_
  try clear h0 K_h0
  refine T.seq_k (fun K_h1 h1 => ?_)
  refine T.regi hm ?_
  simp only [↓reduceIte, namesOf, List.any, I.names, aopsI, astep, ev, setd, List.set, List.getD, List.getElem?_cons_zero, List.getElem?_cons_succ, then_normal, Option.getD_some, Bool.or_false, Bool.false_eq_true, up_zero, List.map_cons, List.map_nil]
  refine (rwordF hd rfl hr).mono ?_
  rintro v σ1 ⟨rfl, rfl⟩
  try simp only [eN]
  refine h1 _ _ ?_
  try clear h1 K_h1
  generalize hS : rN l s 2 = s2 at b2 b3 b4
  generalize hM : rW l s 2 = m at hN
  have hr2 : (σ.set n (rdS l .none s2)).res n = some (.obj [.sl (bytesAV l) .none, .int .i64 s2.at_, .int .i64 s2.bad]) := St.set_same _ _ _
  generalize hσ2 : σ.set n (rdS l .none s2) = t2 at hr2 ⊢
  have hXb : rXbad l s = (decide (s2.bad ≠ -1) || decide ((m : Int) > l.length - s2.at_)) := by unfold rXbad; rw [hS, hM]
  have hXN : rXN l s = if s2.bad ≠ -1 then s2 else if (m : Int) > l.length - s2.at_ then ⟨s.at_, s.at_⟩ else ⟨s2.at_ + m, -1⟩ := by unfold rXN; rw [hS, hM]
  have hX : rX l s = if rXbad l s then [] else (l.drop s2.at_.toNat).take m := by unfold rX; rw [hS, hM]
  have e1 : decide ((m : Int) > 65535) = false := decide_eq_false (by omega)
  refine T.seq_k (fun K_h1 h1 => ?_)
  by_cases hbad : s2.bad = -1
  case neg =>
    have e3 : decide (s2.bad ≥ 0) = true := decide_eq_true (by omega)
    refine T.seq_k (fun K_h0 h0 => ?_)
    refine T.regi hm ?_
    simp only [↓reduceIte, namesOf, List.any, I.names, aopsI, astep, ev, setd, List.set, List.getD, List.getElem?_cons_zero, List.getElem?_cons_succ, then_normal, Option.getD_some, Bool.or_false, Bool.false_eq_true, up_zero, Nat.reduceAdd, binv, ↓opt_def, ldc, eq_self, hr2, e3]
    refine h0 _ _ ?_
    try clear h0 K_h0
    refine T.cond rfl (fun _ => ?_) (fun h => by cases h)
    refine T.seq_k (fun K_h0 h0 => ?_)
    refine T.regi hm ?_
    simp only [↓reduceIte, namesOf, List.any, I.names, aopsI, astep, ev, setd, List.set, then_normal, Bool.or_false, Bool.false_eq_true, up_zero]
    refine h0 _ _ ?_
    try clear h0 K_h0
    have hb' : s2.bad ≠ -1 := hbad
    refine T.ret (Fin.likeset (r := rdS l .none s2) wf rfl (Wk.sl _ _) (by rw [hσ2]; exact .refl _) hr ⟨trivial, trivial⟩ (nb_rd _ _ _ _) ⟨?_, ?_⟩)
    · rw [hX, hXb, decide_eq_true hb']; rfl
    · rw [hXN, if_pos hb']
  have e3 : decide (s2.bad ≥ 0) = false := decide_eq_false (by omega)
  have hb' : ¬ s2.bad ≠ -1 := fun h => h hbad
  refine T.seq_k (fun K_h0 h0 => ?_)
  refine T.regi hm ?_
  simp only [↓reduceIte, namesOf, List.any, I.names, aopsI, astep, ev, setd, List.set, List.getD, List.getElem?_cons_zero, List.getElem?_cons_succ, then_normal, Option.getD_some, Bool.or_false, Bool.false_eq_true, up_zero, Nat.reduceAdd, binv, ↓opt_def, ldc, eq_self, hr2, e3]
  refine h0 _ _ ?_
  try clear h0 K_h0
  refine T.cond rfl (fun h => by cases h) (fun _ => T.skip ?_)
  refine h1 _ _ ?_
  try clear h1 K_h1
  have e4 : IntKind.i64.wrap (s2.at_ + (m : Int)) = s2.at_ + m := wrap64 (by omega) (by omega)
  refine T.seq_k (fun K_h1 h1 => ?_)
  by_cases hm2 : (m : Int) > l.length - s2.at_
  · have e5 : decide (s2.at_ + (m : Int) > (l.length : Int)) = true := decide_eq_true (by omega)
    refine T.seq_k (fun K_h0 h0 => ?_)
    refine T.regi hm ?_
    simp only [↓reduceIte, namesOf, List.any, I.names, aopsI, astep, ev, setd, List.set, List.getD, List.getElem?_cons_zero, List.getElem?_cons_succ, then_normal, Option.getD_some, Bool.or_false, Bool.false_eq_true, up_zero, Nat.reduceAdd, binv, ↓opt_def, ldc, eq_self, hr2, e1, e4, bytesAV_len, e5]
    refine h0 _ _ ?_
    try clear h0 K_h0
    refine T.cond rfl (fun _ => ?_) (fun h => by cases h)
    refine T.seq_k (fun K_h0 h0 => ?_)
    refine T.regi hm ?_
    simp only [↓reduceIte, namesOf, List.any, I.names, aopsI, astep, ev, setd, List.set, List.getD, List.getElem?_cons_zero, List.getElem?_cons_succ, List.cons_append, List.nil_append, List.length_cons, List.length_nil, then_normal, Option.getD_some, Bool.or_false, Bool.false_eq_true, up_zero, Nat.reduceAdd, AV.isAny, AV.cells, eq_self, decide_true, hr2, AV.fits, AV.one, List.all_cons, List.all_nil, Nat.reduceBEq, Bool.not_false, Bool.and_self, Nat.zero_add, splice, List.take, List.drop, Nat.reduceLeDiff]
    refine h0 _ _ ?_
    try clear h0 K_h0
    have hr3 : (t2.set n (.obj [.sl (bytesAV l) .none, .int .i64 s.at_, .int .i64 s2.bad])).res n = some (.obj [.sl (bytesAV l) .none, .int .i64 s.at_, .int .i64 s2.bad]) := St.set_same _ _ _
    refine T.seq_k (fun K_h0 h0 => ?_)
    refine T.regi hm ?_
    simp only [↓reduceIte, namesOf, List.any, I.names, aopsI, astep, ev, setd, List.set, List.getD, List.getElem?_cons_zero, List.getElem?_cons_succ, List.cons_append, List.nil_append, List.length_cons, List.length_nil, then_normal, Option.getD_some, Bool.or_false, Bool.false_eq_true, up_zero, Nat.reduceAdd, AV.isAny, AV.cells, St.set_same, eq_self, decide_true, AV.fits, AV.one, List.all_cons, List.all_nil, Nat.reduceBEq, Bool.not_false, Bool.and_self, Nat.zero_add, splice, List.take, List.drop, Nat.reduceLeDiff, St.set_set]
    refine h0 _ _ ?_
    try clear h0 K_h0
    refine T.seq_k (fun K_h0 h0 => ?_)
    refine T.regi hm ?_
    simp only [↓reduceIte, namesOf, List.any, I.names, aopsI, astep, ev, setd, List.set, then_normal, Bool.or_false, Bool.false_eq_true, up_zero]
    refine h0 _ _ ?_
    try clear h0 K_h0
    refine T.ret (Fin.likeset (r := rd l .none s.at_ s.at_) wf rfl (Wk.sl _ _) (by rw [← hσ2, St.set_set]; exact .refl _) hr ⟨trivial, trivial⟩ (nb_rd _ _ _ _) ⟨?_, ?_⟩)
    · rw [hX, hXb, decide_eq_true hm2, Bool.or_true]; rfl
    · rw [hXN, if_neg hb', if_pos hm2]; rfl
  · have e5 : decide (s2.at_ + (m : Int) > (l.length : Int)) = false := decide_eq_false (by omega)
    refine T.seq_k (fun K_h0 h0 => ?_)
    refine T.regi hm ?_
    simp only [↓reduceIte, namesOf, List.any, I.names, aopsI, astep, ev, setd, List.set, List.getD, List.getElem?_cons_zero, List.getElem?_cons_succ, then_normal, Option.getD_some, Bool.or_false, Bool.false_eq_true, up_zero, Nat.reduceAdd, binv, ↓opt_def, ldc, eq_self, hr2, e1, e4, bytesAV_len, e5]
    refine h0 _ _ ?_
    try clear h0 K_h0
    refine T.cond rfl (fun h => by cases h) (fun _ => T.skip ?_)
    refine h1 _ _ ?_
    try clear h1 K_h1
    have e6 : 0 ≤ s2.at_ ∧ s2.at_ ≤ s2.at_ + (m : Int) ∧ s2.at_ + (m : Int) ≤ (l.length : Int) := by omega
    have e7 : (s2.at_ + (m : Int) - s2.at_).toNat = m := by omega
    have hlen : ((l.drop s2.at_.toNat).take m).length ≤ 65536 := by rw [List.length_take]; omega
    have hle : decide ((0 + ((l.drop s2.at_.toNat).take m).length) * 1 ≤ 70368744177664 ∧ 0 + ((l.drop s2.at_.toNat).take m).length ≤ 4611686018427387904) = true := app_le (by omega)
    have hle2 : decide (((l.drop s2.at_.toNat).take m).length * 1 ≤ 70368744177664 ∧ ((l.drop s2.at_.toNat).take m).length ≤ 4611686018427387904) = true := decide_eq_true (by omega)
    have hVb : (bytesAV ((l.drop s2.at_.toNat).take m)).isEmpty = ((l.drop s2.at_.toNat).take m).isEmpty := by cases (l.drop s2.at_.toNat).take m <;> rfl
    have hr2u : ∀ k, (t2.up k).res n = some (.obj [.sl (bytesAV l) .none, .int .i64 s2.at_, .int .i64 s2.bad]) := fun _ => hr2
    have hn2 : n < t2.next := by rw [← hσ2]; exact hn0
    refine T.seq_k (fun K_h1 h1 => ?_)
    have fin : ∀ (v : AV) (t3 : St), t3.res n = some (.obj [.sl (bytesAV l) .none, .int .i64 s2.at_, .int .i64 s2.bad]) → Like t2 t3 → (∃ gg, v = .sl (bytesAV ((l.drop s2.at_.toNat).take m)) gg) → ∀ ρ', keep [0, 6, 7] 0 ρ' = [.ptr n 0, .any, .any, .any, .any, .any, .int .i64 m, v] ++ List.replicate 64 .any → K_h1 ρ' t3 := by
      rintro v t3 g0 g2 ⟨gg, rfl⟩ ρ' hρ
      refine h1 _ _ ?_
      try clear h1 K_h1
      refine T.gh (Gh.keep [0, 6, 7]) ?_
      rw [hρ]
      refine T.seq_k (fun K_h1 h1 => ?_)
      refine T.regi hm ?_
      simp only [↓reduceIte, namesOf, List.any, I.names, aopsI, astep, ev, setd, List.set, List.getD, List.getElem?_cons_zero, List.getElem?_cons_succ, List.cons_append, List.nil_append, List.length_cons, List.length_nil, List.replicate, then_normal, Option.getD_some, Bool.or_false, Bool.false_eq_true, up_zero, Nat.reduceAdd, binv, ↓opt_def, AV.isAny, AV.cells, ldc, eq_self, decide_true, g0, e4, AV.fits, AV.one, List.all_cons, List.all_nil, Nat.reduceBEq, Bool.not_false, Bool.and_self, Nat.zero_add, splice, List.take, List.drop, Nat.reduceLeDiff]
      refine h1 _ _ ?_
      try clear h1 K_h1
      refine T.seq_k (fun K_h0 h0 => ?_)
      refine T.regi hm ?_
      simp only [↓reduceIte, namesOf, List.any, I.names, aopsI, astep, ev, setd, List.set, List.getD, List.getElem?_cons_zero, List.getElem?_cons_succ, then_normal, Option.getD_some, Bool.or_false, Bool.false_eq_true, up_zero]
      refine h0 _ _ ?_
      try clear h0 K_h0
      have L3 := g2.put n (rd l .none (s2.at_ + m) s2.bad)
      refine T.ret (Fin.likeset (r := rd l .none (s2.at_ + m) s2.bad) wf rfl (Wk.sl _ _) (by rw [← hσ2, St.set_set] at L3; exact L3) hr ⟨nb_bytes _ _, trivial⟩ (nb_rd _ _ _ _) ⟨?_, ?_⟩)
      · rw [hX, hXb, decide_eq_false hb', decide_eq_false hm2]; rfl
      · rw [hXN, if_neg hb', if_neg hm2, hbad]; rfl
    clear h1
    generalize hV : (l.drop s2.at_.toNat).take m = V at hlen hle hle2 hVb fin
    have e8 : (bytesAV (l.drop s2.at_.toNat)).take m = bytesAV V := by rw [bytes_take, hV]
    cases hVe : V.isEmpty with
    | true =>
      rw [hVe] at hVb
      refine T.regi hm ?_
      simp only [↓reduceIte, namesOf, List.any, I.names, aopsI, astep, ev, setd, List.set, List.getD, List.getElem?_cons_zero, List.getElem?_cons_succ, List.nil_append, List.length_cons, List.length_nil, then_normal, Option.getD_some, Bool.or_false, Bool.or_true, Nat.reduceAdd, binv, ↓opt_def, ldc, and_true, eq_self, hr2u, e4, idx, bytesAV_len, bytes_all, e6, e7, bytes_drop, e8, ite_self, List.isEmpty_nil, srcOf, bytesAV_er, Bool.and_self, hVb, Nat.zero_add, hle2, List.nil_append]
      exact fin _ (t2.up _) hr2 ((Like.refl t2).up _) ⟨_, rfl⟩ _ rfl
    | false =>
      rw [hVe] at hVb
      refine T.regi hm ?_
      simp only [↓reduceIte, namesOf, List.any, I.names, aopsI, astep, ev, setd, List.set, List.getD, List.getElem?_cons_zero, List.getElem?_cons_succ, List.nil_append, List.length_cons, List.length_nil, then_normal, Option.getD_some, Bool.or_false, Bool.or_true, Bool.false_eq_true, Nat.reduceAdd, binv, ↓opt_def, ldc, and_true, eq_self, hr2u, e4, idx, bytesAV_len, bytes_all, e6, e7, bytes_drop, e8, ite_self, List.isEmpty_nil, srcOf, bytesAV_er, Bool.and_self, hVb, Nat.zero_add, hle2, List.nil_append]
      exact fin _ _ (by rw [St.set_other _ _ (by omega)]; exact hr2) ((Like.refl t2).box _) ⟨_, rfl⟩ _ rfl
end Go.VL
