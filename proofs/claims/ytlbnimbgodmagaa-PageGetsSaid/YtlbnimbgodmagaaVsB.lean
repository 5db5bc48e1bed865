/- Contracts: the document's answer for spans, compared. -/
import Derived.Test.YtlbnimbgodmagaaVsA
import Derived.Test.YtlbnimbgodmagaaVrE
namespace Go.VL
open Go.Proofs

theorem rmay_ok {t i : AV} {s e : Int} {xs : List AV} {g : Ver} {σ : St} : ACalls Try.prog n_rmay [.agg [t, i, .int .i64 s, .int .i64 e, .sl xs g]] σ (fun v σ' => v = .bool (mayI s e xs.length) ∧ σ' = σ) := by
  refine s_rmay (fun wf => ?_)
  unfold c_rmay
  refine T.seq_k (fun K_h1 h1 => ?_)
  refine T.regi hm ?_
  simp only [↓reduceIte, namesOf, List.any, I.names, aopsI, astep, ev, setd, List.set, List.getD, List.getElem?_cons_zero, List.cons_append, List.nil_append, List.length_cons, List.length_nil, List.replicate, then_normal, Option.getD_some, Bool.or_false, Bool.false_eq_true, Nat.reduceAdd, Nat.reduceSub, AV.isAny, AV.cells, eq_self]
  have h0 : ((σ.up 2).set (σ.next + 0) (.obj [t, i, .int .i64 s, .int .i64 e, .sl xs g])).res (σ.next + 0) = some (.obj [t, i, .int .i64 s, .int .i64 e, .sl xs g]) := by simp
  have hq := set1_quiet wf (k := 2) (.obj [t, i, .int .i64 s, .int .i64 e, .sl xs g]) (a := σ.next + 0) (by omega)
  generalize ((σ.up 2).set (σ.next + 0) (.obj [t, i, .int .i64 s, .int .i64 e, .sl xs g])) = σ1 at h0 hq ⊢
  refine h1 _ _ ?_
  try clear h1 K_h1
  refine T.seq_k (fun K_h1 h1 => ?_)
  by_cases c1 : 0 ≤ s
  case neg =>
    have e1 : decide (s ≥ 0) = false := decide_eq_false (by omega)
    refine T.regi hm ?_
    simp only [↓reduceIte, namesOf, List.any, I.names, aopsI, astep, ev, setd, List.set, List.getD, List.getElem?_cons_zero, List.getElem?_cons_succ, then_normal, Option.getD_some, Bool.or_false, Bool.false_eq_true, up_zero, Nat.reduceAdd, binv, ↓opt_def, ldc, eq_self, h0, e1]
    refine h1 _ _ ?_
    try clear h1 K_h1
    exact T.ret (Fin.quiet rfl trivial hq ⟨by simp [pack, mayI, c1], rfl⟩)
  have e1 : decide (s ≥ 0) = true := decide_eq_true c1
  by_cases c2 : s ≤ e
  case neg =>
    have e2 : decide (s ≤ e) = false := decide_eq_false c2
    refine T.regi hm ?_
    simp only [↓reduceIte, namesOf, List.any, I.names, aopsI, astep, ev, setd, List.set, List.getD, List.getElem?_cons_zero, List.getElem?_cons_succ, then_normal, Option.getD_some, Bool.or_false, Bool.false_eq_true, up_zero, Nat.reduceAdd, binv, ↓opt_def, ldc, eq_self, h0, e1, e2]
    refine h1 _ _ ?_
    try clear h1 K_h1
    exact T.ret (Fin.quiet rfl trivial hq ⟨by simp [pack, mayI, c2], rfl⟩)
  have e2 : decide (s ≤ e) = true := decide_eq_true c2
  by_cases c3 : e ≤ 1099511627776
  case neg =>
    have e3 : decide (e ≤ 1099511627776) = false := decide_eq_false c3
    refine T.regi hm ?_
    simp only [↓reduceIte, namesOf, List.any, I.names, aopsI, astep, ev, setd, List.set, List.getD, List.getElem?_cons_zero, List.getElem?_cons_succ, then_normal, Option.getD_some, Bool.or_false, Bool.false_eq_true, up_zero, Nat.reduceAdd, binv, ↓opt_def, ldc, eq_self, h0, e1, e2, e3]
    refine h1 _ _ ?_
    try clear h1 K_h1
    exact T.ret (Fin.quiet rfl trivial hq ⟨by simp [pack, mayI, c3], rfl⟩)
  have e3 : decide (e ≤ 1099511627776) = true := decide_eq_true c3
  refine T.regi hm ?_
  simp only [↓reduceIte, namesOf, List.any, I.names, aopsI, astep, ev, setd, List.set, List.getD, List.getElem?_cons_zero, List.getElem?_cons_succ, then_normal, Option.getD_some, Bool.or_false, Bool.false_eq_true, up_zero, Nat.reduceAdd, binv, ↓opt_def, ldc, eq_self, h0, e1, e2, e3]
  refine h1 _ _ ?_
  try clear h1 K_h1
  exact T.ret (Fin.quiet rfl trivial hq ⟨by simp [pack, mayI, c1, c2, c3], rfl⟩)

abbrev spC (a : Sp) : List AV := [.int .u64 (a.tr : Int), .int .u64 (a.id : Int), .int .i64 a.st, .int .i64 a.en, .sl (bytesAV a.da) .none]

theorem box2 {σ : St} (wf : WF σ) (k : Nat) (r r' : Res) : (((σ.up k).set (σ.next + 0) r).set (σ.next + 1) r').res (σ.next + 0) = some r ∧ (((σ.up k).set (σ.next + 0) r).set (σ.next + 1) r').res (σ.next + 1) = some r' ∧
    ∀ n x, σ.res n = some x → (((σ.up k).set (σ.next + 0) r).set (σ.next + 1) r').res n = some x :=
  ⟨by rw [St.set_other _ _ (by omega)]; simp, by simp, set2_quiet wf r r' (by omega) (by omega)⟩

theorem rahead_ok {a b : Sp} {σ : St} : ACalls Try.prog n_rahead [.agg (spC a), .agg (spC b)] σ (fun v σ' => v = .bool (aheadS a b) ∧ σ' = σ) := by
  refine s_rahead (fun wf => ?_)
  unfold c_rahead
  refine T.seq_k (fun K_h1 h1 => ?_)
  refine T.regi hm ?_
  simp only [↓reduceIte, namesOf, List.any, I.names, aopsI, astep, ev, setd, List.set, List.getD, List.getElem?_cons_zero, List.getElem?_cons_succ, List.cons_append, List.nil_append, List.length_cons, List.length_nil, List.replicate, then_normal, Option.getD_some, Bool.or_false, Bool.or_true, Bool.false_eq_true, Nat.reduceAdd, Nat.reduceSub, AV.isAny, AV.cells, eq_self]
  obtain ⟨h0, h0', hq⟩ := box2 wf 3 (.obj (spC a)) (.obj (spC b))
  generalize (((σ.up 3).set (σ.next + 0) (.obj (spC a))).set (σ.next + 1) (.obj (spC b))) = σ1 at h0 h0' hq ⊢
  refine h1 _ _ ?_
  try clear h1 K_h1
  refine T.seq_k (fun K_h1 h1 => ?_)
  refine T.seq_k (fun K_h2 h2 => ?_)
  by_cases c1 : a.st = b.st
  case neg =>
    have e1 : (a.st != b.st) = true := by simpa using c1
    refine T.regi hm ?_
    simp only [↓reduceIte, namesOf, List.any, I.names, aopsI, astep, ev, setd, List.set, List.getD, List.getElem?_cons_zero, List.getElem?_cons_succ, then_normal, Option.getD_some, Bool.or_false, Bool.false_eq_true, up_zero, Nat.reduceAdd, binv, ↓opt_def, ldc, eq_self, h0, h0', e1]
    refine h2 _ _ ?_
    try clear h2 K_h2
    refine T.cond rfl (fun _ => ?_) (fun h => by cases h)
    refine T.seq_k (fun K_h2 h2 => ?_)
    refine T.regi hm ?_
    simp only [↓reduceIte, namesOf, List.any, I.names, aopsI, astep, ev, setd, List.set, List.getD, List.getElem?_cons_zero, List.getElem?_cons_succ, then_normal, Option.getD_some, Bool.or_false, Bool.false_eq_true, up_zero, Nat.reduceAdd, binv, ↓opt_def, ldc, eq_self, h0, h0']
    refine h2 _ _ ?_
    try clear h2 K_h2
    exact T.ret (Fin.quiet rfl trivial hq ⟨by simp [pack, aheadS, c1], rfl⟩)
  have e1 : (a.st != b.st) = false := by simpa using c1
  refine T.regi hm ?_
  simp only [↓reduceIte, namesOf, List.any, I.names, aopsI, astep, ev, setd, List.set, List.getD, List.getElem?_cons_zero, List.getElem?_cons_succ, then_normal, Option.getD_some, Bool.or_false, Bool.false_eq_true, up_zero, Nat.reduceAdd, binv, ↓opt_def, ldc, eq_self, h0, h0', e1]
  refine h2 _ _ ?_
  try clear h2 K_h2
  refine T.cond rfl (fun h => by cases h) (fun _ => T.skip ?_)
  refine h1 _ _ ?_
  try clear h1 K_h1
  refine T.seq_k (fun K_h1 h1 => ?_)
  refine T.seq_k (fun K_h2 h2 => ?_)
  by_cases c2 : a.id = b.id
  case neg =>
    have e2 : ((a.id : Int) != (b.id : Int)) = true := by simp; omega
    refine T.regi hm ?_
    simp only [↓reduceIte, namesOf, List.any, I.names, aopsI, astep, ev, setd, List.set, List.getD, List.getElem?_cons_zero, List.getElem?_cons_succ, then_normal, Option.getD_some, Bool.or_false, Bool.false_eq_true, up_zero, Nat.reduceAdd, binv, ↓opt_def, ldc, eq_self, h0, h0', e2]
    refine h2 _ _ ?_
    try clear h2 K_h2
    refine T.cond rfl (fun _ => ?_) (fun h => by cases h)
    refine T.seq_k (fun K_h2 h2 => ?_)
    refine T.regi hm ?_
    simp only [↓reduceIte, namesOf, List.any, I.names, aopsI, astep, ev, setd, List.set, List.getD, List.getElem?_cons_zero, List.getElem?_cons_succ, then_normal, Option.getD_some, Bool.or_false, Bool.false_eq_true, up_zero, Nat.reduceAdd, binv, ↓opt_def, ldc, eq_self, h0, h0']
    refine h2 _ _ ?_
    try clear h2 K_h2
    exact T.ret (Fin.quiet rfl trivial hq ⟨by simp [pack, aheadS, c1, c2], rfl⟩)
  have e2 : ((a.id : Int) != (b.id : Int)) = false := by simp; omega
  refine T.regi hm ?_
  simp only [↓reduceIte, namesOf, List.any, I.names, aopsI, astep, ev, setd, List.set, List.getD, List.getElem?_cons_zero, List.getElem?_cons_succ, then_normal, Option.getD_some, Bool.or_false, Bool.false_eq_true, up_zero, Nat.reduceAdd, binv, ↓opt_def, ldc, eq_self, h0, h0', e2]
  refine h2 _ _ ?_
  try clear h2 K_h2
  refine T.cond rfl (fun h => by cases h) (fun _ => T.skip ?_)
  refine h1 _ _ ?_
  try clear h1 K_h1
  refine T.seq_k (fun K_h1 h1 => ?_)
  refine T.regi hm ?_
  simp only [↓reduceIte, namesOf, List.any, I.names, aopsI, astep, ev, setd, List.set, List.getD, List.getElem?_cons_zero, List.getElem?_cons_succ, then_normal, Option.getD_some, Bool.or_false, Bool.false_eq_true, up_zero, Nat.reduceAdd, binv, ↓opt_def, ldc, eq_self, h0, h0']
  refine h1 _ _ ?_
  try clear h1 K_h1
  exact T.ret (Fin.quiet rfl trivial hq ⟨by simp [pack, aheadS, c1, c2], rfl⟩)

theorem rless_ok {a b : Sp} {σ : St} : ACalls Try.prog n_rless [.agg (spC a), .agg (spC b)] σ (fun v σ' => v = .bool (lessS a b) ∧ σ' = σ) := by
  refine s_rless (fun wf => ?_)
  unfold c_rless
  refine T.seq_k (fun K_h1 h1 => ?_)
  refine T.regi hm ?_
  simp only [↓reduceIte, namesOf, List.any, I.names, aopsI, astep, ev, setd, List.set, List.getD, List.getElem?_cons_zero, List.getElem?_cons_succ, List.cons_append, List.nil_append, List.length_cons, List.length_nil, List.replicate, then_normal, Option.getD_some, Bool.or_false, Bool.or_true, Bool.false_eq_true, Nat.reduceAdd, Nat.reduceSub, AV.isAny, AV.cells, eq_self]
  obtain ⟨h0, h0', hq⟩ := box2 wf 3 (.obj (spC a)) (.obj (spC b))
  generalize (((σ.up 3).set (σ.next + 0) (.obj (spC a))).set (σ.next + 1) (.obj (spC b))) = σ1 at h0 h0' hq ⊢
  refine h1 _ _ ?_
  try clear h1 K_h1
  refine T.seq_k (fun K_h1 h1 => ?_)
  refine T.seq_k (fun K_h2 h2 => ?_)
  by_cases c1 : a.st = b.st
  case neg =>
    have e1 : (a.st != b.st) = true := by simpa using c1
    refine T.regi hm ?_
    simp only [↓reduceIte, namesOf, List.any, I.names, aopsI, astep, ev, setd, List.set, List.getD, List.getElem?_cons_zero, List.getElem?_cons_succ, then_normal, Option.getD_some, Bool.or_false, Bool.false_eq_true, up_zero, Nat.reduceAdd, binv, ↓opt_def, ldc, eq_self, h0, h0', e1]
    refine h2 _ _ ?_
    try clear h2 K_h2
    refine T.cond rfl (fun _ => ?_) (fun h => by cases h)
    refine T.seq_k (fun K_h2 h2 => ?_)
    refine T.regi hm ?_
    simp only [↓reduceIte, namesOf, List.any, I.names, aopsI, astep, ev, setd, List.set, List.getD, List.getElem?_cons_zero, List.getElem?_cons_succ, then_normal, Option.getD_some, Bool.or_false, Bool.false_eq_true, up_zero, Nat.reduceAdd, binv, ↓opt_def, ldc, eq_self, h0, h0']
    refine h2 _ _ ?_
    try clear h2 K_h2
    exact T.ret (Fin.quiet rfl trivial hq ⟨by simp [pack, lessS, c1], rfl⟩)
  have e1 : (a.st != b.st) = false := by simpa using c1
  refine T.regi hm ?_
  simp only [↓reduceIte, namesOf, List.any, I.names, aopsI, astep, ev, setd, List.set, List.getD, List.getElem?_cons_zero, List.getElem?_cons_succ, then_normal, Option.getD_some, Bool.or_false, Bool.false_eq_true, up_zero, Nat.reduceAdd, binv, ↓opt_def, ldc, eq_self, h0, h0', e1]
  refine h2 _ _ ?_
  try clear h2 K_h2
  refine T.cond rfl (fun h => by cases h) (fun _ => T.skip ?_)
  refine h1 _ _ ?_
  try clear h1 K_h1
  refine T.seq_k (fun K_h1 h1 => ?_)
  refine T.seq_k (fun K_h2 h2 => ?_)
  by_cases c2 : a.en = b.en
  case neg =>
    have e2 : (a.en != b.en) = true := by simpa using c2
    refine T.regi hm ?_
    simp only [↓reduceIte, namesOf, List.any, I.names, aopsI, astep, ev, setd, List.set, List.getD, List.getElem?_cons_zero, List.getElem?_cons_succ, then_normal, Option.getD_some, Bool.or_false, Bool.false_eq_true, up_zero, Nat.reduceAdd, binv, ↓opt_def, ldc, eq_self, h0, h0', e2]
    refine h2 _ _ ?_
    try clear h2 K_h2
    refine T.cond rfl (fun _ => ?_) (fun h => by cases h)
    refine T.seq_k (fun K_h2 h2 => ?_)
    refine T.regi hm ?_
    simp only [↓reduceIte, namesOf, List.any, I.names, aopsI, astep, ev, setd, List.set, List.getD, List.getElem?_cons_zero, List.getElem?_cons_succ, then_normal, Option.getD_some, Bool.or_false, Bool.false_eq_true, up_zero, Nat.reduceAdd, binv, ↓opt_def, ldc, eq_self, h0, h0']
    refine h2 _ _ ?_
    try clear h2 K_h2
    exact T.ret (Fin.quiet rfl trivial hq ⟨by simp [pack, lessS, c1, c2], rfl⟩)
  have e2 : (a.en != b.en) = false := by simpa using c2
  refine T.regi hm ?_
  simp only [↓reduceIte, namesOf, List.any, I.names, aopsI, astep, ev, setd, List.set, List.getD, List.getElem?_cons_zero, List.getElem?_cons_succ, then_normal, Option.getD_some, Bool.or_false, Bool.false_eq_true, up_zero, Nat.reduceAdd, binv, ↓opt_def, ldc, eq_self, h0, h0', e2]
  refine h2 _ _ ?_
  try clear h2 K_h2
  refine T.cond rfl (fun h => by cases h) (fun _ => T.skip ?_)
  refine h1 _ _ ?_
  try clear h1 K_h1
  refine T.seq_k (fun K_h1 h1 => ?_)
  refine T.regi hm ?_
  simp only [↓reduceIte, namesOf, List.any, I.names, aopsI, astep, ev, setd, List.set, List.getD, List.getElem?_cons_zero, List.getElem?_cons_succ, then_normal, Option.getD_some, Bool.or_false, Bool.false_eq_true, up_zero, Nat.reduceAdd, ↓opt_def, ldc, h0, h0', toBytes_bytes, sbinv]
  refine h1 _ _ ?_
  try clear h1 K_h1
  refine T.ret (Fin.quiet rfl trivial hq ⟨?_, rfl⟩)
  have eb : ∀ l : List UInt8, (⟨l.toArray⟩ : ByteArray).toList = l := fun l => by rw [ByteArray.toList_eq]
  simp [pack, lessS, c1, c2, eb]

theorem sp_eq {a b : Sp} : a = b ↔ a.tr = b.tr ∧ a.id = b.id ∧ a.st = b.st ∧ a.en = b.en ∧ a.da = b.da := by
  obtain ⟨a1, a2, a3, a4, a5⟩ := a
  obtain ⟨b1, b2, b3, b4, b5⟩ := b
  simp

theorem rsame_ok {a b : Sp} {σ : St} : ACalls Try.prog n_rsame [.agg (spC a), .agg (spC b)] σ (fun v σ' => v = .bool (decide (a = b)) ∧ σ' = σ) := by
  refine s_rsame (fun wf => ?_)
  unfold c_rsame
  refine T.seq_k (fun K_h1 h1 => ?_)
  refine T.regi hm ?_
  simp only [↓reduceIte, namesOf, List.any, I.names, aopsI, astep, ev, setd, List.set, List.getD, List.getElem?_cons_zero, List.getElem?_cons_succ, List.cons_append, List.nil_append, List.length_cons, List.length_nil, List.replicate, then_normal, Option.getD_some, Bool.or_false, Bool.or_true, Bool.false_eq_true, Nat.reduceAdd, Nat.reduceSub, AV.isAny, AV.cells, eq_self]
  obtain ⟨h0, h0', hq⟩ := box2 wf 3 (.obj (spC a)) (.obj (spC b))
  generalize (((σ.up 3).set (σ.next + 0) (.obj (spC a))).set (σ.next + 1) (.obj (spC b))) = σ1 at h0 h0' hq ⊢
  refine h1 _ _ ?_
  try clear h1 K_h1
  refine T.seq_k (fun K_h1 h1 => ?_)
  have no : ¬ a = b → decide (a = b) = false := fun h => decide_eq_false h
  by_cases c1 : a.tr = b.tr
  case neg =>
    have e1 : ((a.tr : Int) == (b.tr : Int)) = false := by simp; omega
    refine T.regi hm ?_
    simp only [↓reduceIte, namesOf, List.any, I.names, aopsI, astep, ev, setd, List.set, List.getD, List.getElem?_cons_zero, List.getElem?_cons_succ, then_normal, Option.getD_some, Bool.or_false, Bool.false_eq_true, up_zero, Nat.reduceAdd, binv, ↓opt_def, ldc, eq_self, h0, h0', e1]
    refine h1 _ _ ?_
    try clear h1 K_h1
    exact T.ret (Fin.quiet rfl trivial hq ⟨by rw [no (fun h => c1 (by rw [h]))]; rfl, rfl⟩)
  have e1 : ((a.tr : Int) == (b.tr : Int)) = true := by simp; omega
  by_cases c2 : a.id = b.id
  case neg =>
    have e2 : ((a.id : Int) == (b.id : Int)) = false := by simp; omega
    refine T.regi hm ?_
    simp only [↓reduceIte, namesOf, List.any, I.names, aopsI, astep, ev, setd, List.set, List.getD, List.getElem?_cons_zero, List.getElem?_cons_succ, then_normal, Option.getD_some, Bool.or_false, Bool.false_eq_true, up_zero, Nat.reduceAdd, binv, ↓opt_def, ldc, eq_self, h0, h0', e1, e2]
    refine h1 _ _ ?_
    try clear h1 K_h1
    exact T.ret (Fin.quiet rfl trivial hq ⟨by rw [no (fun h => c2 (by rw [h]))]; rfl, rfl⟩)
  have e2 : ((a.id : Int) == (b.id : Int)) = true := by simp; omega
  by_cases c3 : a.st = b.st
  case neg =>
    have e3 : (a.st == b.st) = false := by simpa using c3
    refine T.regi hm ?_
    simp only [↓reduceIte, namesOf, List.any, I.names, aopsI, astep, ev, setd, List.set, List.getD, List.getElem?_cons_zero, List.getElem?_cons_succ, then_normal, Option.getD_some, Bool.or_false, Bool.false_eq_true, up_zero, Nat.reduceAdd, binv, ↓opt_def, ldc, eq_self, h0, h0', e1, e2, e3]
    refine h1 _ _ ?_
    try clear h1 K_h1
    exact T.ret (Fin.quiet rfl trivial hq ⟨by rw [no (fun h => c3 (by rw [h]))]; rfl, rfl⟩)
  have e3 : (a.st == b.st) = true := by simpa using c3
  by_cases c4 : a.en = b.en
  case neg =>
    have e4 : (a.en == b.en) = false := by simpa using c4
    refine T.regi hm ?_
    simp only [↓reduceIte, namesOf, List.any, I.names, aopsI, astep, ev, setd, List.set, List.getD, List.getElem?_cons_zero, List.getElem?_cons_succ, then_normal, Option.getD_some, Bool.or_false, Bool.false_eq_true, up_zero, Nat.reduceAdd, binv, ↓opt_def, ldc, eq_self, h0, h0', e1, e2, e3, e4]
    refine h1 _ _ ?_
    try clear h1 K_h1
    exact T.ret (Fin.quiet rfl trivial hq ⟨by rw [no (fun h => c4 (by rw [h]))]; rfl, rfl⟩)
  have e4 : (a.en == b.en) = true := by simpa using c4
  refine T.regi hm ?_
  simp only [↓reduceIte, namesOf, List.any, I.names, aopsI, astep, ev, setd, List.set, List.getD, List.getElem?_cons_zero, List.getElem?_cons_succ, then_normal, Option.getD_some, Bool.or_false, Bool.false_eq_true, up_zero, Nat.reduceAdd, binv, ↓opt_def, ldc, eq_self, h0, h0', e1, e2, e3, e4, toBytes_bytes, sbinv, ba_eq]
  refine h1 _ _ ?_
  try clear h1 K_h1
  refine T.ret (Fin.quiet rfl trivial hq ⟨?_, rfl⟩)
  have : decide (a = b) = decide (a.da = b.da) := by
    rw [decide_eq_decide, sp_eq]
    exact ⟨fun h => h.2.2.2.2, fun h => ⟨c1, c2, c3, c4, h⟩⟩
  rw [this]; rfl

theorem spC_inj {a b : Sp} (h : AV.agg (spC a) = .agg (spC b)) : a = b := spav_inj h
open Classical in
/-- a table of what a function of two spans comes to -/
noncomputable def g2S (f : Sp → Sp → AV) (args : List AV) : Option AV := if h : ∃ p : Sp × Sp, args = [.agg (spC p.1), .agg (spC p.2)] then some (f h.choose.1 h.choose.2) else none
theorem g2S_eq (f : Sp → Sp → AV) (a b : Sp) : g2S f [.agg (spC a), .agg (spC b)] = some (f a b) := by
  unfold g2S
  have hex : ∃ p : Sp × Sp, [AV.agg (spC a), .agg (spC b)] = [.agg (spC p.1), .agg (spC p.2)] := ⟨(a, b), rfl⟩
  rw [dif_pos hex]
  have hc := hex.choose_spec
  rw [List.cons.injEq, List.cons.injEq] at hc
  rw [← spC_inj hc.1, ← spC_inj hc.2.1]
theorem g2S_pure {n : Nat} {f : Sp → Sp → AV} (h : ∀ a b σ, ACalls Try.prog n [.agg (spC a), .agg (spC b)] σ (fun v σ' => v = f a b ∧ σ' = σ)) : PureC Try.prog n (g2S f) := by
  intro args σ v hv
  unfold g2S at hv
  split at hv
  · rename_i hex
    simp only [Option.some.injEq] at hv; subst hv
    have hc := hex.choose_spec
    generalize hex.choose = c at hc
    subst hc
    exact h _ _ _
  · cases hv
noncomputable def gLess : List AV → Option AV := g2S fun a b => .bool (lessS a b)
noncomputable def gSame : List AV → Option AV := g2S fun a b => .bool (decide (a = b))
noncomputable def gAhead : List AV → Option AV := g2S fun a b => .bool (aheadS a b)
theorem gLess_eq (a b : Sp) : gLess [.agg (spC a), .agg (spC b)] = some (.bool (lessS a b)) := g2S_eq _ a b
theorem gSame_eq (a b : Sp) : gSame [.agg (spC a), .agg (spC b)] = some (.bool (decide (a = b))) := g2S_eq _ a b
theorem gAhead_eq (a b : Sp) : gAhead [.agg (spC a), .agg (spC b)] = some (.bool (aheadS a b)) := g2S_eq _ a b
noncomputable def tG : Tbl := [(n_rless, gLess), (n_rsame, gSame), (n_rahead, gAhead)]
theorem tG_ok : tG.ok Try.prog := Tbl.ok_cons (g2S_pure fun _ _ _ => rless_ok) (Tbl.ok_cons (g2S_pure fun _ _ _ => rsame_ok) (Tbl.ok_cons (g2S_pure fun _ _ _ => rahead_ok) Tbl.ok_nil))

/-! ### Are spans the same? -/
set_option maxRecDepth 10000 in
theorem rspans_ok {a b : List Sp} {g g' : Ver} {σ : St} (hl : a.length ≤ 9223372036854775807) : ACalls Try.prog n_rspans [.sl (spsAV a) g, .sl (spsAV b) g'] σ (fun v σ' => v = .bool (decide (a = b)) ∧ σ' = σ) := by
  refine s_rspans (fun wf => ?_)
  unfold c_rspans
  refine T.seq_k (fun K_h1 h1 => ?_)
  refine T.regi hm ?_
  simp only [↓reduceIte, namesOf, List.any, I.names, aopsI, astep, ev, setd, List.set, List.cons_append, List.nil_append, List.length_cons, List.length_nil, List.replicate, then_normal, Bool.or_false, Bool.false_eq_true, up_zero, Nat.reduceAdd, Nat.reduceSub]
  refine h1 _ _ ?_
  try clear h1 K_h1
  refine T.seq_k (fun K_h1 h1 => ?_)
  refine T.seq_k (fun K_h2 h2 => ?_)
  by_cases hlen : a.length = b.length
  case neg =>
    have e1 : ((a.length : Int) != (b.length : Int)) = true := by simp; omega
    refine T.regi hm ?_
    simp only [↓reduceIte, namesOf, List.any, I.names, aopsI, astep, ev, setd, List.set, List.getD, List.getElem?_cons_zero, List.getElem?_cons_succ, then_normal, Option.getD_some, Bool.or_false, Bool.false_eq_true, up_zero, binv, ↓opt_def, eq_self, sps_len, e1]
    refine h2 _ _ ?_
    try clear h2 K_h2
    refine T.cond rfl (fun _ => ?_) (fun h => by cases h)
    refine T.seq_k (fun K_h2 h2 => ?_)
    refine T.regi hm ?_
    simp only [↓reduceIte, namesOf, List.any, I.names, aopsI, astep, ev, setd, List.set, then_normal, Bool.or_false, Bool.false_eq_true, up_zero]
    refine h2 _ _ ?_
    try clear h2 K_h2
    exact T.ret (Fin.ret rfl ⟨by rw [decide_eq_false (fun h => hlen (by rw [h]))]; rfl, rfl⟩)
  have e1 : ((a.length : Int) != (b.length : Int)) = false := by simp; omega
  refine T.regi hm ?_
  simp only [↓reduceIte, namesOf, List.any, I.names, aopsI, astep, ev, setd, List.set, List.getD, List.getElem?_cons_zero, List.getElem?_cons_succ, then_normal, Option.getD_some, Bool.or_false, Bool.false_eq_true, up_zero, binv, ↓opt_def, eq_self, sps_len, e1]
  refine h2 _ _ ?_
  try clear h2 K_h2
  refine T.cond rfl (fun h => by cases h) (fun _ => T.skip ?_)
  refine h1 _ _ ?_
  try clear h1 K_h1
  refine T.seq_k (fun K_h1 h1 => ?_)
  refine T.seq_k (fun K_h2 h2 => ?_)
  refine T.regi hm ?_
  simp only [↓reduceIte, namesOf, List.any, I.names, aopsI, astep, ev, setd, List.set, then_normal, Bool.or_false, Bool.false_eq_true, up_zero]
  refine h2 _ _ ?_
  try clear h2 K_h2
  refine T.block ?_
  refine T.gh (Gh.keep [0, 1, 5]) ?_
  refine T.loopi (fun i ρ σ' => σ' = σ ∧ a.take i = b.take i ∧ ρ = [.sl (spsAV a) g, .sl (spsAV b) g', .any, .any, .any, .int .i64 (i : Int)] ++ List.replicate 23 .any)
    a.length 0 (Nat.zero_le _) ⟨rfl, by simp, rfl⟩ ?_
  rintro i ρ σ' hi ⟨rfl, hpre, rfl⟩
  refine T.seq_k (fun K_h2 h2 => ?_)
  refine T.seq_k (fun K_h3 h3 => ?_)
  refine T.regi hm ?_
  simp only [↓reduceIte, namesOf, List.any, I.names, aopsI, astep, ev, setd, List.set, List.getD, List.getElem?_cons_zero, List.getElem?_cons_succ, List.cons_append, List.nil_append, List.replicate, then_normal, Option.getD_some, Bool.or_false, Bool.false_eq_true, up_zero, binv, ↓opt_def, lt_len, eq_self, sps_len]
  refine h3 _ _ ?_
  try clear h3 K_h3
  refine T.cond rfl (fun hb => ?_) (fun hb => ?_)
  · refine T.skip ?_
    refine h2 _ _ ?_
    try clear h2 K_h2
    have hil : i < a.length := by simpa using hb
    have hjl : i < b.length := by omega
    clear hb
    refine T.seq_k (fun K_h2 h2 => ?_)
    refine T.block ?_
    refine T.seq_k (fun K_h3 h3 => ?_)
    have hge := gSame_eq a[i] b[i]
    refine T.regt hm tG_ok ?_
    simp only [↓reduceIte, namesOf, List.any, I.names, aopsT, qstep, qget, Tbl.get, astep, ev, setd, List.set, List.getD, List.getElem?_cons_zero, List.getElem?_cons_succ, List.cons_append, List.nil_append, List.length_cons, List.length_nil, List.replicate, then_normal, Option.getD_some, Bool.or_false, Bool.false_eq_true, up_zero, Nat.reduceAdd, ↓opt_def, AV.cells, ldc, List.map_cons, List.map_nil, Int.natCast_nonneg, lt_len, Int.toNat_natCast, true_and, and_true, eq_self, decide_true, Nat.reduceEqDiff, tG, n_rless, n_rsame, n_rahead, sps_len, sps_get hil, sps_get hjl, hil, hjl, spav, Nat.zero_add, List.take, List.drop, Nat.reduceLeDiff, hge]
    refine h3 _ _ ?_
    try clear h3 K_h3
    refine T.seq_k (fun K_h3 h3 => ?_)
    refine T.regi hm ?_
    simp only [↓reduceIte, namesOf, List.any, I.names, aopsI, astep, ev, setd, List.set, List.getD, List.getElem?_cons_zero, List.getElem?_cons_succ, List.cons_append, List.nil_append, List.replicate, then_normal, Option.getD_some, Bool.or_false, Bool.false_eq_true, up_zero]
    refine h3 _ _ ?_
    try clear h3 K_h3
    refine T.cond rfl (fun hb => ?_) (fun hb => ?_)
    · refine T.seq_k (fun K_h3 h3 => ?_)
      refine T.regi hm ?_
      simp only [↓reduceIte, namesOf, List.any, I.names, aopsI, astep, ev, setd, List.set, List.cons_append, List.nil_append, List.replicate, then_normal, Bool.or_false, Bool.false_eq_true, up_zero]
      refine h3 _ _ ?_
      try clear h3 K_h3
      have hne : a[i] ≠ b[i] := by simpa using hb
      have hab : a ≠ b := by intro h; subst h; exact hne rfl
      exact T.ret (Fin.ret rfl ⟨by rw [decide_eq_false hab]; rfl, rfl⟩)
    · refine T.skip ?_
      refine h2 _ _ ?_
      try clear h2 K_h2
      have he : a[i] = b[i] := by simpa using hb
      have hw := inc64 hil hl
      refine T.regi hm ?_
      simp only [↓reduceIte, namesOf, List.any, I.names, aopsI, astep, ev, setd, List.set, List.getD, List.getElem?_cons_zero, List.getElem?_cons_succ, List.cons_append, List.nil_append, List.replicate, then_normal, Option.getD_some, Bool.or_false, Bool.false_eq_true, up_zero, binv, ↓opt_def, eq_self, hw]
      refine ⟨hil, _, _, Gh.keep [0, 1, 5], rfl, ?_, rfl⟩
      rw [List.take_succ_eq_append_getElem hil, List.take_succ_eq_append_getElem hjl, hpre, he]
  · refine T.exit ?_
    have : i = a.length := by simp at hb; omega
    subst this
    have hab : a = b := by rw [List.take_length, hlen, List.take_length] at hpre; exact hpre
    try simp only [List.cons_append, List.nil_append, List.replicate, then_normal, inBlock_exit, then_exit]
    refine h1 _ _ ?_
    try clear h1 K_h1
    refine T.seq_k (fun K_h1 h1 => ?_)
    refine T.regi hm ?_
    simp only [↓reduceIte, namesOf, List.any, I.names, aopsI, astep, ev, setd, List.set, then_normal, Bool.or_false, Bool.false_eq_true, up_zero]
    refine h1 _ _ ?_
    try clear h1 K_h1
    exact T.ret (Fin.ret rfl ⟨by rw [decide_eq_true hab]; rfl, rfl⟩)
end Go.VL
