/- Texts put together, of these what the theorem needs: Contracts: the document's answer for spans, compared. Contracts: the document's gathering. Contracts: the document's gathering, and canonical traces. Contracts: the heap of fronts of rows (kway), at Tc. MADE BY PROGRAM (gen_heap.py, out of heap.tmpl). Plain: rows merged by a heap of their fronts: what was taken, and what is left. Contracts: kway.Sorted, at Tc. MADE BY PROGRAM (gen_heap.py, out of ksort.tmpl). -/
import Derived.Test.YtmbbeldgfhnkbaaKKwayMerges3

set_option linter.unusedSimpArgs false
set_option linter.unusedVariables false

namespace Go.VL

open Go.Proofs

theorem rmay_ok {t i : AV} {s e : Int} {xs : List AV} {g : Ver} {σ : St} : ACalls Try.prog n_rmay [.agg [t, i, .int .i64 s, .int .i64 e, .sl xs g]] σ (fun v σ' => v = .bool (mayI s e xs.length) ∧ σ' = σ) := by
  refine s_rmay (fun wf => ?_)
  unfold c_rmay
  refine T.seq_k (fun K_h1 h1 => ?_)
  refine T.regi hm ?_
  simp only [↓reduceIte, namesOf, List.any, I.names, aopsI, astep, ev, setd, List.set, List.getD, List.getElem?_cons_zero, List.cons_append, List.nil_append, List.length_cons, List.length_nil, List.replicate, then_normal, Option.getD_some, Bool.or_false, Bool.false_eq_true, Nat.reduceAdd, Nat.reduceSub, AV.isAny, AV.cells, eq_self]
  have h0 : ((σ.up 2).set (σ.next + 0) (.obj [t, i, .int .i64 s, .int .i64 e, .sl xs g])).res (σ.next + 0) = some (.obj [t, i, .int .i64 s, .int .i64 e, .sl xs g]) := by simp
  have hq := set1_quiet wf (k := 2) (.obj [t, i, .int .i64 s, .int .i64 e, .sl xs g]) (a := σ.next + 0) (by omega)
  generalize ((σ.up 2).set (σ.next + 0) (.obj [t, i, .int .i64 s, .int .i64 e, .sl xs g])) = σ1 at h0 hq ⊢
  refine h1 _ _ ?_
  try clear h1 K_h1
  refine T.seq_k (fun K_h1 h1 => ?_)
  by_cases c1 : 0 ≤ s
  case neg =>
    have e1 : decide (s ≥ 0) = false := decide_eq_false (by omega)
    refine T.regi hm ?_
    simp only [↓reduceIte, namesOf, List.any, I.names, aopsI, astep, ev, setd, List.set, List.getD, List.getElem?_cons_zero, List.getElem?_cons_succ, then_normal, Option.getD_some, Bool.or_false, Bool.false_eq_true, up_zero, Nat.reduceAdd, binv, ↓opt_def, ldc, eq_self, h0, e1]
    refine h1 _ _ ?_
    try clear h1 K_h1
    exact T.ret (Fin.quiet rfl trivial hq ⟨by simp [pack, mayI, c1], rfl⟩)
  have e1 : decide (s ≥ 0) = true := decide_eq_true c1
  by_cases c2 : s ≤ e
  case neg =>
    have e2 : decide (s ≤ e) = false := decide_eq_false c2
    refine T.regi hm ?_
    simp only [↓reduceIte, namesOf, List.any, I.names, aopsI, astep, ev, setd, List.set, List.getD, List.getElem?_cons_zero, List.getElem?_cons_succ, then_normal, Option.getD_some, Bool.or_false, Bool.false_eq_true, up_zero, Nat.reduceAdd, binv, ↓opt_def, ldc, eq_self, h0, e1, e2]
    refine h1 _ _ ?_
    try clear h1 K_h1
    exact T.ret (Fin.quiet rfl trivial hq ⟨by simp [pack, mayI, c2], rfl⟩)
  have e2 : decide (s ≤ e) = true := decide_eq_true c2
  by_cases c3 : e ≤ 1099511627776
  case neg =>
    have e3 : decide (e ≤ 1099511627776) = false := decide_eq_false c3
    refine T.regi hm ?_
    simp only [↓reduceIte, namesOf, List.any, I.names, aopsI, astep, ev, setd, List.set, List.getD, List.getElem?_cons_zero, List.getElem?_cons_succ, then_normal, Option.getD_some, Bool.or_false, Bool.false_eq_true, up_zero, Nat.reduceAdd, binv, ↓opt_def, ldc, eq_self, h0, e1, e2, e3]
    refine h1 _ _ ?_
    try clear h1 K_h1
    exact T.ret (Fin.quiet rfl trivial hq ⟨by simp [pack, mayI, c3], rfl⟩)
  have e3 : decide (e ≤ 1099511627776) = true := decide_eq_true c3
  refine T.regi hm ?_
  simp only [↓reduceIte, namesOf, List.any, I.names, aopsI, astep, ev, setd, List.set, List.getD, List.getElem?_cons_zero, List.getElem?_cons_succ, then_normal, Option.getD_some, Bool.or_false, Bool.false_eq_true, up_zero, Nat.reduceAdd, binv, ↓opt_def, ldc, eq_self, h0, e1, e2, e3]
  refine h1 _ _ ?_
  try clear h1 K_h1
  exact T.ret (Fin.quiet rfl trivial hq ⟨by simp [pack, mayI, c1, c2, c3], rfl⟩)

abbrev spC (a : Sp) : List AV := [.int .u64 (a.tr : Int), .int .u64 (a.id : Int), .int .i64 a.st, .int .i64 a.en, .sl (bytesAV a.da) .none]

theorem box2 {σ : St} (wf : WF σ) (k : Nat) (r r' : Res) : (((σ.up k).set (σ.next + 0) r).set (σ.next + 1) r').res (σ.next + 0) = some r ∧ (((σ.up k).set (σ.next + 0) r).set (σ.next + 1) r').res (σ.next + 1) = some r' ∧
    ∀ n x, σ.res n = some x → (((σ.up k).set (σ.next + 0) r).set (σ.next + 1) r').res n = some x :=
  ⟨by rw [St.set_other _ _ (by omega)]; simp, by simp, set2_quiet wf r r' (by omega) (by omega)⟩

theorem rahead_ok {a b : Sp} {σ : St} : ACalls Try.prog n_rahead [.agg (spC a), .agg (spC b)] σ (fun v σ' => v = .bool (aheadS a b) ∧ σ' = σ) := by
  refine s_rahead (fun wf => ?_)
  unfold c_rahead
  refine T.seq_k (fun K_h1 h1 => ?_)
  refine T.regi hm ?_
  simp only [↓reduceIte, namesOf, List.any, I.names, aopsI, astep, ev, setd, List.set, List.getD, List.getElem?_cons_zero, List.getElem?_cons_succ, List.cons_append, List.nil_append, List.length_cons, List.length_nil, List.replicate, then_normal, Option.getD_some, Bool.or_false, Bool.or_true, Bool.false_eq_true, Nat.reduceAdd, Nat.reduceSub, AV.isAny, AV.cells, eq_self]
  obtain ⟨h0, h0', hq⟩ := box2 wf 3 (.obj (spC a)) (.obj (spC b))
  generalize (((σ.up 3).set (σ.next + 0) (.obj (spC a))).set (σ.next + 1) (.obj (spC b))) = σ1 at h0 h0' hq ⊢
  refine h1 _ _ ?_
  try clear h1 K_h1
  refine T.seq_k (fun K_h1 h1 => ?_)
  refine T.seq_k (fun K_h2 h2 => ?_)
  by_cases c1 : a.st = b.st
  case neg =>
    have e1 : (a.st != b.st) = true := by simpa using c1
    refine T.regi hm ?_
    simp only [↓reduceIte, namesOf, List.any, I.names, aopsI, astep, ev, setd, List.set, List.getD, List.getElem?_cons_zero, List.getElem?_cons_succ, then_normal, Option.getD_some, Bool.or_false, Bool.false_eq_true, up_zero, Nat.reduceAdd, binv, ↓opt_def, ldc, eq_self, h0, h0', e1]
    refine h2 _ _ ?_
    try clear h2 K_h2
    refine T.cond rfl (fun _ => ?_) (fun h => by cases h)
    refine T.seq_k (fun K_h2 h2 => ?_)
    refine T.regi hm ?_
    simp only [↓reduceIte, namesOf, List.any, I.names, aopsI, astep, ev, setd, List.set, List.getD, List.getElem?_cons_zero, List.getElem?_cons_succ, then_normal, Option.getD_some, Bool.or_false, Bool.false_eq_true, up_zero, Nat.reduceAdd, binv, ↓opt_def, ldc, eq_self, h0, h0']
    refine h2 _ _ ?_
    try clear h2 K_h2
    exact T.ret (Fin.quiet rfl trivial hq ⟨by simp [pack, aheadS, c1], rfl⟩)
  have e1 : (a.st != b.st) = false := by simpa using c1
  refine T.regi hm ?_
  simp only [↓reduceIte, namesOf, List.any, I.names, aopsI, astep, ev, setd, List.set, List.getD, List.getElem?_cons_zero, List.getElem?_cons_succ, then_normal, Option.getD_some, Bool.or_false, Bool.false_eq_true, up_zero, Nat.reduceAdd, binv, ↓opt_def, ldc, eq_self, h0, h0', e1]
  refine h2 _ _ ?_
  try clear h2 K_h2
  refine T.cond rfl (fun h => by cases h) (fun _ => T.skip ?_)
  refine h1 _ _ ?_
  try clear h1 K_h1
  refine T.seq_k (fun K_h1 h1 => ?_)
  refine T.seq_k (fun K_h2 h2 => ?_)
  by_cases c2 : a.id = b.id
  case neg =>
    have e2 : ((a.id : Int) != (b.id : Int)) = true := by simp; omega
    refine T.regi hm ?_
    simp only [↓reduceIte, namesOf, List.any, I.names, aopsI, astep, ev, setd, List.set, List.getD, List.getElem?_cons_zero, List.getElem?_cons_succ, then_normal, Option.getD_some, Bool.or_false, Bool.false_eq_true, up_zero, Nat.reduceAdd, binv, ↓opt_def, ldc, eq_self, h0, h0', e2]
    refine h2 _ _ ?_
    try clear h2 K_h2
    refine T.cond rfl (fun _ => ?_) (fun h => by cases h)
    refine T.seq_k (fun K_h2 h2 => ?_)
    refine T.regi hm ?_
    simp only [↓reduceIte, namesOf, List.any, I.names, aopsI, astep, ev, setd, List.set, List.getD, List.getElem?_cons_zero, List.getElem?_cons_succ, then_normal, Option.getD_some, Bool.or_false, Bool.false_eq_true, up_zero, Nat.reduceAdd, binv, ↓opt_def, ldc, eq_self, h0, h0']
    refine h2 _ _ ?_
    try clear h2 K_h2
    exact T.ret (Fin.quiet rfl trivial hq ⟨by simp [pack, aheadS, c1, c2], rfl⟩)
  have e2 : ((a.id : Int) != (b.id : Int)) = false := by simp; omega
  refine T.regi hm ?_
  simp only [↓reduceIte, namesOf, List.any, I.names, aopsI, astep, ev, setd, List.set, List.getD, List.getElem?_cons_zero, List.getElem?_cons_succ, then_normal, Option.getD_some, Bool.or_false, Bool.false_eq_true, up_zero, Nat.reduceAdd, binv, ↓opt_def, ldc, eq_self, h0, h0', e2]
  refine h2 _ _ ?_
  try clear h2 K_h2
  refine T.cond rfl (fun h => by cases h) (fun _ => T.skip ?_)
  refine h1 _ _ ?_
  try clear h1 K_h1
  refine T.seq_k (fun K_h1 h1 => ?_)
  refine T.regi hm ?_
  simp only [↓reduceIte, namesOf, List.any, I.names, aopsI, astep, ev, setd, List.set, List.getD, List.getElem?_cons_zero, List.getElem?_cons_succ, then_normal, Option.getD_some, Bool.or_false, Bool.false_eq_true, up_zero, Nat.reduceAdd, binv, ↓opt_def, ldc, eq_self, h0, h0']
  refine h1 _ _ ?_
  try clear h1 K_h1
  exact T.ret (Fin.quiet rfl trivial hq ⟨by simp [pack, aheadS, c1, c2], rfl⟩)

theorem rless_ok {a b : Sp} {σ : St} : ACalls Try.prog n_rless [.agg (spC a), .agg (spC b)] σ (fun v σ' => v = .bool (lessS a b) ∧ σ' = σ) := by
  refine s_rless (fun wf => ?_)
  unfold c_rless
  refine T.seq_k (fun K_h1 h1 => ?_)
  refine T.regi hm ?_
  simp only [↓reduceIte, namesOf, List.any, I.names, aopsI, astep, ev, setd, List.set, List.getD, List.getElem?_cons_zero, List.getElem?_cons_succ, List.cons_append, List.nil_append, List.length_cons, List.length_nil, List.replicate, then_normal, Option.getD_some, Bool.or_false, Bool.or_true, Bool.false_eq_true, Nat.reduceAdd, Nat.reduceSub, AV.isAny, AV.cells, eq_self]
  obtain ⟨h0, h0', hq⟩ := box2 wf 3 (.obj (spC a)) (.obj (spC b))
  generalize (((σ.up 3).set (σ.next + 0) (.obj (spC a))).set (σ.next + 1) (.obj (spC b))) = σ1 at h0 h0' hq ⊢
  refine h1 _ _ ?_
  try clear h1 K_h1
  refine T.seq_k (fun K_h1 h1 => ?_)
  refine T.seq_k (fun K_h2 h2 => ?_)
  by_cases c1 : a.st = b.st
  case neg =>
    have e1 : (a.st != b.st) = true := by simpa using c1
    refine T.regi hm ?_
    simp only [↓reduceIte, namesOf, List.any, I.names, aopsI, astep, ev, setd, List.set, List.getD, List.getElem?_cons_zero, List.getElem?_cons_succ, then_normal, Option.getD_some, Bool.or_false, Bool.false_eq_true, up_zero, Nat.reduceAdd, binv, ↓opt_def, ldc, eq_self, h0, h0', e1]
    refine h2 _ _ ?_
    try clear h2 K_h2
    refine T.cond rfl (fun _ => ?_) (fun h => by cases h)
    refine T.seq_k (fun K_h2 h2 => ?_)
    refine T.regi hm ?_
    simp only [↓reduceIte, namesOf, List.any, I.names, aopsI, astep, ev, setd, List.set, List.getD, List.getElem?_cons_zero, List.getElem?_cons_succ, then_normal, Option.getD_some, Bool.or_false, Bool.false_eq_true, up_zero, Nat.reduceAdd, binv, ↓opt_def, ldc, eq_self, h0, h0']
    refine h2 _ _ ?_
    try clear h2 K_h2
    exact T.ret (Fin.quiet rfl trivial hq ⟨by simp [pack, lessS, c1], rfl⟩)
  have e1 : (a.st != b.st) = false := by simpa using c1
  refine T.regi hm ?_
  simp only [↓reduceIte, namesOf, List.any, I.names, aopsI, astep, ev, setd, List.set, List.getD, List.getElem?_cons_zero, List.getElem?_cons_succ, then_normal, Option.getD_some, Bool.or_false, Bool.false_eq_true, up_zero, Nat.reduceAdd, binv, ↓opt_def, ldc, eq_self, h0, h0', e1]
  refine h2 _ _ ?_
  try clear h2 K_h2
  refine T.cond rfl (fun h => by cases h) (fun _ => T.skip ?_)
  refine h1 _ _ ?_
  try clear h1 K_h1
  refine T.seq_k (fun K_h1 h1 => ?_)
  refine T.seq_k (fun K_h2 h2 => ?_)
  by_cases c2 : a.en = b.en
  case neg =>
    have e2 : (a.en != b.en) = true := by simpa using c2
    refine T.regi hm ?_
    simp only [↓reduceIte, namesOf, List.any, I.names, aopsI, astep, ev, setd, List.set, List.getD, List.getElem?_cons_zero, List.getElem?_cons_succ, then_normal, Option.getD_some, Bool.or_false, Bool.false_eq_true, up_zero, Nat.reduceAdd, binv, ↓opt_def, ldc, eq_self, h0, h0', e2]
    refine h2 _ _ ?_
    try clear h2 K_h2
    refine T.cond rfl (fun _ => ?_) (fun h => by cases h)
    refine T.seq_k (fun K_h2 h2 => ?_)
    refine T.regi hm ?_
    simp only [↓reduceIte, namesOf, List.any, I.names, aopsI, astep, ev, setd, List.set, List.getD, List.getElem?_cons_zero, List.getElem?_cons_succ, then_normal, Option.getD_some, Bool.or_false, Bool.false_eq_true, up_zero, Nat.reduceAdd, binv, ↓opt_def, ldc, eq_self, h0, h0']
    refine h2 _ _ ?_
    try clear h2 K_h2
    exact T.ret (Fin.quiet rfl trivial hq ⟨by simp [pack, lessS, c1, c2], rfl⟩)
  have e2 : (a.en != b.en) = false := by simpa using c2
  refine T.regi hm ?_
  simp only [↓reduceIte, namesOf, List.any, I.names, aopsI, astep, ev, setd, List.set, List.getD, List.getElem?_cons_zero, List.getElem?_cons_succ, then_normal, Option.getD_some, Bool.or_false, Bool.false_eq_true, up_zero, Nat.reduceAdd, binv, ↓opt_def, ldc, eq_self, h0, h0', e2]
  refine h2 _ _ ?_
  try clear h2 K_h2
  refine T.cond rfl (fun h => by cases h) (fun _ => T.skip ?_)
  refine h1 _ _ ?_
  try clear h1 K_h1
  refine T.seq_k (fun K_h1 h1 => ?_)
  refine T.regi hm ?_
  simp only [↓reduceIte, namesOf, List.any, I.names, aopsI, astep, ev, setd, List.set, List.getD, List.getElem?_cons_zero, List.getElem?_cons_succ, then_normal, Option.getD_some, Bool.or_false, Bool.false_eq_true, up_zero, Nat.reduceAdd, ↓opt_def, ldc, h0, h0', toBytes_bytes, sbinv]
  refine h1 _ _ ?_
  try clear h1 K_h1
  refine T.ret (Fin.quiet rfl trivial hq ⟨?_, rfl⟩)
  have eb : ∀ l : List UInt8, (⟨l.toArray⟩ : ByteArray).toList = l := fun l => by rw [ByteArray.toList_eq]
  simp [pack, lessS, c1, c2, eb]

theorem sp_eq {a b : Sp} : a = b ↔ a.tr = b.tr ∧ a.id = b.id ∧ a.st = b.st ∧ a.en = b.en ∧ a.da = b.da := by
  obtain ⟨a1, a2, a3, a4, a5⟩ := a
  obtain ⟨b1, b2, b3, b4, b5⟩ := b
  simp

theorem rsame_ok {a b : Sp} {σ : St} : ACalls Try.prog n_rsame [.agg (spC a), .agg (spC b)] σ (fun v σ' => v = .bool (decide (a = b)) ∧ σ' = σ) := by
  refine s_rsame (fun wf => ?_)
  unfold c_rsame
  refine T.seq_k (fun K_h1 h1 => ?_)
  refine T.regi hm ?_
  simp only [↓reduceIte, namesOf, List.any, I.names, aopsI, astep, ev, setd, List.set, List.getD, List.getElem?_cons_zero, List.getElem?_cons_succ, List.cons_append, List.nil_append, List.length_cons, List.length_nil, List.replicate, then_normal, Option.getD_some, Bool.or_false, Bool.or_true, Bool.false_eq_true, Nat.reduceAdd, Nat.reduceSub, AV.isAny, AV.cells, eq_self]
  obtain ⟨h0, h0', hq⟩ := box2 wf 3 (.obj (spC a)) (.obj (spC b))
  generalize (((σ.up 3).set (σ.next + 0) (.obj (spC a))).set (σ.next + 1) (.obj (spC b))) = σ1 at h0 h0' hq ⊢
  refine h1 _ _ ?_
  try clear h1 K_h1
  refine T.seq_k (fun K_h1 h1 => ?_)
  have no : ¬ a = b → decide (a = b) = false := fun h => decide_eq_false h
  by_cases c1 : a.tr = b.tr
  case neg =>
    have e1 : ((a.tr : Int) == (b.tr : Int)) = false := by simp; omega
    refine T.regi hm ?_
    simp only [↓reduceIte, namesOf, List.any, I.names, aopsI, astep, ev, setd, List.set, List.getD, List.getElem?_cons_zero, List.getElem?_cons_succ, then_normal, Option.getD_some, Bool.or_false, Bool.false_eq_true, up_zero, Nat.reduceAdd, binv, ↓opt_def, ldc, eq_self, h0, h0', e1]
    refine h1 _ _ ?_
    try clear h1 K_h1
    exact T.ret (Fin.quiet rfl trivial hq ⟨by rw [no (fun h => c1 (by rw [h]))]; rfl, rfl⟩)
  have e1 : ((a.tr : Int) == (b.tr : Int)) = true := by simp; omega
  by_cases c2 : a.id = b.id
  case neg =>
    have e2 : ((a.id : Int) == (b.id : Int)) = false := by simp; omega
    refine T.regi hm ?_
    simp only [↓reduceIte, namesOf, List.any, I.names, aopsI, astep, ev, setd, List.set, List.getD, List.getElem?_cons_zero, List.getElem?_cons_succ, then_normal, Option.getD_some, Bool.or_false, Bool.false_eq_true, up_zero, Nat.reduceAdd, binv, ↓opt_def, ldc, eq_self, h0, h0', e1, e2]
    refine h1 _ _ ?_
    try clear h1 K_h1
    exact T.ret (Fin.quiet rfl trivial hq ⟨by rw [no (fun h => c2 (by rw [h]))]; rfl, rfl⟩)
  have e2 : ((a.id : Int) == (b.id : Int)) = true := by simp; omega
  by_cases c3 : a.st = b.st
  case neg =>
    have e3 : (a.st == b.st) = false := by simpa using c3
    refine T.regi hm ?_
    simp only [↓reduceIte, namesOf, List.any, I.names, aopsI, astep, ev, setd, List.set, List.getD, List.getElem?_cons_zero, List.getElem?_cons_succ, then_normal, Option.getD_some, Bool.or_false, Bool.false_eq_true, up_zero, Nat.reduceAdd, binv, ↓opt_def, ldc, eq_self, h0, h0', e1, e2, e3]
    refine h1 _ _ ?_
    try clear h1 K_h1
    exact T.ret (Fin.quiet rfl trivial hq ⟨by rw [no (fun h => c3 (by rw [h]))]; rfl, rfl⟩)
  have e3 : (a.st == b.st) = true := by simpa using c3
  by_cases c4 : a.en = b.en
  case neg =>
    have e4 : (a.en == b.en) = false := by simpa using c4
    refine T.regi hm ?_
    simp only [↓reduceIte, namesOf, List.any, I.names, aopsI, astep, ev, setd, List.set, List.getD, List.getElem?_cons_zero, List.getElem?_cons_succ, then_normal, Option.getD_some, Bool.or_false, Bool.false_eq_true, up_zero, Nat.reduceAdd, binv, ↓opt_def, ldc, eq_self, h0, h0', e1, e2, e3, e4]
    refine h1 _ _ ?_
    try clear h1 K_h1
    exact T.ret (Fin.quiet rfl trivial hq ⟨by rw [no (fun h => c4 (by rw [h]))]; rfl, rfl⟩)
  have e4 : (a.en == b.en) = true := by simpa using c4
  refine T.regi hm ?_
  simp only [↓reduceIte, namesOf, List.any, I.names, aopsI, astep, ev, setd, List.set, List.getD, List.getElem?_cons_zero, List.getElem?_cons_succ, then_normal, Option.getD_some, Bool.or_false, Bool.false_eq_true, up_zero, Nat.reduceAdd, binv, ↓opt_def, ldc, eq_self, h0, h0', e1, e2, e3, e4, toBytes_bytes, sbinv, ba_eq]
  refine h1 _ _ ?_
  try clear h1 K_h1
  refine T.ret (Fin.quiet rfl trivial hq ⟨?_, rfl⟩)
  have : decide (a = b) = decide (a.da = b.da) := by
    rw [decide_eq_decide, sp_eq]
    exact ⟨fun h => h.2.2.2.2, fun h => ⟨c1, c2, c3, c4, h⟩⟩
  rw [this]; rfl

theorem spC_inj {a b : Sp} (h : AV.agg (spC a) = .agg (spC b)) : a = b := spav_inj h

open Classical in
/-- a table of what a function of two spans comes to -/
noncomputable def g2S (f : Sp → Sp → AV) (args : List AV) : Option AV := if h : ∃ p : Sp × Sp, args = [.agg (spC p.1), .agg (spC p.2)] then some (f h.choose.1 h.choose.2) else none

theorem g2S_eq (f : Sp → Sp → AV) (a b : Sp) : g2S f [.agg (spC a), .agg (spC b)] = some (f a b) := by
  unfold g2S
  have hex : ∃ p : Sp × Sp, [AV.agg (spC a), .agg (spC b)] = [.agg (spC p.1), .agg (spC p.2)] := ⟨(a, b), rfl⟩
  rw [dif_pos hex]
  have hc := hex.choose_spec
  rw [List.cons.injEq, List.cons.injEq] at hc
  rw [← spC_inj hc.1, ← spC_inj hc.2.1]

theorem g2S_pure {n : Nat} {f : Sp → Sp → AV} (h : ∀ a b σ, ACalls Try.prog n [.agg (spC a), .agg (spC b)] σ (fun v σ' => v = f a b ∧ σ' = σ)) : PureC Try.prog n (g2S f) := by
  intro args σ v hv
  unfold g2S at hv
  split at hv
  · rename_i hex
    simp only [Option.some.injEq] at hv; subst hv
    have hc := hex.choose_spec
    generalize hex.choose = c at hc
    subst hc
    exact h _ _ _
  · cases hv

noncomputable def gLess : List AV → Option AV := g2S fun a b => .bool (lessS a b)

noncomputable def gSame : List AV → Option AV := g2S fun a b => .bool (decide (a = b))

noncomputable def gAhead : List AV → Option AV := g2S fun a b => .bool (aheadS a b)

theorem gLess_eq (a b : Sp) : gLess [.agg (spC a), .agg (spC b)] = some (.bool (lessS a b)) := g2S_eq _ a b

theorem gSame_eq (a b : Sp) : gSame [.agg (spC a), .agg (spC b)] = some (.bool (decide (a = b))) := g2S_eq _ a b

theorem gAhead_eq (a b : Sp) : gAhead [.agg (spC a), .agg (spC b)] = some (.bool (aheadS a b)) := g2S_eq _ a b

noncomputable def tG : Tbl := [(n_rless, gLess), (n_rsame, gSame), (n_rahead, gAhead)]

theorem tG_ok : tG.ok Try.prog := Tbl.ok_cons (g2S_pure fun a b σ => rless_ok) (Tbl.ok_cons (g2S_pure fun a b σ => rsame_ok) (Tbl.ok_cons (g2S_pure fun a b σ => rahead_ok) Tbl.ok_nil))

/-! ### Are spans the same? -/

noncomputable def tGs : Tbl := [(n_rsame, gSame)]

theorem tGs_ok : tGs.ok Try.prog := Tbl.ok_cons (g2S_pure fun a b σ => rsame_ok) Tbl.ok_nil

set_option maxRecDepth 10000 in
theorem rspans_ok {a b : List Sp} {g g' : Ver} {σ : St} (hl : a.length ≤ 9223372036854775807) : ACalls Try.prog n_rspans [.sl (spsAV a) g, .sl (spsAV b) g'] σ (fun v σ' => v = .bool (decide (a = b)) ∧ σ' = σ) := by
  refine s_rspans (fun wf => ?_)
  unfold c_rspans
  refine T.seq_k (fun K_h1 h1 => ?_)
  refine T.regi hm ?_
  simp only [↓reduceIte, namesOf, List.any, I.names, aopsI, astep, ev, setd, List.set, List.cons_append, List.nil_append, List.length_cons, List.length_nil, List.replicate, then_normal, Bool.or_false, Bool.false_eq_true, up_zero, Nat.reduceAdd, Nat.reduceSub]
  refine h1 _ _ ?_
  try clear h1 K_h1
  refine T.seq_k (fun K_h1 h1 => ?_)
  refine T.seq_k (fun K_h2 h2 => ?_)
  by_cases hlen : a.length = b.length
  case neg =>
    have e1 : ((a.length : Int) != (b.length : Int)) = true := by simp; omega
    refine T.regi hm ?_
    simp only [↓reduceIte, namesOf, List.any, I.names, aopsI, astep, ev, setd, List.set, List.getD, List.getElem?_cons_zero, List.getElem?_cons_succ, then_normal, Option.getD_some, Bool.or_false, Bool.false_eq_true, up_zero, binv, ↓opt_def, eq_self, sps_len, e1]
    refine h2 _ _ ?_
    try clear h2 K_h2
    refine T.cond rfl (fun _ => ?_) (fun h => by cases h)
    refine T.seq_k (fun K_h2 h2 => ?_)
    refine T.regi hm ?_
    simp only [↓reduceIte, namesOf, List.any, I.names, aopsI, astep, ev, setd, List.set, then_normal, Bool.or_false, Bool.false_eq_true, up_zero]
    refine h2 _ _ ?_
    try clear h2 K_h2
    exact T.ret (Fin.ret rfl ⟨by rw [decide_eq_false (fun h => hlen (by rw [h]))]; rfl, rfl⟩)
  have e1 : ((a.length : Int) != (b.length : Int)) = false := by simp; omega
  refine T.regi hm ?_
  simp only [↓reduceIte, namesOf, List.any, I.names, aopsI, astep, ev, setd, List.set, List.getD, List.getElem?_cons_zero, List.getElem?_cons_succ, then_normal, Option.getD_some, Bool.or_false, Bool.false_eq_true, up_zero, binv, ↓opt_def, eq_self, sps_len, e1]
  refine h2 _ _ ?_
  try clear h2 K_h2
  refine T.cond rfl (fun h => by cases h) (fun _ => T.skip ?_)
  refine h1 _ _ ?_
  try clear h1 K_h1
  refine T.seq_k (fun K_h1 h1 => ?_)
  refine T.seq_k (fun K_h2 h2 => ?_)
  refine T.regi hm ?_
  simp only [↓reduceIte, namesOf, List.any, I.names, aopsI, astep, ev, setd, List.set, then_normal, Bool.or_false, Bool.false_eq_true, up_zero]
  refine h2 _ _ ?_
  try clear h2 K_h2
  refine T.block ?_
  refine T.gh (Gh.keep [0, 1, 5]) ?_
  refine T.loopi (fun i ρ σ' => σ' = σ ∧ a.take i = b.take i ∧ ρ = [.sl (spsAV a) g, .sl (spsAV b) g', .any, .any, .any, .int .i64 (i : Int)] ++ List.replicate 23 .any)
    a.length 0 (Nat.zero_le _) ⟨rfl, by simp, rfl⟩ ?_
  rintro i ρ σ' hi ⟨rfl, hpre, rfl⟩
  refine T.seq_k (fun K_h2 h2 => ?_)
  refine T.seq_k (fun K_h3 h3 => ?_)
  refine T.regi hm ?_
  simp only [↓reduceIte, namesOf, List.any, I.names, aopsI, astep, ev, setd, List.set, List.getD, List.getElem?_cons_zero, List.getElem?_cons_succ, List.cons_append, List.nil_append, List.replicate, then_normal, Option.getD_some, Bool.or_false, Bool.false_eq_true, up_zero, binv, ↓opt_def, lt_len, eq_self, sps_len]
  refine h3 _ _ ?_
  try clear h3 K_h3
  refine T.cond rfl (fun hb => ?_) (fun hb => ?_)
  · refine T.skip ?_
    refine h2 _ _ ?_
    try clear h2 K_h2
    have hil : i < a.length := by simpa using hb
    have hjl : i < b.length := by omega
    clear hb
    refine T.seq_k (fun K_h2 h2 => ?_)
    refine T.block ?_
    refine T.seq_k (fun K_h3 h3 => ?_)
    have hge := gSame_eq a[i] b[i]
    refine T.regt hm tGs_ok ?_
    simp only [↓reduceIte, namesOf, List.any, I.names, aopsT, qstep, qget, Tbl.get, astep, ev, setd, List.set, List.getD, List.getElem?_cons_zero, List.getElem?_cons_succ, List.cons_append, List.nil_append, List.length_cons, List.length_nil, List.replicate, then_normal, Option.getD_some, Bool.or_false, Bool.false_eq_true, up_zero, Nat.reduceAdd, ↓opt_def, AV.cells, ldc, List.map_cons, List.map_nil, Int.natCast_nonneg, lt_len, Int.toNat_natCast, true_and, and_true, eq_self, decide_true, tGs, n_rsame, sps_len, sps_get hil, sps_get hjl, hil, hjl, spav, Nat.zero_add, List.take, List.drop, Nat.reduceLeDiff, hge]
    refine h3 _ _ ?_
    try clear h3 K_h3
    refine T.seq_k (fun K_h3 h3 => ?_)
    refine T.regi hm ?_
    simp only [↓reduceIte, namesOf, List.any, I.names, aopsI, astep, ev, setd, List.set, List.getD, List.getElem?_cons_zero, List.getElem?_cons_succ, List.cons_append, List.nil_append, List.replicate, then_normal, Option.getD_some, Bool.or_false, Bool.false_eq_true, up_zero]
    refine h3 _ _ ?_
    try clear h3 K_h3
    refine T.cond rfl (fun hb => ?_) (fun hb => ?_)
    · refine T.seq_k (fun K_h3 h3 => ?_)
      refine T.regi hm ?_
      simp only [↓reduceIte, namesOf, List.any, I.names, aopsI, astep, ev, setd, List.set, List.cons_append, List.nil_append, List.replicate, then_normal, Bool.or_false, Bool.false_eq_true, up_zero]
      refine h3 _ _ ?_
      try clear h3 K_h3
      have hne : a[i] ≠ b[i] := by simpa using hb
      have hab : a ≠ b := by intro h; subst h; exact hne rfl
      exact T.ret (Fin.ret rfl ⟨by rw [decide_eq_false hab]; rfl, rfl⟩)
    · refine T.skip ?_
      refine h2 _ _ ?_
      try clear h2 K_h2
      have he : a[i] = b[i] := by simpa using hb
      have hw := inc64 hil hl
      refine T.regi hm ?_
      simp only [↓reduceIte, namesOf, List.any, I.names, aopsI, astep, ev, setd, List.set, List.getD, List.getElem?_cons_zero, List.getElem?_cons_succ, List.cons_append, List.nil_append, List.replicate, then_normal, Option.getD_some, Bool.or_false, Bool.false_eq_true, up_zero, binv, ↓opt_def, eq_self, hw]
      refine ⟨hil, _, _, Gh.keep [0, 1, 5], rfl, ?_, rfl⟩
      rw [List.take_succ_eq_append_getElem hil, List.take_succ_eq_append_getElem hjl, hpre, he]
  · refine T.exit ?_
    have : i = a.length := by simp at hb; omega
    subst this
    have hab : a = b := by rw [List.take_length, hlen, List.take_length] at hpre; exact hpre
    try simp only [List.cons_append, List.nil_append, List.replicate, then_normal, inBlock_exit, then_exit]
    refine h1 _ _ ?_
    try clear h1 K_h1
    refine T.seq_k (fun K_h1 h1 => ?_)
    refine T.regi hm ?_
    simp only [↓reduceIte, namesOf, List.any, I.names, aopsI, astep, ev, setd, List.set, then_normal, Bool.or_false, Bool.false_eq_true, up_zero]
    refine h1 _ _ ?_
    try clear h1 K_h1
    exact T.ret (Fin.ret rfl ⟨by rw [decide_eq_true hab]; rfl, rfl⟩)

end Go.VL

namespace Go.VL

open Go.Proofs

theorem out_false {l : List Sp} {x : Sp} {i k : Nat} (hx : l[i]? = some x) (hk : k < l.length) (h : outAt l x i k = true) : countsB l i = false := by
  unfold countsB
  rw [hx]
  simp only
  rw [Bool.eq_false_iff]
  intro hh
  have := List.all_eq_true.1 hh k (by simpa using hk)
  rw [h] at this; cases this

theorem range_all {p : Nat → Bool} {i : Nat} (h : (List.range i).all p = true) (hp : p i = true) : (List.range (i + 1)).all p = true := by
  rw [List.range_succ, List.all_append, h]; simp [hp]

set_option maxRecDepth 10000 in
set_option maxHeartbeats 2000000 in
theorem rcounts_ok {l : List Sp} {g : Ver} {i : Nat} {σ : St} (hl : l.length ≤ 9223372036854775807) (hi : i < l.length) : ACalls Try.prog n_rcounts [.sl (spsAV l) g, .int .i64 (i : Int)] σ (fun v σ' => v = .bool (countsB l i) ∧ σ' = σ) := by
  refine s_rcounts (fun wf => ?_)
  unfold c_rcounts
  generalize hx : l[i] = x
  have hxi : l[i]? = some x := by rw [← hx]; simp [hi]
  refine T.seq_k (fun K_h1 h1 => ?_)
  refine T.regi hm ?_
  simp only [↓reduceIte, namesOf, List.any, I.names, aopsI, astep, ev, setd, List.set, List.cons_append, List.nil_append, List.length_cons, List.length_nil, List.replicate, then_normal, Bool.or_false, Bool.false_eq_true, up_zero, Nat.reduceAdd, Nat.reduceSub]
  refine h1 _ _ ?_
  try clear h1 K_h1
  refine T.seq_k (fun K_h1 h1 => ?_)
  refine T.seq_k (fun K_h2 h2 => ?_)
  refine T.regi hm ?_
  simp only [↓reduceIte, namesOf, List.any, I.names, aopsI, astep, ev, setd, List.set, then_normal, Bool.or_false, Bool.false_eq_true, up_zero]
  refine h2 _ _ ?_
  try clear h2 K_h2
  refine T.block ?_
  refine T.gh (Gh.keep [0, 1, 5]) ?_
  refine T.loopi (fun k ρ σ' => σ' = σ ∧ (List.range k).all (fun j => !outAt l x i j) = true ∧ ρ = [.sl (spsAV l) g, .int .i64 (i : Int), .any, .any, .any, .int .i64 (k : Int)] ++ List.replicate 59 .any)
    l.length 0 (Nat.zero_le _) ⟨rfl, rfl, rfl⟩ ?_
  rintro k ρ σ' hk ⟨rfl, hpre, rfl⟩
  refine T.seq_k (fun K_h2 h2 => ?_)
  refine T.seq_k (fun K_h3 h3 => ?_)
  refine T.regi hm ?_
  simp only [↓reduceIte, namesOf, List.any, I.names, aopsI, astep, ev, setd, List.set, List.getD, List.getElem?_cons_zero, List.getElem?_cons_succ, List.cons_append, List.nil_append, List.replicate, then_normal, Option.getD_some, Bool.or_false, Bool.false_eq_true, up_zero, binv, ↓opt_def, lt_len, eq_self, sps_len]
  refine h3 _ _ ?_
  try clear h3 K_h3
  refine T.cond rfl (fun hb => ?_) (fun hb => ?_)
  · refine T.skip ?_
    refine h2 _ _ ?_
    try clear h2 K_h2
    have hkl : k < l.length := by simpa using hb
    clear hb
    generalize hy : l[k] = y
    have hyk : l[k]? = some y := by rw [← hy]; simp [hkl]
    have hw := inc64 hkl hl
    refine T.seq_k (fun K_h2 h2 => ?_)
    refine T.block ?_
    refine T.seq_k (fun K_h3 h3 => ?_)
    refine T.seq_k (fun K_h4 h4 => ?_)
    have step : outAt l x i k = false → ∀ ρ' : List AV, keep [0, 1, 5] 0 ρ' = [.sl (spsAV l) g, .int .i64 (i : Int), .any, .any, .any, .int .i64 (((k : Nat) + 1 : Nat) : Int)] ++ List.replicate 59 .any →
        (k < l.length ∧ ∃ ρ'' σ'', Gh ρ' σ' ρ'' σ'' ∧ σ'' = σ' ∧ (List.range (k + 1)).all (fun j => !outAt l x i j) = true ∧ ρ'' = [.sl (spsAV l) g, .int .i64 (i : Int), .any, .any, .any, .int .i64 (((k : Nat) + 1 : Nat) : Int)] ++ List.replicate 59 .any) := by
      intro ho ρ' hρ
      exact ⟨hkl, _, _, Gh.keep [0, 1, 5], rfl, range_all hpre (by simp [ho]), hρ⟩
    by_cases c1 : y.tr = x.tr
    case neg =>
      have e1 : ((y.tr : Int) != (x.tr : Int)) = true := by simp; omega
      refine T.regi hm ?_
      simp only [↓reduceIte, namesOf, List.any, I.names, aopsI, astep, ev, setd, List.set, List.getD, List.getElem?_cons_zero, List.getElem?_cons_succ, List.cons_append, List.nil_append, List.length_cons, List.length_nil, List.replicate, then_normal, Option.getD_some, Bool.or_false, Bool.false_eq_true, up_zero, Nat.reduceAdd, binv, ↓opt_def, AV.cells, ldc, Int.natCast_nonneg, lt_len, Int.toNat_natCast, true_and, and_true, eq_self, reduceCtorEq, decide_true, sps_len, sps_get hkl, sps_get hi, hkl, hi, hx, hy, spav, Nat.zero_add, List.drop, e1, reduceCtorEq]
      refine h4 _ _ ?_
      try clear h4 K_h4
      refine T.cond rfl (fun _ => ?_) (fun h => by cases h)
      refine T.exit ?_
      try simp only [List.cons_append, List.nil_append, List.replicate, then_normal, then_exit, inBlock_exit]
      refine h2 _ _ ?_
      try clear h2 K_h2
      refine T.regi hm ?_
      simp only [↓reduceIte, namesOf, List.any, I.names, aopsI, astep, ev, setd, List.set, List.getD, List.getElem?_cons_zero, List.getElem?_cons_succ, List.cons_append, List.nil_append, List.replicate, then_normal, Option.getD_some, Bool.or_false, Bool.false_eq_true, up_zero, binv, ↓opt_def, eq_self, hw]
      exact step (by unfold outAt; rw [hyk]; simp [c1]) _ rfl
    have e1 : ((y.tr : Int) != (x.tr : Int)) = false := by simp; omega
    by_cases c2 : y.id = x.id
    case neg =>
      have e2 : ((y.id : Int) != (x.id : Int)) = true := by simp; omega
      refine T.regi hm ?_
      simp only [↓reduceIte, namesOf, List.any, I.names, aopsI, astep, ev, setd, List.set, List.getD, List.getElem?_cons_zero, List.getElem?_cons_succ, List.cons_append, List.nil_append, List.length_cons, List.length_nil, List.replicate, then_normal, Option.getD_some, Bool.or_false, Bool.false_eq_true, up_zero, Nat.reduceAdd, binv, ↓opt_def, AV.cells, ldc, Int.natCast_nonneg, lt_len, Int.toNat_natCast, true_and, and_true, eq_self, decide_true, sps_len, sps_get hkl, sps_get hi, hkl, hi, hx, hy, spav, Nat.zero_add, List.drop, e1, e2]
      refine h4 _ _ ?_
      try clear h4 K_h4
      refine T.cond rfl (fun _ => ?_) (fun h => by cases h)
      refine T.exit ?_
      try simp only [List.cons_append, List.nil_append, List.replicate, then_normal, then_exit, inBlock_exit]
      refine h2 _ _ ?_
      try clear h2 K_h2
      refine T.regi hm ?_
      simp only [↓reduceIte, namesOf, List.any, I.names, aopsI, astep, ev, setd, List.set, List.getD, List.getElem?_cons_zero, List.getElem?_cons_succ, List.cons_append, List.nil_append, List.replicate, then_normal, Option.getD_some, Bool.or_false, Bool.false_eq_true, up_zero, binv, ↓opt_def, eq_self, hw]
      exact step (by unfold outAt; rw [hyk]; simp [c2]) _ rfl
    have e2 : ((y.id : Int) != (x.id : Int)) = false := by simp; omega
    refine T.regi hm ?_
    simp only [↓reduceIte, namesOf, List.any, I.names, aopsI, astep, ev, setd, List.set, List.getD, List.getElem?_cons_zero, List.getElem?_cons_succ, List.cons_append, List.nil_append, List.length_cons, List.length_nil, List.replicate, then_normal, Option.getD_some, Bool.or_false, Bool.false_eq_true, up_zero, Nat.reduceAdd, binv, ↓opt_def, AV.cells, ldc, Int.natCast_nonneg, lt_len, Int.toNat_natCast, true_and, and_true, eq_self, decide_true, sps_len, sps_get hkl, sps_get hi, hkl, hi, hx, hy, spav, Nat.zero_add, List.drop, e1, e2]
    refine h4 _ _ ?_
    try clear h4 K_h4
    refine T.cond rfl (fun h => by cases h) (fun _ => T.skip ?_)
    refine h3 _ _ ?_
    try clear h3 K_h3
    have hge := gLess_eq y x
    have hge2 := gSame_eq y x
    refine T.seq_k (fun K_h3 h3 => ?_)
    refine T.regt hm tG_ok ?_
    simp only [↓reduceIte, namesOf, List.any, I.names, aopsT, qstep, qget, Tbl.get, astep, ev, setd, List.set, List.getD, List.getElem?_cons_zero, List.getElem?_cons_succ, List.cons_append, List.nil_append, List.length_cons, List.length_nil, List.replicate, then_normal, Option.getD_some, Bool.or_false, Bool.false_eq_true, up_zero, Nat.reduceAdd, ↓opt_def, AV.cells, ldc, List.map_cons, List.map_nil, Int.natCast_nonneg, lt_len, Int.toNat_natCast, true_and, and_true, eq_self, tG, n_rless, n_rsame, n_rahead, sps_len, sps_get hkl, sps_get hi, hkl, hi, hx, hy, spav, Nat.zero_add, List.take, List.drop, Nat.reduceLeDiff, hge]
    refine h3 _ _ ?_
    try clear h3 K_h3
    refine T.seq_k (fun K_h3 h3 => ?_)
    refine T.regt hm tG_ok ?_
    simp only [↓reduceIte, namesOf, List.any, I.names, aopsT, qstep, qget, Tbl.get, astep, ev, setd, List.set, List.getD, List.getElem?_cons_zero, List.getElem?_cons_succ, List.cons_append, List.nil_append, List.length_cons, List.length_nil, List.replicate, then_normal, Option.getD_some, Bool.or_false, Bool.false_eq_true, up_zero, Nat.reduceAdd, ↓opt_def, AV.cells, ldc, List.map_cons, List.map_nil, Int.natCast_nonneg, lt_len, Int.toNat_natCast, true_and, and_true, eq_self, Nat.reduceEqDiff, tG, n_rless, n_rsame, n_rahead, sps_len, sps_get hkl, sps_get hi, hkl, hi, hx, hy, spav, Nat.zero_add, List.take, List.drop, Nat.reduceLeDiff, hge2]
    refine h3 _ _ ?_
    try clear h3 K_h3
    refine T.seq_k (fun K_h3 h3 => ?_)
    have bad : outAt l x i k = true → ∀ ρ' : List AV, ρ'.getD 4 .any = .bool false → Fin σ' [.t 4] (fun v σ'' => v = .bool (countsB l i) ∧ σ'' = σ') .ret ρ' σ' := by
      intro ho ρ' hρ
      exact Fin.ret (xs := [ρ'.getD 4 .any]) rfl ⟨by rw [out_false hxi hkl ho, hρ]; rfl, rfl⟩
    cases c3 : lessS y x with
    | true =>
      refine T.regi hm ?_
      simp only [↓reduceIte, namesOf, List.any, I.names, aopsI, astep, ev, setd, List.set, List.getD, List.getElem?_cons_zero, List.getElem?_cons_succ, List.cons_append, List.nil_append, List.replicate, then_normal, Option.getD_some, Bool.or_false, Bool.false_eq_true, up_zero, eq_self, reduceCtorEq, reduceCtorEq]
      refine h3 _ _ ?_
      try clear h3 K_h3
      refine T.cond rfl (fun _ => ?_) (fun h => by cases h)
      refine T.seq_k (fun K_h3 h3 => ?_)
      refine T.regi hm ?_
      simp only [↓reduceIte, namesOf, List.any, I.names, aopsI, astep, ev, setd, List.set, List.cons_append, List.nil_append, List.replicate, then_normal, Bool.or_false, Bool.false_eq_true, up_zero]
      refine h3 _ _ ?_
      try clear h3 K_h3
      exact T.ret (bad (by unfold outAt; rw [hyk]; simp [c1, c2, c3]) _ rfl)
    | false =>
    by_cases c4 : y = x
    case neg =>
      have e4 : decide (y = x) = false := decide_eq_false c4
      refine T.regi hm ?_
      simp only [↓reduceIte, namesOf, List.any, I.names, aopsI, astep, ev, setd, List.set, List.getD, List.getElem?_cons_zero, List.getElem?_cons_succ, List.cons_append, List.nil_append, List.replicate, then_normal, Option.getD_some, Bool.or_false, Bool.false_eq_true, up_zero, eq_self, e4]
      refine h3 _ _ ?_
      try clear h3 K_h3
      refine T.cond rfl (fun h => by cases h) (fun _ => T.skip ?_)
      try simp only [List.cons_append, List.nil_append, List.replicate, then_normal, inBlock_normal, inBlock_normal]
      refine h2 _ _ ?_
      try clear h2 K_h2
      refine T.regi hm ?_
      simp only [↓reduceIte, namesOf, List.any, I.names, aopsI, astep, ev, setd, List.set, List.getD, List.getElem?_cons_zero, List.getElem?_cons_succ, List.cons_append, List.nil_append, List.replicate, then_normal, Option.getD_some, Bool.or_false, Bool.false_eq_true, up_zero, binv, ↓opt_def, eq_self, hw]
      exact step (by unfold outAt; rw [hyk]; simp [c1, c2, c3, c4]) _ rfl
    have e4 : decide (y = x) = true := decide_eq_true c4
    by_cases c5 : k < i
    · have e5 : decide ((k : Int) < (i : Int)) = true := decide_eq_true (by omega)
      have e5' : decide (k < i) = true := decide_eq_true c5
      refine T.regi hm ?_
      simp only [↓reduceIte, namesOf, List.any, I.names, aopsI, astep, ev, setd, List.set, List.getD, List.getElem?_cons_zero, List.getElem?_cons_succ, List.cons_append, List.nil_append, List.replicate, then_normal, Option.getD_some, Bool.or_false, Bool.false_eq_true, up_zero, binv, ↓opt_def, eq_self, e4, e5]
      refine h3 _ _ ?_
      try clear h3 K_h3
      refine T.cond rfl (fun _ => ?_) (fun h => by cases h)
      refine T.seq_k (fun K_h3 h3 => ?_)
      refine T.regi hm ?_
      simp only [↓reduceIte, namesOf, List.any, I.names, aopsI, astep, ev, setd, List.set, List.cons_append, List.nil_append, List.replicate, then_normal, Bool.or_false, Bool.false_eq_true, up_zero]
      refine h3 _ _ ?_
      try clear h3 K_h3
      exact T.ret (bad (by unfold outAt; rw [hyk]; simp [c4, c5]) _ rfl)
    · have e5 : decide ((k : Int) < (i : Int)) = false := decide_eq_false (by omega)
      have e5' : decide (k < i) = false := decide_eq_false c5
      refine T.regi hm ?_
      simp only [↓reduceIte, namesOf, List.any, I.names, aopsI, astep, ev, setd, List.set, List.getD, List.getElem?_cons_zero, List.getElem?_cons_succ, List.cons_append, List.nil_append, List.replicate, then_normal, Option.getD_some, Bool.or_false, Bool.false_eq_true, up_zero, binv, ↓opt_def, eq_self, e4, e5]
      refine h3 _ _ ?_
      try clear h3 K_h3
      refine T.cond rfl (fun h => by cases h) (fun _ => T.skip ?_)
      try simp only [List.cons_append, List.nil_append, List.replicate, then_normal, inBlock_normal, inBlock_normal]
      refine h2 _ _ ?_
      try clear h2 K_h2
      refine T.regi hm ?_
      simp only [↓reduceIte, namesOf, List.any, I.names, aopsI, astep, ev, setd, List.set, List.getD, List.getElem?_cons_zero, List.getElem?_cons_succ, List.cons_append, List.nil_append, List.replicate, then_normal, Option.getD_some, Bool.or_false, Bool.false_eq_true, up_zero, binv, ↓opt_def, eq_self, hw]
      exact step (by unfold outAt; rw [hyk]; simp [c4, c5, less_irr]) _ rfl
  · refine T.exit ?_
    have : k = l.length := by simp at hb; omega
    subst this
    try simp only [List.cons_append, List.nil_append, List.replicate, then_normal, inBlock_exit, then_exit]
    refine h1 _ _ ?_
    try clear h1 K_h1
    refine T.seq_k (fun K_h1 h1 => ?_)
    refine T.regi hm ?_
    simp only [↓reduceIte, namesOf, List.any, I.names, aopsI, astep, ev, setd, List.set, then_normal, Bool.or_false, Bool.false_eq_true, up_zero]
    refine h1 _ _ ?_
    try clear h1 K_h1
    refine T.ret (Fin.ret rfl ⟨?_, rfl⟩)
    have : countsB l i = true := by unfold countsB; rw [hxi]; exact hpre
    rw [this]; rfl

/-- an end that is owned, and what was owned ahead of it -/
structure Tp (σ σ' : St) (g k : Nat) : Prop where
  lo : σ.next ≤ g
  hi : g < σ'.next
  at_ : σ'.res g = some (.tip k)
  old : ∀ n x, σ.res n = some x → σ'.res n = some x

theorem Tp.new {σ σ' : St} {k n i : Nat} (wf : WF σ) (hn : σ.next ≤ σ'.next) (ho : ∀ n x, σ.res n = some x → σ'.res n = some x) (hi : i < n) : Tp σ ((σ'.up n).set (σ'.next + i) (.tip k)) (σ'.next + i) k :=
  ⟨by omega, by simp; omega, by simp, set_quiet wf hn ho _ (by omega)⟩

theorem Tp.mv {σ σ' : St} {g g2 k : Nat} (wf : WF σ) (h : Tp σ σ' g k) (hlo : σ.next ≤ g2) (hhi : g2 < σ'.next) : Tp σ ((σ'.del g).set g2 (.tip k)) g2 k :=
  ⟨hlo, by simpa using hhi, by simp, fun n x hr => by
    have hn : n < σ.next := by
      rcases Nat.lt_or_ge n σ.next with h' | h'
      · exact h'
      · rw [wf n h'] at hr; cases hr
    have h1 := h.lo
    rw [St.set_other _ _ (by omega)]
    simp only [St.del]
    rw [if_neg (by omega)]; exact h.old n x hr⟩

theorem Tp.up {σ σ' : St} {g k : Nat} (h : Tp σ σ' g k) (n : Nat) : Tp σ (σ'.up n) g k := ⟨h.lo, Nat.lt_of_lt_of_le h.hi (Nat.le_add_right _ _), h.at_, h.old⟩

theorem sps_fits (l : List Sp) : (spsAV l).all (AV.fits 5) = true := by
  simp [spsAV, Sp.av, AV.fits, AV.isAny, AV.cells, AV.one]

theorem sps_er (l : List Sp) : (spsAV l).map AV.er = spsAV l := by
  simp only [spsAV, List.map_map]
  apply List.map_congr_left
  intro t _
  rfl

theorem sps_app (a b : List Sp) : spsAV a ++ spsAV b = spsAV (a ++ b) := by simp [spsAV]

theorem sps_take (a : List Sp) (n : Nat) : (spsAV a).take n = spsAV (a.take n) := by simp [spsAV, List.map_take]

theorem sps_drop (a : List Sp) (n : Nat) : (spsAV a).drop n = spsAV (a.drop n) := by simp [spsAV, List.map_drop]

theorem nbs_sps (m : Nat) (l : List Sp) : nbs m (spsAV l) := by
  rw [nbs_iff]
  intro y hy
  obtain ⟨s, _, rfl⟩ := List.mem_map.1 hy
  simp only [Sp.av, AV.nb, nbs, true_and, and_true, Ver.nb]
  exact (nb_bytes m s.da)

end Go.VL

namespace Go.VL

open Go.Proofs

theorem er_sp (x : Sp) : (AV.agg (spC x)).er = .agg (spC x) := rfl

theorem sps_snoc (a : List Sp) (x : Sp) : spsAV a ++ [.agg (spC x)] = spsAV (a ++ [x]) := by simp [spsAV, Sp.av]

theorem gatherN_no {l : List Sp} {n : Nat} (hn : n < l.length) (h : countsB l n = false) : gatherN l (n + 1) = gatherN l n := by
  have e : l[n]? = some l[n] := by simp [hn]
  conv => lhs; unfold gatherN
  rw [e]; simp [h]

theorem gatherN_yes {l : List Sp} {n : Nat} {x : Sp} (hx : l[n]? = some x) (h : countsB l n = true) : gatherN l (n + 1) = insS (gatherN l n) x := by
  conv => lhs; unfold gatherN
  rw [hx]; simp [h]

theorem lastAt_yes {out : List Sp} {x y : Sp} {k : Nat} (hy : out[k]? = some y) (h : aheadS y x = true) : lastAt out x (k + 1) = k + 1 := by
  unfold lastAt; rw [hy]; simp [h]

theorem lastAt_not {out : List Sp} {x y : Sp} {k : Nat} (hy : out[k]? = some y) (h : aheadS y x = false) : lastAt out x (k + 1) = lastAt out x k := by
  conv => lhs; unfold lastAt
  rw [hy]; simp [h]

set_option maxRecDepth 10000 in
set_option maxHeartbeats 4000000 in
theorem rgather_ok {l : List Sp} {g : Ver} {σ : St} (hl : l.length ≤ 1000000) : ACalls Try.prog n_rgather [.sl (spsAV l) g] σ (fun v σ' => v = .sl (spsAV (gatherL l)) .none ∧ σ' = σ) := by
  refine s_rgather (fun wf => ?_)
  unfold c_rgather
  refine T.seq_k (fun K_h1 h1 => ?_)
  refine T.regi hm ?_
  simp only [↓reduceIte, namesOf, List.any, I.names, aopsI, astep, ev, setd, List.set, List.cons_append, List.nil_append, List.length_cons, List.length_nil, List.replicate, then_normal, Bool.or_false, Bool.false_eq_true, up_zero, Nat.reduceAdd, Nat.reduceSub]
  refine h1 _ _ ?_
  try clear h1 K_h1
  refine T.seq_k (fun K_h1 h1 => ?_)
  refine T.regi hm ?_
  simp only [↓reduceIte, namesOf, List.any, I.names, aopsI, astep, ev, setd, List.set, then_normal, Bool.or_false, Bool.false_eq_true, up_zero]
  refine h1 _ _ ?_
  try clear h1 K_h1
  refine T.seq_k (fun K_h1 h1 => ?_)
  refine T.seq_k (fun K_h2 h2 => ?_)
  refine T.regi hm ?_
  simp only [↓reduceIte, namesOf, List.any, I.names, aopsI, astep, ev, setd, List.set, then_normal, Bool.or_false, Bool.false_eq_true, up_zero]
  refine h2 _ _ ?_
  try clear h2 K_h2
  refine T.block ?_
  refine T.gh (Gh.keep [0, 3, 4]) ?_
  refine T.loopi (fun i ρ σ' => σ.next ≤ σ'.next ∧ (∀ n x, σ.res n = some x → σ'.res n = some x) ∧ ∃ v, ρ = [.sl (spsAV l) g, .any, .any, .sl (spsAV (gatherN l i)) v, .int .i64 (i : Int)] ++ List.replicate 52 .any)
    l.length 0 (Nat.zero_le _) ⟨Nat.le_refl _, fun _ _ h => h, .nil, rfl⟩ ?_
  rintro i ρ σ' hi ⟨hn, ho, v0, rfl⟩
  refine T.seq_k (fun K_h2 h2 => ?_)
  refine T.seq_k (fun K_h3 h3 => ?_)
  refine T.regi hm ?_
  simp only [↓reduceIte, namesOf, List.any, I.names, aopsI, astep, ev, setd, List.set, List.getD, List.getElem?_cons_zero, List.getElem?_cons_succ, List.cons_append, List.nil_append, List.replicate, then_normal, Option.getD_some, Bool.or_false, Bool.false_eq_true, up_zero, binv, ↓opt_def, lt_len, eq_self, sps_len]
  refine h3 _ _ ?_
  try clear h3 K_h3
  refine T.cond rfl (fun hb => ?_) (fun hb => ?_)
  · refine T.skip ?_
    refine h2 _ _ ?_
    try clear h2 K_h2
    have hil : i < l.length := by simpa using hb
    clear hb
    have hw := inc64 hil (by omega)
    refine T.seq_k (fun K_h2 h2 => ?_)
    refine T.block ?_
    refine T.seq_k (fun K_h3 h3 => ?_)
    refine T.regi hm ?_
    simp only [↓reduceIte, namesOf, List.any, I.names, aopsI, astep, ev, setd, List.set, List.getD, List.getElem?_cons_zero, List.getElem?_cons_succ, List.cons_append, List.nil_append, List.replicate, then_normal, Option.getD_some, Bool.or_false, Bool.false_eq_true, up_zero, List.map_cons, List.map_nil]
    refine (rcounts_ok (by omega) hil).mono ?_
    rintro v σ1 ⟨rfl, rfl⟩
    try simp only [↓reduceIte, namesOf, List.any, I.names, aops, aopsI, aopsT, qstep, CPt, qget, Tbl.get, astep, ev, setd, List.set, List.getD, List.getElem?_cons_zero, List.getElem?_cons_succ, List.getElem?_nil, List.cons_append, List.nil_append, List.length_cons, List.length_nil, List.replicate, then_normal, inBlock_normal, Option.getD_some, Option.getD_none, Bool.or_false, Bool.or_true, Bool.true_or, Bool.false_or, Bool.false_eq_true, if_false, if_true, up_zero, Nat.reduceAdd, Nat.reduceSub, binv, ↓opt_def, AV.isAny, AV.cells, ldc, List.map_cons, List.map_nil, St.set_next, St.set_same, St.up_next, Int.natCast_nonneg, lt_len, le_len, Int.toNat_natCast, true_and, and_true, eq_self, reduceCtorEq, decide_true, List.length_singleton, er_int, er_bool, er_str, up_zero]
    refine h3 _ _ ?_
    try clear h3 K_h3
    refine T.seq_k (fun K_h3 h3 => ?_)
    refine T.seq_k (fun K_h4 h4 => ?_)
    refine T.regi hm ?_
    simp only [↓reduceIte, namesOf, List.any, I.names, aopsI, astep, ev, setd, List.set, List.getD, List.getElem?_cons_zero, List.getElem?_cons_succ, List.cons_append, List.nil_append, List.replicate, then_normal, Option.getD_some, Bool.or_false, Bool.false_eq_true, up_zero]
    refine h4 _ _ ?_
    try clear h4 K_h4
    generalize hx : l[i] = x
    have hxi : l[i]? = some x := by rw [← hx]; simp [hil]
    cases hc : countsB l i with
    | false =>
      refine T.cond rfl (fun _ => ?_) (fun h => by simp at h)
      refine T.exit ?_
      try simp only [List.cons_append, List.nil_append, List.replicate, then_normal, then_exit, inBlock_exit]
      refine h2 _ _ ?_
      try clear h2 K_h2
      refine T.regi hm ?_
      simp only [↓reduceIte, namesOf, List.any, I.names, aopsI, astep, ev, setd, List.set, List.getD, List.getElem?_cons_zero, List.getElem?_cons_succ, List.cons_append, List.nil_append, List.replicate, then_normal, Option.getD_some, Bool.or_false, Bool.false_eq_true, up_zero, binv, ↓opt_def, eq_self, hw]
      have hg := gatherN_no hil hc
      exact ⟨hil, _, _, Gh.keep [0, 3, 4], hn, ho, v0, by rw [hg]; rfl⟩
    | true =>
    refine T.cond rfl (fun h => by simp at h) (fun _ => T.skip ?_)
    have hg := gatherN_yes hxi hc
    have hol := gatherN_le l i
    generalize gatherN l i = out at hg hol ⊢
    refine h3 _ _ ?_
    try clear h3 K_h3
    refine T.seq_k (fun K_h3 h3 => ?_)
    refine T.regi hm ?_
    simp only [↓reduceIte, namesOf, List.any, I.names, aopsI, astep, ev, setd, List.set, List.cons_append, List.nil_append, List.replicate, then_normal, Bool.or_false, Bool.false_eq_true, up_zero]
    refine h3 _ _ ?_
    try clear h3 K_h3
    refine T.seq_k (fun K_h4 h4 => ?_)
    refine T.seq_k (fun K_h5 h5 => ?_)
    refine T.regi hm ?_
    simp only [↓reduceIte, namesOf, List.any, I.names, aopsI, astep, ev, setd, List.set, List.cons_append, List.nil_append, List.replicate, then_normal, Bool.or_false, Bool.false_eq_true, up_zero]
    refine h5 _ _ ?_
    try clear h5 K_h5
    refine T.block ?_
    refine T.gh (Gh.keep [0, 3, 4, 6, 7]) ?_
    refine T.loopi (fun k ρ s => s = σ1 ∧ ρ = [.sl (spsAV l) g, .any, .any, .sl (spsAV out) v0, .int .i64 (i : Int), .any, .int .i64 (lastAt out x k : Int), .int .i64 (k : Int)] ++ List.replicate 49 .any)
      out.length 0 (Nat.zero_le _) ⟨rfl, rfl⟩ ?_
    rintro k ρ s hk ⟨rfl, rfl⟩
    refine T.seq_k (fun K_h5 h5 => ?_)
    refine T.seq_k (fun K_h6 h6 => ?_)
    refine T.regi hm ?_
    simp only [↓reduceIte, namesOf, List.any, I.names, aopsI, astep, ev, setd, List.set, List.getD, List.getElem?_cons_zero, List.getElem?_cons_succ, List.cons_append, List.nil_append, List.replicate, then_normal, Option.getD_some, Bool.or_false, Bool.false_eq_true, up_zero, binv, ↓opt_def, lt_len, eq_self, sps_len]
    refine h6 _ _ ?_
    try clear h6 K_h6
    refine T.cond rfl (fun hb => ?_) (fun hb => ?_)
    · refine T.skip ?_
      refine h5 _ _ ?_
      try clear h5 K_h5
      have hkl : k < out.length := by simpa using hb
      clear hb
      generalize hy : out[k] = y
      have hyk : out[k]? = some y := by rw [← hy]; simp [hkl]
      have hge := gAhead_eq y x
      have hw2 := inc64 hkl (by omega)
      refine T.seq_k (fun K_h5 h5 => ?_)
      refine T.block ?_
      refine T.seq_k (fun K_h6 h6 => ?_)
      refine T.regt hm tG_ok ?_
      simp only [↓reduceIte, namesOf, List.any, I.names, aopsT, qstep, qget, Tbl.get, astep, ev, setd, List.set, List.getD, List.getElem?_cons_zero, List.getElem?_cons_succ, List.cons_append, List.nil_append, List.length_cons, List.length_nil, List.replicate, then_normal, Option.getD_some, Bool.or_false, Bool.false_eq_true, up_zero, Nat.reduceAdd, ↓opt_def, AV.cells, ldc, List.map_cons, List.map_nil, Int.natCast_nonneg, lt_len, Int.toNat_natCast, true_and, and_true, eq_self, decide_true, Nat.reduceEqDiff, tG, n_rless, n_rsame, n_rahead, sps_len, sps_get hkl, sps_get hil, hkl, hil, hx, hy, spav, Nat.zero_add, List.take, List.drop, Nat.reduceLeDiff, hge]
      refine h6 _ _ ?_
      try clear h6 K_h6
      refine T.seq_k (fun K_h6 h6 => ?_)
      refine T.regi hm ?_
      simp only [↓reduceIte, namesOf, List.any, I.names, aopsI, astep, ev, setd, List.set, List.getD, List.getElem?_cons_zero, List.getElem?_cons_succ, List.cons_append, List.nil_append, List.replicate, then_normal, Option.getD_some, Bool.or_false, Bool.false_eq_true, up_zero]
      refine h6 _ _ ?_
      try clear h6 K_h6
      cases ha : aheadS y x with
      | true =>
        refine T.cond rfl (fun _ => ?_) (fun h => by cases h)
        refine T.regi hm ?_
        simp only [↓reduceIte, namesOf, List.any, I.names, aopsI, astep, ev, setd, List.set, List.getD, List.getElem?_cons_zero, List.getElem?_cons_succ, List.cons_append, List.nil_append, List.replicate, then_normal, inBlock_normal, Option.getD_some, Bool.or_false, Bool.false_eq_true, up_zero, binv, ↓opt_def, eq_self, hw2]
        refine h5 _ _ ?_
        try clear h5 K_h5
        refine T.regi hm ?_
        simp only [↓reduceIte, namesOf, List.any, I.names, aopsI, astep, ev, setd, List.set, List.getD, List.getElem?_cons_zero, List.getElem?_cons_succ, List.cons_append, List.nil_append, List.replicate, then_normal, Option.getD_some, Bool.or_false, Bool.false_eq_true, up_zero, binv, ↓opt_def, eq_self, hw2]
        exact ⟨hkl, _, _, Gh.keep [0, 3, 4, 6, 7], rfl, by rw [lastAt_yes hyk ha]; rfl⟩
      | false =>
        refine T.cond rfl (fun h => by cases h) (fun _ => T.skip ?_)
        try simp only [List.cons_append, List.nil_append, List.replicate, then_normal, inBlock_normal, inBlock_normal]
        refine h5 _ _ ?_
        try clear h5 K_h5
        refine T.regi hm ?_
        simp only [↓reduceIte, namesOf, List.any, I.names, aopsI, astep, ev, setd, List.set, List.getD, List.getElem?_cons_zero, List.getElem?_cons_succ, List.cons_append, List.nil_append, List.replicate, then_normal, Option.getD_some, Bool.or_false, Bool.false_eq_true, up_zero, binv, ↓opt_def, eq_self, hw2]
        exact ⟨hkl, _, _, Gh.keep [0, 3, 4, 6, 7], rfl, by rw [lastAt_not hyk ha]; rfl⟩
    · refine T.exit ?_
      have : k = out.length := by simp at hb; omega
      subst this
      try simp only [List.cons_append, List.nil_append, List.replicate, then_normal, inBlock_exit, then_exit]
      refine h4 _ _ ?_
      try clear h4 K_h4
      have hat := lastAt_le out x out.length
      have hins : insS out x = out.take (lastAt out x out.length) ++ [x] ++ out.drop (lastAt out x out.length) := rfl
      generalize lastAt out x out.length = at_ at hat hins ⊢
      have hat' : (at_ : Int) ≤ ((spsAV out).length : Int) := by rw [sps_len]; omega
      refine T.seq_k (fun K_h4 h4 => ?_)
      refine T.regi hm ?_
      simp only [↓reduceIte, namesOf, List.any, I.names, aopsI, astep, ev, setd, List.set, List.getD, List.getElem?_cons_zero, List.getElem?_cons_succ, List.cons_append, List.nil_append, List.length_cons, List.length_nil, List.replicate, then_normal, Option.getD_some, Bool.or_false, Bool.or_true, Nat.reduceAdd, List.map_nil, St.set_same, Int.natCast_nonneg, Int.toNat_natCast, and_true, eq_self, idx, hat', sps_fits, Int.sub_zero, List.drop_zero, Int.toNat_zero, Int.le_refl, sps_take, held, srcOf, sps_er, List.all_nil, Bool.true_and]
      rw [if_pos (by simp only [sps_len, List.length_take, decide_eq_true_eq]; omega)]
      have t1 : Tp σ (((s.up 6).set (s.next + 0) (.tip 5)).del (s.next + 0) |>.set (s.next + 4) (.tip 5)) (s.next + 4) 5 := (Tp.new wf hn ho (k := 5) (n := 6) (i := 0) (by omega)).mv wf (by omega) (by simp)
      generalize (((s.up 6).set (s.next + 0) (.tip 5)).del (s.next + 0) |>.set (s.next + 4) (.tip 5)) = s1 at t1 ⊢
      generalize s.next + 4 = g1 at t1 ⊢
      refine h4 _ _ ?_
      try clear h4 K_h4
      refine T.seq_k (fun K_h4 h4 => ?_)
      refine T.regi hm ?_
      simp only [↓reduceIte, namesOf, List.any, I.names, aopsI, astep, ev, setd, List.set, List.getD, List.getElem?_cons_zero, List.getElem?_cons_succ, List.cons_append, List.nil_append, List.length_cons, List.length_nil, List.replicate, then_normal, Option.getD_some, Bool.or_false, Bool.or_true, Nat.reduceAdd, ↓opt_def, AV.isAny, AV.cells, ldc, List.map_cons, List.map_nil, Int.natCast_nonneg, lt_len, Int.toNat_natCast, true_and, and_true, eq_self, sps_len, sps_get hil, hil, hx, spav, AV.fits, AV.one, List.all_cons, List.all_nil, Bool.not_false, Bool.and_self, Nat.zero_add, List.take, List.drop, Nat.reduceLeDiff, held, srcOf, t1.at_, St.up_res, beq_self_eq_true, er_sp, sps_snoc, sps_fits, Bool.true_and]
      rw [if_pos (by simp only [List.length_take, decide_eq_true_eq]; omega)]
      have t2 : Tp σ (((s1.up 8).del g1).set (s1.next + 6) (.tip 5)) (s1.next + 6) 5 := (t1.up 8).mv wf (by have := t1.lo; have := t1.hi; omega) (by simp)
      generalize (((s1.up 8).del g1).set (s1.next + 6) (.tip 5)) = s2 at t2 ⊢
      generalize s1.next + 6 = g2 at t2 ⊢
      refine h4 _ _ ?_
      try clear h4 K_h4
      have hdt : (spsAV (out.drop at_)).take (((out.length : Int) - (at_ : Int)).toNat) = spsAV (out.drop at_) := by
        rw [List.take_of_length_le]
        rw [sps_len, List.length_drop]; omega
      have hat2 : (at_ : Int) ≤ (out.length : Int) := by omega
      refine T.regi hm ?_
      simp only [↓reduceIte, namesOf, List.any, I.names, aopsI, astep, ev, setd, List.set, List.getD, List.getElem?_cons_zero, List.getElem?_cons_succ, List.cons_append, List.nil_append, List.length_cons, List.length_nil, List.replicate, then_normal, inBlock_normal, Option.getD_some, Bool.or_false, Bool.or_true, Nat.reduceAdd, Int.natCast_nonneg, lt_len, Int.toNat_natCast, true_and, and_true, eq_self, idx, hat2, sps_len, sps_fits, Int.le_refl, sps_drop, hdt, srcOf, sps_er, t2.at_, St.up_res, Bool.true_and, sps_app]
      rw [if_pos (by simp only [List.length_append, List.length_take, List.length_drop, List.length_singleton, decide_eq_true_eq]; omega)]
      have t3 : Tp σ (((s2.up 6).del g2).set (s2.next + 4) (.tip 5)) (s2.next + 4) 5 := (t2.up 6).mv wf (by have := t2.lo; have := t2.hi; omega) (by simp)
      refine h2 _ _ ?_
      try clear h2 K_h2
      refine T.regi hm ?_
      simp only [↓reduceIte, namesOf, List.any, I.names, aopsI, astep, ev, setd, List.set, List.getD, List.getElem?_cons_zero, List.getElem?_cons_succ, List.cons_append, List.nil_append, List.replicate, then_normal, Option.getD_some, Bool.or_false, Bool.false_eq_true, up_zero, binv, ↓opt_def, eq_self, hw]
      refine ⟨hil, _, _, Gh.keep [0, 3, 4], Nat.le_trans t3.lo (Nat.le_of_lt t3.hi), t3.old, .tip (s2.next + 4), ?_⟩
      rw [hg, hins]
      rfl
  · refine T.exit ?_
    have : i = l.length := by simp at hb; omega
    subst this
    try simp only [List.cons_append, List.nil_append, List.replicate, then_normal, inBlock_exit, then_exit]
    refine h1 _ _ ?_
    try clear h1 K_h1
    refine T.seq_k (fun K_h1 h1 => ?_)
    refine T.regi hm ?_
    simp only [↓reduceIte, namesOf, List.any, I.names, aopsI, astep, ev, setd, List.set, List.getD, List.getElem?_cons_zero, List.getElem?_cons_succ, then_normal, Option.getD_some, Bool.or_false, Bool.false_eq_true, up_zero]
    refine h1 _ _ ?_
    try clear h1 K_h1
    exact T.ret (Fin.quietw rfl (Wk.sl _ _) ⟨nbs_sps _ _, trivial⟩ ho ⟨rfl, rfl⟩)

end Go.VL

namespace Go.VL

open Go.Proofs

abbrev keyT : Tc → Int := fun t => (t.id : Int)

abbrev fCT (e : En Tc) : List AV := [.int .u64 (e.x.id : Int), .sl (spsAV e.x.sp) .none, .int .i64 (e.row : Int)]

abbrev eCT (e : En Tc) : List AV := [.int .u64 (e.x.id : Int), .sl (spsAV e.x.sp) .none, .int .i64 (e.row : Int), .int .i64 (e.turn : Int)]

theorem eCT_len (e : En Tc) : (eCT e).length = 4 := rfl

def hslT : Option Nat → Nat → AV
  | none, _ => .sl [] .nil
  | some nm, n => .refr nm 4 n

/-- a heap, at h; its row, at G; what it compares with -/
structure HpT (σ : St) (h pl : Nat) (G : Option Nat) (l : List (En Tc)) (turn : Nat) : Prop where
  obj : σ.res h = some (.obj [.func n_klessT [] [.ptr pl 0], hslT G l.length, .int .i64 (turn : Int)])
  less : σ.res pl = some (.obj [.func n_kmerge1 [] []])
  no : G = none → l = []
  row : ∀ nm, G = some nm → (nm ≠ h ∧ nm ≠ pl) ∧ ∃ cs, σ.res nm = some (.obj cs) ∧ l.length * 4 ≤ cs.length ∧ cs.take (l.length * 4) = l.flatMap eCT
  ne : pl ≠ h

theorem HpT.named {σ : St} {h pl : Nat} {G : Option Nat} {l : List (En Tc)} {turn : Nat} (H : HpT σ h pl G l turn) {i : Nat} {a : En Tc} (ha : l[i]? = some a) : ∃ nm, G = some nm := by
  cases G with
  | none => rw [H.no rfl] at ha; simp at ha
  | some nm => exact ⟨nm, rfl⟩

theorem HpT.keep {σ t : St} {h pl : Nat} {G : Option Nat} {l : List (En Tc)} {turn : Nat} (H : HpT σ h pl G l turn) (hk : ∀ n r, σ.res n = some r → t.res n = some r) : HpT t h pl G l turn :=
  ⟨hk _ _ H.obj, hk _ _ H.less, H.no, fun nm e => by
    obtain ⟨h1, cs, h2, h3⟩ := H.row nm e
    exact ⟨h1, cs, hk _ _ h2, h3⟩, H.ne⟩

theorem xlessT_ok {a b : Tc} {σ : St} : ACalls Try.prog n_kmerge1 [.agg [.int .u64 (a.id : Int), .sl (spsAV a.sp) .none], .agg [.int .u64 (b.id : Int), .sl (spsAV b.sp) .none]] σ (fun v σ' => v = .bool (decide (keyT a < keyT b)) ∧ σ' = σ) := by
  refine s_kmerge1 (fun wf => ?_)
  unfold c_kmerge1
  refine T.seq_k (fun K_h1 h1 => ?_)
  refine T.regi hm ?_
  simp only [↓reduceIte, namesOf, List.any, I.names, aopsI, astep, ev, setd, List.set, List.getD, List.getElem?_cons_zero, List.getElem?_cons_succ, List.cons_append, List.nil_append, List.length_cons, List.length_nil, List.replicate, then_normal, Option.getD_some, Bool.or_false, Bool.or_true, Bool.false_eq_true, Nat.reduceAdd, Nat.reduceSub, AV.isAny, AV.cells, eq_self]
  obtain ⟨h0, h0', hq⟩ := box2 wf 3 (.obj [.int .u64 (a.id : Int), .sl (spsAV a.sp) .none]) (.obj [.int .u64 (b.id : Int), .sl (spsAV b.sp) .none])
  generalize (((σ.up 3).set (σ.next + 0) (.obj [.int .u64 (a.id : Int), .sl (spsAV a.sp) .none])).set (σ.next + 1) (.obj [.int .u64 (b.id : Int), .sl (spsAV b.sp) .none])) = σ1 at h0 h0' hq ⊢
  refine h1 _ _ ?_
  try clear h1 K_h1
  refine T.seq_k (fun K_h1 h1 => ?_)
  refine T.regi hm ?_
  simp only [↓reduceIte, namesOf, List.any, I.names, aopsI, astep, ev, setd, List.set, List.getD, List.getElem?_cons_zero, List.getElem?_cons_succ, then_normal, Option.getD_some, Bool.or_false, Bool.false_eq_true, up_zero, Nat.reduceAdd, binv, ↓opt_def, ldc, eq_self, h0, h0']
  refine h1 _ _ ?_
  try clear h1 K_h1
  exact T.ret (Fin.quiet rfl trivial hq ⟨rfl, rfl⟩)

theorem klessT_ok {a b : En Tc} {pl : Nat} {σ : St} (hp : σ.res pl = some (.obj [.func n_kmerge1 [] []])) : ACalls Try.prog n_klessT [.agg (fCT a), .agg (fCT b), .ptr pl 0] σ (fun v σ' => v = .bool (flessE keyT a b) ∧ σ' = σ) := by
  refine s_klessT (fun wf => ?_)
  unfold c_klessT
  refine T.seq_k (fun K_h1 h1 => ?_)
  refine T.regi hm ?_
  simp only [↓reduceIte, namesOf, List.any, I.names, aopsI, astep, ev, setd, List.set, List.getD, List.getElem?_cons_zero, List.getElem?_cons_succ, List.cons_append, List.nil_append, List.length_cons, List.length_nil, List.replicate, then_normal, Option.getD_some, Bool.or_false, Bool.or_true, Bool.false_eq_true, Nat.reduceAdd, Nat.reduceSub, AV.isAny, AV.cells, eq_self]
  obtain ⟨h0, h0', hq⟩ := box2 wf 3 (.obj (fCT a)) (.obj (fCT b))
  have hp' := hq _ _ hp
  generalize (((σ.up 3).set (σ.next + 0) (.obj (fCT a))).set (σ.next + 1) (.obj (fCT b))) = σ1 at h0 h0' hq hp' ⊢
  generalize σ.next + 0 = p at h0
  generalize σ.next + 1 = q at h0'
  refine h1 _ _ ?_
  try clear h1 K_h1
  refine T.seq_k (fun K_h1 h1 => ?_)
  refine T.regt hm (tbl := []) Tbl.ok_nil ?_
  refine aopsT_cut 6 (fun K_c h_c => ?_)
  try simp only [↓reduceIte, namesOf, List.any, I.names, aopsT, qstep, CPt, Tbl.get, astep, ev, setd, List.set, List.getD, List.getElem?_cons_zero, List.getElem?_cons_succ, List.cons_append, List.nil_append, List.length_cons, List.length_nil, Option.getD_some, Bool.or_false, Bool.false_eq_true, up_zero, Nat.reduceAdd, ↓opt_def, ldc, List.map_cons, List.map_nil, List.take_succ_cons, hp', h0, h0', Nat.zero_add, List.take, List.drop, Nat.reduceLeDiff]
  refine (xlessT_ok (a := a.x) (b := b.x)).mono ?_
  rintro _ _ ⟨rfl, rfl⟩
  refine h_c _ _ ?_
  clear h_c K_c
  simp only [List.drop_succ_cons, List.drop_zero, Nat.zero_add]
  cases e1 : decide (keyT a.x < keyT b.x) with
  | true =>
    try simp only [↓reduceIte, aopsT, qstep, astep, ev, setd, List.set, List.getD, List.getElem?_cons_zero, List.getElem?_cons_succ, then_normal, Option.getD_some, eq_self, reduceCtorEq]
    refine h1 _ _ ?_
    try clear h1 K_h1
    exact T.ret (Fin.quiet rfl trivial hq ⟨by show AV.bool _ = _; unfold flessE; rw [e1]; rfl, rfl⟩)
  | false =>
    refine aopsT_cut 7 (fun K_c h_c => ?_)
    try simp only [↓reduceIte, aopsT, qstep, CPt, Tbl.get, astep, ev, setd, List.set, List.getD, List.getElem?_cons_zero, List.getElem?_cons_succ, List.cons_append, List.nil_append, List.length_cons, List.length_nil, Option.getD_some, Nat.reduceAdd, ↓opt_def, ldc, List.map_cons, List.map_nil, eq_self, List.take_succ_cons, hp', h0, h0', Nat.zero_add, List.take, List.drop, Nat.reduceLeDiff]
    refine (xlessT_ok (a := b.x) (b := a.x)).mono ?_
    rintro _ _ ⟨rfl, rfl⟩
    refine h_c _ _ ?_
    clear h_c K_c
    simp only [List.drop_succ_cons, List.drop_zero, Nat.reduceAdd]
    cases e2 : decide (keyT b.x < keyT a.x) with
    | true =>
      try simp only [↓reduceIte, aopsT, qstep, astep, ev, setd, List.set, List.getD, List.getElem?_cons_zero, List.getElem?_cons_succ, then_normal, Option.getD_some, Bool.false_eq_true, Nat.reduceAdd, binv, ↓opt_def, ldc, eq_self]
      refine h1 _ _ ?_
      try clear h1 K_h1
      exact T.ret (Fin.quiet rfl trivial hq ⟨by show AV.bool _ = _; unfold flessE; rw [e1, e2]; rfl, rfl⟩)
    | false =>
      try simp only [↓reduceIte, aopsT, qstep, astep, ev, setd, List.set, List.getD, List.getElem?_cons_zero, List.getElem?_cons_succ, then_normal, Option.getD_some, Bool.false_eq_true, binv, ↓opt_def, ldc, eq_self, h0, h0', Bool.not_false, Nat.zero_add]
      refine h1 _ _ ?_
      try clear h1 K_h1
      exact T.ret (Fin.quiet rfl trivial hq ⟨by show AV.bool _ = _; unfold flessE; rw [e1, e2]; rfl, rfl⟩)

set_option maxRecDepth 10000 in
theorem haheadT_ok {h pl : Nat} {G : Option Nat} {l : List (En Tc)} {turn i k : Nat} {a b : En Tc} {σ : St} (H : HpT σ h pl G l turn) (ha : l[i]? = some a) (hb : l[k]? = some b) :
    ACalls Try.prog n_haheadT [.ptr h 0, .int .i64 (i : Int), .int .i64 (k : Int)] σ (fun v σ' => v = .bool (aheadE keyT a b) ∧ σ' = σ) := by
  refine s_haheadT (fun wf => ?_)
  unfold c_haheadT
  obtain ⟨nm, rfl⟩ := H.named ha
  obtain ⟨_, cs, hr, hl, hc⟩ := H.row nm rfl
  have hobj := H.obj
  have hless := H.less
  simp only [hslT] at hobj
  obtain ⟨la, ga⟩ := rowk_get eCT_len hc hl ha
  obtain ⟨lb, gb⟩ := rowk_get eCT_len hc hl hb
  have hil := (List.getElem?_eq_some_iff.1 ha).1
  have hkl := (List.getElem?_eq_some_iff.1 hb).1
  have hhn := wf.lt hobj
  have hnn := wf.lt hr
  refine T.seq_k (fun K_h0 h0 => ?_)
  refine T.regi hm ?_
  simp only [↓reduceIte, namesOf, List.any, I.names, aopsI, astep, ev, setd, List.set, List.cons_append, List.nil_append, List.length_cons, List.length_nil, List.replicate, then_normal, Bool.or_false, Bool.false_eq_true, up_zero, Nat.reduceAdd, Nat.reduceSub]
  refine h0 _ _ ?_
  try clear h0 K_h0
  refine T.seq_k (fun K_h1 h1 => ?_)
  refine T.regt hm (tbl := []) Tbl.ok_nil ?_
  refine aopsT_cut 16 (fun K_c h_c => ?_)
  try simp only [↓reduceIte, namesOf, List.any, I.names, aopsT, qstep, astep, ev, setd, List.set, List.getD, List.getElem?_cons_zero, List.getElem?_cons_succ, List.length_cons, List.length_nil, Option.getD_some, Bool.or_false, Bool.or_true, Nat.reduceAdd, ↓opt_def, ldc, Int.natCast_nonneg, lt_len, Int.toNat_natCast, and_true, eq_self, List.take_succ_cons, List.take_zero, hobj, hr, la, ga, lb, gb, hil, hkl, hhn, hnn, Nat.add_lt_add_iff_right, St.up_res, Nat.zero_add]
  refine h_c _ _ ?_
  clear h_c K_c
  simp only [List.drop_succ_cons, List.drop_zero, Nat.zero_add]
  have hq : ∀ n x, σ.res n = some x → (((σ.up 18).set (σ.next + 14) (.obj [.int .u64 0, .sl [] .nil, .int .i64 0, .int .i64 0])).set (σ.next + 15) (.obj [.int .u64 0, .sl [] .nil, .int .i64 0, .int .i64 0])).res n = some x := set2_quiet wf _ _ (by omega) (by omega)
  have hz1 : (((σ.up 18).set (σ.next + 14) (.obj [.int .u64 0, .sl [] .nil, .int .i64 0, .int .i64 0])).set (σ.next + 15) (.obj [.int .u64 0, .sl [] .nil, .int .i64 0, .int .i64 0])).res (σ.next + 14) = some (.obj [.int .u64 0, .sl [] .nil, .int .i64 0, .int .i64 0]) := by rw [St.set_other _ _ (by omega)]; simp
  have hz2 : (((σ.up 18).set (σ.next + 14) (.obj [.int .u64 0, .sl [] .nil, .int .i64 0, .int .i64 0])).set (σ.next + 15) (.obj [.int .u64 0, .sl [] .nil, .int .i64 0, .int .i64 0])).res (σ.next + 15) = some (.obj [.int .u64 0, .sl [] .nil, .int .i64 0, .int .i64 0]) := by simp
  have hlo : σ.next ≤ σ.next + 14 := by omega
  have hlo2 : σ.next ≤ σ.next + 15 := by omega
  have hpq : σ.next + 15 ≠ σ.next + 14 := by omega
  generalize (((σ.up 18).set (σ.next + 14) (.obj [.int .u64 0, .sl [] .nil, .int .i64 0, .int .i64 0])).set (σ.next + 15) (.obj [.int .u64 0, .sl [] .nil, .int .i64 0, .int .i64 0])) = s at hq hz1 hz2 ⊢
  generalize σ.next + 14 = p at hz1 hlo hpq ⊢
  generalize σ.next + 15 = q at hz2 hlo2 hpq ⊢
  have hz3 : (s.set p (.obj (eCT a))).res q = some (.obj [.int .u64 0, .sl [] .nil, .int .i64 0, .int .i64 0]) := by rw [St.set_other _ _ hpq]; exact hz2
  have hq2 : ∀ n x, σ.res n = some x → ((s.set p (.obj (eCT a))).set q (.obj (eCT b))).res n = some x := fun n x hx => by
    have hn := wf.lt hx
    rw [St.set_other _ _ (by omega), St.set_other _ _ (by omega)]; exact hq n x hx
  have ha2 : ((s.set p (.obj (eCT a))).set q (.obj (eCT b))).res p = some (.obj (eCT a)) := by rw [St.set_other _ _ (Ne.symm hpq)]; simp
  have hb2 : ((s.set p (.obj (eCT a))).set q (.obj (eCT b))).res q = some (.obj (eCT b)) := by simp
  try simp only [↓reduceIte, aopsT, qstep, astep, ev, setd, List.getD, List.getElem?_cons_zero, List.getElem?_cons_succ, List.cons_append, List.nil_append, List.length_cons, List.length_nil, then_normal, Option.getD_some, Nat.reduceAdd, AV.isAny, AV.cells, eq_self, decide_true, hz1, hz3, Nat.add_le_add_iff_right, hlo, hlo2, AV.fits, AV.one, List.all_cons, List.all_nil, Nat.reduceBEq, Bool.not_false, Bool.and_self, Nat.zero_add, splice, List.take, List.drop, Nat.reduceLeDiff]
  generalize ((s.set p (.obj (eCT a))).set q (.obj (eCT b))) = τ at hq2 ha2 hb2 ⊢
  have ho := hq2 _ _ hobj
  have hll := hq2 _ _ hless
  clear hz1 hz2 hz3 hq hr
  refine h1 _ _ ?_
  try clear h1 K_h1
  refine T.seq_k (fun K_h1 h1 => ?_)
  refine T.regt hm (tbl := []) Tbl.ok_nil ?_
  refine aopsT_cut 9 (fun K_c h_c => ?_)
  try simp only [↓reduceIte, namesOf, List.any, I.names, aopsT, qstep, qget, Tbl.get, astep, ev, setd, List.set, List.getD, List.getElem?_cons_zero, List.getElem?_cons_succ, List.cons_append, List.nil_append, List.length_cons, List.length_nil, Option.getD_some, Bool.or_false, Bool.false_eq_true, up_zero, Nat.reduceAdd, ↓opt_def, ldc, List.map_cons, List.map_nil, List.take_succ_cons, ho, ha2, hb2, Nat.zero_add, List.take, List.drop, Nat.reduceLeDiff]
  refine ⟨_, klessT_ok (a := a) (b := b) hll, ?_⟩
  refine h_c _ _ ?_
  clear h_c K_c
  simp only [List.drop_succ_cons, List.drop_zero, Nat.zero_add]
  have hah := ahead_fless (key := keyT) a b
  cases e1 : flessE keyT a b with
  | true =>
    rw [e1] at hah
    try simp only [↓reduceIte, aopsT, qstep, astep, ev, setd, List.set, List.getD, List.getElem?_cons_zero, List.getElem?_cons_succ, then_normal, Option.getD_some, eq_self, reduceCtorEq]
    refine h1 _ _ ?_
    try clear h1 K_h1
    exact T.ret (Fin.quiet rfl trivial hq2 ⟨by rw [hah]; rfl, rfl⟩)
  | false =>
    rw [e1] at hah
    refine aopsT_cut 10 (fun K_c h_c => ?_)
    try simp only [↓reduceIte, aopsT, qstep, qget, Tbl.get, astep, ev, setd, List.set, List.getD, List.getElem?_cons_zero, List.getElem?_cons_succ, List.cons_append, List.nil_append, List.length_cons, List.length_nil, Option.getD_some, Nat.reduceAdd, ↓opt_def, ldc, List.map_cons, List.map_nil, eq_self, List.take_succ_cons, ho, ha2, hb2, Nat.zero_add, List.take, List.drop, Nat.reduceLeDiff]
    refine ⟨_, klessT_ok (a := b) (b := a) hll, ?_⟩
    refine h_c _ _ ?_
    clear h_c K_c
    simp only [List.drop_succ_cons, List.drop_zero, Nat.reduceAdd]
    cases e2 : flessE keyT b a with
    | true =>
      rw [e2] at hah
      try simp only [↓reduceIte, aopsT, qstep, astep, ev, setd, List.set, List.getD, List.getElem?_cons_zero, List.getElem?_cons_succ, then_normal, Option.getD_some, Bool.false_eq_true, Nat.reduceAdd, binv, ↓opt_def, ldc, eq_self]
      refine h1 _ _ ?_
      try clear h1 K_h1
      exact T.ret (Fin.quiet rfl trivial hq2 ⟨by rw [hah]; rfl, rfl⟩)
    | false =>
      rw [e2] at hah
      try simp only [↓reduceIte, aopsT, qstep, astep, ev, setd, List.set, List.getD, List.getElem?_cons_zero, List.getElem?_cons_succ, then_normal, Option.getD_some, Bool.false_eq_true, binv, ↓opt_def, ldc, eq_self, ha2, hb2, Bool.not_false, Nat.zero_add]
      refine h1 _ _ ?_
      try clear h1 K_h1
      exact T.ret (Fin.quiet rfl trivial hq2 ⟨by rw [hah]; rfl, rfl⟩)

/-- what a heap's doings leave as it was -/
structure HFrT (σ σ' : St) (h : Nat) (G : Option Nat) : Prop where
  next : σ.next ≤ σ'.next
  old : ∀ n, n < σ.next → n ≠ h → (∀ g, G = some g → n ≠ g) → σ'.res n = σ.res n

theorem HFrT.refl {σ : St} {h : Nat} {G : Option Nat} : HFrT σ σ h G := ⟨Nat.le_refl _, fun _ _ _ _ => rfl⟩

theorem HFrT.trans {a b c : St} {h : Nat} {G G' : Option Nat} (x : HFrT a b h G) (y : HFrT b c h G') (hG : ∀ g, G' = some g → G = some g ∨ a.next ≤ g) : HFrT a c h G :=
  ⟨Nat.le_trans x.next y.next, fun n h1 h2 h3 => (y.old n (Nat.lt_of_lt_of_le h1 x.next) h2 (fun g e => by
    rcases hG g e with h | h
    · exact h3 g h
    · omega)).trans (x.old n h1 h2 h3)⟩

set_option maxRecDepth 10000 in
theorem hswapT_ok {h pl : Nat} {G : Option Nat} {l : List (En Tc)} {turn i k : Nat} {a b : En Tc} {σ : St} (H : HpT σ h pl G l turn) (ha : l[i]? = some a) (hb : l[k]? = some b) :
    ACalls Try.prog n_hswapT [.ptr h 0, .int .i64 (i : Int), .int .i64 (k : Int)] σ (fun v σ' => v = .tup [] ∧ HpT σ' h pl G (sw l i k a b) turn ∧ HFrT σ σ' h G ∧ σ'.next = σ.next) := by
  refine s_hswapT (fun wf => ?_)
  unfold c_hswapT
  obtain ⟨nm, rfl⟩ := H.named ha
  obtain ⟨hne, cs, hr, hl, hc⟩ := H.row nm rfl
  have hobj := H.obj
  simp only [hslT] at hobj
  obtain ⟨la, ga⟩ := rowk_get eCT_len hc hl ha
  obtain ⟨lb, gb⟩ := rowk_get eCT_len hc hl hb
  have hil := (List.getElem?_eq_some_iff.1 ha).1
  have hkl := (List.getElem?_eq_some_iff.1 hb).1
  obtain ⟨s1, t1⟩ := rowk_set eCT_len hc hl hil b
  have hl1 : (l.set i b).length * 4 ≤ (splice cs (i * 4) (eCT b)).length := by rw [s1, List.length_set]; exact hl
  have hc1 : (splice cs (i * 4) (eCT b)).take ((l.set i b).length * 4) = (l.set i b).flatMap eCT := by rw [List.length_set]; exact t1
  obtain ⟨s2, t2⟩ := rowk_set eCT_len hc1 hl1 (i := k) (by rw [List.length_set]; exact hkl) a
  have la1 : i * 4 + 4 ≤ cs.length := la
  have lb1 : k * 4 + 4 ≤ (splice cs (i * 4) (eCT b)).length := by rw [s1]; exact lb
  generalize hcs1 : splice cs (i * 4) (eCT b) = cs1 at s1 t1 hl1 hc1 s2 t2 lb1
  generalize hcs2 : splice cs1 (k * 4) (eCT a) = cs2 at s2 t2
  have hfa : (AV.agg (eCT a)).fits 4 = true := rfl
  have hfb : (AV.agg (eCT b)).fits 4 = true := rfl
  refine T.regi hm ?_
  simp only [↓reduceIte, namesOf, List.any, I.names, aopsI, astep, ev, setd, List.set, List.getD, List.getElem?_cons_zero, List.getElem?_cons_succ, List.cons_append, List.nil_append, List.length_cons, List.length_nil, List.replicate, Option.getD_some, Bool.or_false, Bool.false_eq_true, up_zero, Nat.reduceAdd, Nat.reduceSub, ↓opt_def, AV.cells, ldc, St.set_same, Int.natCast_nonneg, lt_len, Int.toNat_natCast, and_true, eq_self, decide_true, hobj, hr, la, ga, lb, gb, hil, hkl, hcs1, hcs2, hfa, hfb, lb1, Nat.zero_add, St.set_set, Bool.and_self, decide_true]
  refine Fin.retn rfl ⟨rfl, ⟨?_, ?_, fun e => (by cases e), fun nm' e => ?_, H.ne⟩, ⟨Nat.le_refl _, fun n h1 h2 h3 => St.set_other _ _ (h3 nm rfl)⟩, rfl⟩
  · rw [St.set_other _ _ (Ne.symm hne.1), sw_len]; exact H.obj
  · rw [St.set_other _ _ (Ne.symm hne.2)]; exact H.less
  · cases e
    refine ⟨hne, cs2, St.set_same _ _ _, ?_, ?_⟩
    · rw [sw_len, s2, s1]; exact hl
    · rw [sw_len]; rw [List.length_set] at t2; exact t2

set_option maxRecDepth 10000 in
/-- one more -/
theorem hpushT_ok {h pl : Nat} {G : Option Nat} {l : List (En Tc)} {turn : Nat} {e : En Tc} {σ : St} (H : HpT σ h pl G l turn) (hh : HeapL keyT l) (ht : e.turn = turn + 1) (htu : turn < 9223372036854775807) (hlen : l.length ≤ 1000000) :
    ACalls Try.prog n_hpushT [.ptr h 0, .agg (fCT e)] σ (fun v σ' => v = .tup [] ∧ ∃ G' l', HpT σ' h pl G' l' (turn + 1) ∧ l'.Perm (l ++ [e]) ∧ HeapL keyT l' ∧ HFrT σ σ' h G ∧ ∀ g, G' = some g → σ.next ≤ g ∧ g < σ'.next) := by
  refine s_hpushT (fun wf => ?_)
  unfold c_hpushT
  have hobj := H.obj
  have hless := H.less
  have hhn := wf.lt hobj
  have hpn := wf.lt hless
  refine T.seq_k (fun K_h1 h1 => ?_)
  refine T.regi hm ?_
  simp only [↓reduceIte, namesOf, List.any, I.names, aopsI, astep, ev, setd, List.set, List.getD, List.getElem?_cons_zero, List.getElem?_cons_succ, List.cons_append, List.nil_append, List.length_cons, List.length_nil, List.replicate, then_normal, Option.getD_some, Bool.or_false, Bool.false_eq_true, Nat.reduceAdd, Nat.reduceSub, AV.isAny, AV.cells, eq_self]
  have hob1 : ((σ.up 1).set (σ.next + 0) (.obj (fCT e))).res h = _ := (St.set_other _ _ (by omega)).trans hobj
  have hbx : ((σ.up 1).set (σ.next + 0) (.obj (fCT e))).res (σ.next + 0) = some (.obj (fCT e)) := by simp
  have hLk : Like σ ((σ.up 1).set (σ.next + 0) (.obj (fCT e))) := (Like.refl σ).box (n := 1) (i := 0) _
  have hbn : σ.next + 0 < ((σ.up 1).set (σ.next + 0) (.obj (fCT e))).next := by simp
  have hbl : σ.next ≤ σ.next + 0 := by omega
  generalize ((σ.up 1).set (σ.next + 0) (.obj (fCT e))) = σ1 at hob1 hbx hLk hbn ⊢
  generalize σ.next + 0 = b at hbx hbn hbl ⊢
  refine h1 _ _ ?_
  try clear h1 K_h1
  refine T.seq_k (fun K_h1 h1 => ?_)
  have hw : IntKind.i64.wrap ((turn : Int) + 1) = ((turn + 1 : Nat) : Int) := inc64 htu (by omega)
  refine T.regi hm ?_
  simp only [↓reduceIte, namesOf, List.any, I.names, aopsI, astep, ev, setd, List.set, List.getD, List.getElem?_cons_zero, List.getElem?_cons_succ, List.cons_append, List.nil_append, List.length_cons, List.length_nil, then_normal, Option.getD_some, Bool.or_false, Bool.false_eq_true, up_zero, Nat.reduceAdd, binv, ↓opt_def, AV.isAny, AV.cells, ldc, eq_self, decide_true, hob1, hw, AV.fits, AV.one, List.all_cons, List.all_nil, Nat.reduceBEq, Bool.not_false, Bool.and_self, Nat.zero_add, splice, List.take, List.drop, Nat.reduceLeDiff]
  refine h1 _ _ ?_
  try clear h1 K_h1
  refine T.seq_k (fun K_h1 h1 => ?_)
  -- behind the append: it rises
  have key : ∀ (ρ : List AV) (τ : St) (nm : Nat), HpT τ h pl (some nm) (l ++ [e]) (turn + 1) → HFrT σ τ h G → σ.next ≤ nm → nm < τ.next → keep [0] 0 ρ = [.ptr h 0] ++ List.replicate 51 .any → K_h1 ρ τ := by
    clear hob1 hbx hLk hbn hbl
    intro ρ τ nm H1 hfr hn1 hn2 hk
    refine h1 _ _ ?_
    clear h1 K_h1
    refine T.gh (Gh.keep [0]) ?_
    rw [hk]
    have ho1 := H1.obj
    simp only [hslT] at ho1
    have hl1 : (l ++ [e]).length = l.length + 1 := by simp
    rw [hl1] at ho1
    have hw1 : IntKind.i64.wrap (((l.length + 1 : Nat) : Int) - 1) = (l.length : Int) := by rw [wrap64 (by omega) (by omega)]; omega
    refine T.seq_k (fun K_h0 h0 => ?_)
    refine T.regi hm ?_
    simp only [↓reduceIte, namesOf, List.any, I.names, aopsI, astep, ev, setd, List.set, List.getD, List.getElem?_cons_zero, List.getElem?_cons_succ, List.cons_append, List.nil_append, List.replicate, then_normal, Option.getD_some, Bool.or_false, Bool.false_eq_true, up_zero, Nat.reduceAdd, binv, ↓opt_def, ldc, eq_self, ho1, hw1]
    refine h0 _ _ ?_
    try clear h0 K_h0
    refine T.block ?_
    refine T.gh (Gh.keep [0, 4]) ?_
    refine T.loop (fun ρ t => ∃ (i : Nat) (l' : List (En Tc)), HpT t h pl (some nm) l' (turn + 1) ∧ l'.Perm (l ++ [e]) ∧ Rise keyT i l' ∧ i < l'.length ∧ HFrT σ t h G ∧ nm < t.next ∧ ρ = [.ptr h 0, .any, .any, .any, .int .i64 (i : Int)] ++ List.replicate 47 .any)
      (fun ρ _ => match ρ.getD 4 .any with | .int _ n => n.toNat | _ => 0) ⟨l.length, l ++ [e], H1, .refl _, Rise.start hh e, by simp, hfr, hn2, rfl⟩ ?_
    clear ho1 hw1 H1 hfr
    rintro ρ t ⟨i, l', H1, hp, hr, hil, hfr, hn2, rfl⟩
    have hl'l : l'.length = l.length + 1 := by rw [hp.length_eq]; simp
    refine T.seq_k (fun K_h1 h1 => ?_)
    refine T.seq_k (fun K_h2 h2 => ?_)
    rcases Nat.eq_zero_or_pos i with rfl | hi
    · have e0 : decide (((0 : Nat) : Int) > 0) = false := rfl
      refine T.regi hm ?_
      simp only [↓reduceIte, namesOf, List.any, I.names, aopsI, astep, ev, setd, List.set, List.getD, List.getElem?_cons_zero, List.getElem?_cons_succ, List.cons_append, List.nil_append, List.replicate, then_normal, Option.getD_some, Bool.or_false, Bool.false_eq_true, up_zero, binv, ↓opt_def, Int.toNat_natCast, eq_self, e0]
      refine h2 _ _ ?_
      try clear h2 K_h2
      refine T.cond rfl (fun h => by cases h) (fun _ => T.exit ?_)
      try simp only [List.getD, List.getElem?_cons_zero, List.getElem?_cons_succ, List.cons_append, List.nil_append, List.replicate, Option.getD_some, Int.toNat_natCast, inBlock_exit, then_exit]
      exact Fin.retn rfl ⟨rfl, _, l', H1, hp, hr.done (fun h => absurd h (by omega)), hfr, fun g e => by cases e; exact ⟨hn1, hn2⟩⟩
    · have e0 : decide ((i : Int) > 0) = true := decide_eq_true (by omega)
      have e1 : IntKind.i64.wrap ((i : Int) - 1) = ((i - 1 : Nat) : Int) := by rw [wrap64 (by omega) (by omega)]; omega
      have e2 : IntKind.i64.wrap (((i - 1 : Nat) : Int).tdiv 2) = (((i - 1) / 2 : Nat) : Int) := by
        have h1 : Int.tdiv ((i - 1 : Nat) : Int) 2 = (((i - 1) / 2 : Nat) : Int) := (Int.ofNat_tdiv (i - 1) 2).symm
        rw [h1, wrap64 (by omega) (by omega)]
      have e3 : ¬ ((2 : Int) = 0) := by omega
      have ha : l'[i]? = some l'[i] := by simp [hil]
      have hb : l'[(i - 1) / 2]? = some (l'[(i - 1) / 2]'(by omega)) := by simp
      generalize l'[i] = a at ha
      generalize l'[(i - 1) / 2]'(by omega) = b at hb
      refine T.regt hm (tbl := []) Tbl.ok_nil ?_
      refine aopsT_cut 9 (fun K_c h_c => ?_)
      try simp only [↓reduceIte, namesOf, List.any, I.names, aopsT, qstep, CPt, Tbl.get, astep, ev, setd, List.set, List.getD, List.getElem?_cons_zero, List.getElem?_cons_succ, List.cons_append, List.nil_append, List.replicate, Option.getD_some, Bool.or_false, Bool.false_eq_true, up_zero, binv, ↓opt_def, List.map_cons, List.map_nil, eq_self, List.take_succ_cons, List.take_zero, e0, e1, e2, e3]
      refine (haheadT_ok H1 ha hb).mono ?_
      rintro _ _ ⟨rfl, rfl⟩
      refine h_c _ _ ?_
      clear h_c K_c
      simp only [List.drop_succ_cons, List.drop_zero, Nat.zero_add]
      cases hab : aheadE keyT a b with
      | false =>
        try simp only [↓reduceIte, aopsT, qstep, astep, ev, setd, List.set, List.getD, List.getElem?_cons_zero, List.getElem?_cons_succ, List.cons_append, List.nil_append, List.replicate, then_normal, Option.getD_some, Int.toNat_natCast, eq_self]
        refine h2 _ _ ?_
        try clear h2 K_h2
        refine T.cond rfl (fun h => by cases h) (fun _ => T.exit ?_)
        try simp only [List.getD, List.getElem?_cons_zero, List.getElem?_cons_succ, List.cons_append, List.nil_append, List.replicate, Option.getD_some, Int.toNat_natCast, inBlock_exit, then_exit]
        refine Fin.retn rfl ⟨rfl, _, l', H1, hp, hr.done (fun _ a' b' ha' hb' => ?_), hfr, fun g e => by cases e; exact ⟨hn1, hn2⟩⟩
        rw [ha] at ha'; rw [hb] at hb'; cases ha'; cases hb'; exact hab
      | true =>
        try simp only [↓reduceIte, aopsT, qstep, astep, ev, setd, List.set, List.getD, List.getElem?_cons_zero, List.getElem?_cons_succ, List.cons_append, List.nil_append, List.replicate, then_normal, Option.getD_some, Int.toNat_natCast, eq_self]
        refine h2 _ _ ?_
        try clear h2 K_h2
        refine T.cond rfl (fun _ => T.skip ?_) (fun h => by cases h)
        refine h1 _ _ ?_
        try clear h1 K_h1
        refine T.seq_k (fun K_h1 h1 => ?_)
        refine T.block ?_
        refine T.regi hm ?_
        simp only [↓reduceIte, namesOf, List.any, I.names, aopsI, astep, ev, setd, List.set, List.getD, List.getElem?_cons_zero, List.getElem?_cons_succ, List.cons_append, List.nil_append, List.replicate, then_normal, inBlock_normal, Option.getD_some, Bool.or_false, Bool.false_eq_true, up_zero, binv, ↓opt_def, List.map_cons, List.map_nil, Int.toNat_natCast, eq_self, e1, e2, e3]
        refine (hswapT_ok H1 ha hb).mono ?_
        rintro v τ2 ⟨rfl, H2, hf2, hnx⟩
        try simp only [↓reduceIte, namesOf, List.any, I.names, aops, aopsI, aopsT, qstep, CPt, qget, Tbl.get, astep, ev, setd, List.set, List.getD, List.getElem?_cons_zero, List.getElem?_cons_succ, List.getElem?_nil, List.cons_append, List.nil_append, List.length_cons, List.length_nil, List.replicate, then_normal, inBlock_normal, Option.getD_some, Option.getD_none, Bool.or_false, Bool.or_true, Bool.true_or, Bool.false_or, Bool.false_eq_true, if_false, if_true, up_zero, Nat.reduceAdd, Nat.reduceSub, binv, ↓opt_def, AV.isAny, AV.cells, ldc, List.map_cons, List.map_nil, St.set_next, St.set_same, St.up_next, Int.natCast_nonneg, lt_len, le_len, Int.toNat_natCast, true_and, and_true, eq_self, reduceCtorEq, decide_true, List.length_singleton, er_int, er_bool, er_str, up_zero]
        refine h1 _ _ ?_
        try clear h1 K_h1
        refine T.regi hm ?_
        simp only [↓reduceIte, namesOf, List.any, I.names, aopsI, astep, ev, setd, List.set, List.getD, List.getElem?_cons_zero, List.getElem?_cons_succ, List.cons_append, List.nil_append, List.replicate, then_normal, Option.getD_some, Bool.or_false, Bool.false_eq_true, up_zero, binv, ↓opt_def, Int.toNat_natCast, eq_self, e1, e2, e3]
        refine ⟨_, _, Gh.keep [0, 4], ⟨(i - 1) / 2, sw l' i ((i - 1) / 2) a b, H2, (sw_perm ha hb).trans hp, hr.step hi ha hb hab, by rw [sw_len]; omega, hfr.trans hf2 (fun g e => by cases e; exact .inr hn1), by rw [hnx]; exact hn2, rfl⟩, ?_⟩
        simp only [keep, List.getElem?_cons_succ, List.getElem?_cons_zero, Option.getD_some]
        show (i - 1) / 2 < i
        omega
  have ht0 : (σ1.set h (.obj [.func n_klessT [] [.ptr pl 0], hslT G l.length, .int .i64 ((turn + 1 : Nat) : Int)])).res h = some (.obj [.func n_klessT [] [.ptr pl 0], hslT G l.length, .int .i64 ((turn + 1 : Nat) : Int)]) := St.set_same _ _ _
  have hbx0 : (σ1.set h (.obj [.func n_klessT [] [.ptr pl 0], hslT G l.length, .int .i64 ((turn + 1 : Nat) : Int)])).res b = some (.obj (fCT e)) := by rw [St.set_other _ _ (by omega)]; exact hbx
  have hk0 : ∀ n, n < σ.next → n ≠ h → (σ1.set h (.obj [.func n_klessT [] [.ptr pl 0], hslT G l.length, .int .i64 ((turn + 1 : Nat) : Int)])).res n = σ.res n := fun n h1 h2 => by rw [St.set_other _ _ h2]; exact hLk.same n h1
  have hn0 : σ.next ≤ (σ1.set h (.obj [.func n_klessT [] [.ptr pl 0], hslT G l.length, .int .i64 ((turn + 1 : Nat) : Int)])).next := hLk.next
  generalize (σ1.set h (.obj [.func n_klessT [] [.ptr pl 0], hslT G l.length, .int .i64 ((turn + 1 : Nat) : Int)])) = τ at ht0 hbx0 hk0 hn0 ⊢
  clear hob1 hbx hLk hbn
  have hbu : ∀ k, (τ.up k).res b = some (.obj (fCT e)) := fun _ => hbx0
  have hhu : ∀ k, (τ.up k).res h = some (.obj [.func n_klessT [] [.ptr pl 0], hslT G l.length, .int .i64 ((turn + 1 : Nat) : Int)]) := fun _ => ht0
  cases G with
  | none =>
    have hl0 := H.no rfl
    subst hl0
    simp only [hslT] at hhu
    refine T.regt hm (tbl := []) Tbl.ok_nil ?_
    refine aopsT_cut 13 (fun K_c h_c => ?_)
    try simp only [↓reduceIte, namesOf, List.any, I.names, aopsT, qstep, astep, ev, setd, List.set, List.getD, List.getElem?_cons_zero, List.getElem?_cons_succ, List.cons_append, List.nil_append, List.length_cons, List.length_nil, Option.getD_some, Bool.or_false, Bool.or_true, Bool.false_eq_true, Nat.reduceAdd, ↓opt_def, AV.isAny, AV.cells, ldc, List.map_cons, List.map_nil, eq_self, List.take_succ_cons, hbu, hhu, fillA, ↓Option.map_some, held, srcOf, AV.er, AV.er1, Ver.noRoom, AV.fits, AV.one, List.all_cons, List.all_nil, Nat.reduceBEq, Bool.not_false, Bool.and_self, Nat.zero_add, splice, List.take, List.drop, Nat.reduceLeDiff, Nat.one_mul, Nat.zero_add, and_self, List.isEmpty, List.flatMap_cons, List.flatMap_nil, List.append_nil]
    refine h_c _ _ ?_
    clear h_c K_c
    simp only [List.drop_succ_cons, List.drop_zero, Nat.zero_add]
    have hh2 : ((τ.up 16).set (τ.next + 12) (.obj [.int .u64 (e.x.id : Int), .sl (spsAV e.x.sp) .none, .int .i64 (e.row : Int), .int .i64 ((turn + 1 : Nat) : Int)])).res h = some (.obj [.func n_klessT [] [.ptr pl 0], .sl [] .nil, .int .i64 ((turn + 1 : Nat) : Int)]) := by rw [St.set_other _ _ (by omega)]; exact hhu 16
    try simp only [↓reduceIte, aopsT, qstep, astep, ev, setd, List.set, List.getD, List.getElem?_cons_zero, List.getElem?_cons_succ, List.cons_append, List.nil_append, List.length_cons, List.length_nil, then_normal, Option.getD_some, Nat.reduceAdd, AV.isAny, AV.cells, eq_self, decide_true, hh2, AV.fits, AV.one, List.all_cons, List.all_nil, Nat.reduceBEq, Bool.not_false, Bool.and_self, Nat.zero_add, splice, List.take, List.drop, Nat.reduceLeDiff]
    refine key _ _ (τ.next + 12) ⟨St.set_same _ _ _, ?_, fun e => (by cases e), fun nm' e' => ?_, H.ne⟩ ⟨by simp; omega, fun n h1 h2 _ => ?_⟩ (by omega) (by simp) rfl
    · rw [St.set_other _ _ H.ne, St.set_other _ _ (by omega)]; exact (hk0 pl hpn H.ne).trans hless
    · cases e'
      refine ⟨⟨by omega, by omega⟩, [.int .u64 (e.x.id : Int), .sl (spsAV e.x.sp) .none, .int .i64 (e.row : Int), .int .i64 ((turn + 1 : Nat) : Int)], ?_, by simp, ?_⟩
      · rw [St.set_other _ _ (by omega)]; simp
      · rw [← ht]; rfl
    · rw [St.set_other _ _ h2, St.set_other _ _ (by omega)]; exact hk0 n h1 h2
  | some nm =>
    obtain ⟨⟨hne1, hne2⟩, cs, hr, hl, hc⟩ := H.row nm rfl
    have hnn := wf.lt hr
    have hru : ∀ k, (τ.up k).res nm = some (.obj cs) := fun _ => (hk0 nm hnn hne1).trans hr
    simp only [hslT] at hhu
    have hb1 : (l.length + 1) * 48 ≤ 70368744177664 := by omega
    have hb2 : l.length + 1 ≤ 4611686018427387904 := by omega
    refine T.regt hm (tbl := []) Tbl.ok_nil ?_
    refine aopsT_cut 13 (fun K_c h_c => ?_)
    try simp only [↓reduceIte, namesOf, List.any, I.names, aopsT, qstep, astep, ev, setd, List.set, List.getD, List.getElem?_cons_zero, List.getElem?_cons_succ, List.cons_append, List.nil_append, List.length_cons, List.length_nil, Option.getD_some, Bool.or_false, Bool.or_true, Nat.reduceAdd, ↓opt_def, AV.isAny, AV.cells, ldc, List.map_cons, List.map_nil, eq_self, List.take_succ_cons, hbu, hhu, hru, hl, hb1, hb2, fillA, ↓Option.map_some, held, srcOf, AV.er, AV.er1, AV.fits, AV.one, List.all_cons, List.all_nil, Nat.reduceBEq, Bool.not_false, Bool.and_self, Nat.zero_add, splice, List.take, List.drop, Nat.reduceLeDiff, Nat.zero_add, and_self, List.flatMap_cons, List.flatMap_nil, List.append_nil]
    refine h_c _ _ ?_
    clear h_c K_c
    simp only [List.drop_succ_cons, List.drop_zero, Nat.zero_add]
    have hh2 : (((τ.up 16).del nm).set (τ.next + 12) (.obj (cs.take (l.length * 4) ++ [.int .u64 (e.x.id : Int), .sl (spsAV e.x.sp) .none, .int .i64 (e.row : Int), .int .i64 ((turn + 1 : Nat) : Int)]))).res h = some (.obj [.func n_klessT [] [.ptr pl 0], .refr nm 4 l.length, .int .i64 ((turn + 1 : Nat) : Int)]) := by
      rw [St.set_other _ _ (by omega)]
      simp only [St.del, if_neg (Ne.symm hne1)]; exact hhu 16
    try simp only [↓reduceIte, aopsT, qstep, astep, ev, setd, List.set, List.getD, List.getElem?_cons_zero, List.getElem?_cons_succ, List.cons_append, List.nil_append, List.length_cons, List.length_nil, then_normal, Option.getD_some, Nat.reduceAdd, AV.isAny, AV.cells, eq_self, decide_true, hh2, AV.fits, AV.one, List.all_cons, List.all_nil, Nat.reduceBEq, Bool.not_false, Bool.and_self, Nat.zero_add, splice, List.take, List.drop, Nat.reduceLeDiff]
    refine key _ _ (τ.next + 12) ⟨?_, ?_, fun e => (by cases e), fun nm' e' => ?_, H.ne⟩ ⟨by simp; omega, fun n h1 h2 h3 => ?_⟩ (by omega) (by simp) rfl
    · rw [St.set_same]; simp [hslT]
    · rw [St.set_other _ _ H.ne, St.set_other _ _ (by omega)]
      simp only [St.del, if_neg (Ne.symm hne2)]; exact (hk0 pl hpn H.ne).trans hless
    · cases e'
      refine ⟨⟨by omega, by omega⟩, cs.take (l.length * 4) ++ [.int .u64 (e.x.id : Int), .sl (spsAV e.x.sp) .none, .int .i64 (e.row : Int), .int .i64 ((turn + 1 : Nat) : Int)], ?_, ?_, ?_⟩
      · rw [St.set_other _ _ (by omega)]; simp
      · simp only [List.length_append, List.length_take, List.length_cons, List.length_nil]; omega
      · rw [List.take_of_length_le (by simp only [List.length_append, List.length_take, List.length_cons, List.length_nil]; omega), hc, List.flatMap_append, ← ht]; rfl
    · rw [St.set_other _ _ h2, St.set_other _ _ (by omega)]
      simp only [St.del, if_neg (h3 nm rfl)]; exact hk0 n h1 h2

theorem nb_fT (m : Nat) (e : En Tc) : (AV.agg (fCT e)).nb m := ⟨trivial, ⟨nbs_sps _ _, trivial⟩, trivial, trivial⟩

/-- what Peek and Pop tell -/
def topT : List (En Tc) → AV
  | [] => .tup [.agg [.int .u64 0, .sl [] .nil, .int .i64 0], .bool false]
  | e :: _ => .tup [.agg (fCT e), .bool true]

set_option maxRecDepth 10000 in
theorem hpeekT_ok {h pl : Nat} {G : Option Nat} {l : List (En Tc)} {turn : Nat} {σ : St} (H : HpT σ h pl G l turn) :
    ACalls Try.prog n_hpeekT [.ptr h 0] σ (fun v σ' => v = topT l ∧ σ' = σ) := by
  refine s_hpeekT (fun wf => ?_)
  unfold c_hpeekT
  have hobj := H.obj
  have hhn := wf.lt hobj
  refine T.seq_k (fun K_h1 h1 => ?_)
  refine T.regi hm ?_
  simp only [↓reduceIte, namesOf, List.any, I.names, aopsI, astep, ev, setd, List.set, List.cons_append, List.nil_append, List.length_cons, List.length_nil, List.replicate, then_normal, Bool.or_false, Nat.reduceAdd, Nat.reduceSub, eq_self]
  have hL1 : Like σ ((σ.up 2).set (σ.next + 0) (.obj [.int .u64 0, .sl [] .nil, .int .i64 0])) := (Like.refl σ).box (n := 2) (i := 0) _
  have hp1 : ((σ.up 2).set (σ.next + 0) (.obj [.int .u64 0, .sl [] .nil, .int .i64 0])).res (σ.next + 0) = some (.obj [.int .u64 0, .sl [] .nil, .int .i64 0]) := by simp
  have hpn : σ.next + 0 < ((σ.up 2).set (σ.next + 0) (.obj [.int .u64 0, .sl [] .nil, .int .i64 0])).next := by simp
  have hpl : σ.next ≤ σ.next + 0 := by omega
  generalize ((σ.up 2).set (σ.next + 0) (.obj [.int .u64 0, .sl [] .nil, .int .i64 0])) = σ1 at hL1 hp1 hpn ⊢
  generalize σ.next + 0 = p at hp1 hpn hpl ⊢
  have ho1 := hL1.get hhn hobj
  refine h1 _ _ ?_
  try clear h1 K_h1
  refine T.seq_k (fun K_h1 h1 => ?_)
  cases l with
  | nil =>
    cases G with
    | none =>
      refine T.seq_k (fun K_h2 h2 => ?_)
      simp only [hslT] at ho1
      refine T.regi hm ?_
      simp only [↓reduceIte, namesOf, List.any, I.names, aopsI, astep, ev, setd, List.set, List.getD, List.getElem?_cons_zero, List.getElem?_cons_succ, List.length_nil, then_normal, Option.getD_some, Bool.or_false, Bool.false_eq_true, up_zero, Nat.reduceAdd, binv, ↓opt_def, ldc, eq_self, ho1, List.length_nil, Int.natCast_zero, beq_self_eq_true]
      refine h2 _ _ ?_
      try clear h2 K_h2
      refine T.cond rfl (fun _ => ?_) (fun h => by cases h)
      refine T.seq_k (fun K_h2 h2 => ?_)
      refine T.regi hm ?_
      simp only [↓reduceIte, namesOf, List.any, I.names, aopsI, astep, setd, List.set, List.length_cons, List.length_nil, then_normal, Bool.or_false, Nat.reduceAdd, eq_self]
      have hp2 : ((σ1.up 1).set (σ1.next + 0) (.obj [.int .u64 0, .sl [] .nil, .int .i64 0])).res p = some (.obj [.int .u64 0, .sl [] .nil, .int .i64 0]) := by rw [St.set_other _ _ (by omega)]; exact hp1
      have hp3 : ((σ1.up 1).set (σ1.next + 0) (.obj [.int .u64 0, .sl [] .nil, .int .i64 0])).res (σ1.next + 0) = some (.obj [.int .u64 0, .sl [] .nil, .int .i64 0]) := by simp
      have hL2 : Like σ ((σ1.up 1).set (σ1.next + 0) (.obj [.int .u64 0, .sl [] .nil, .int .i64 0])) := hL1.box (n := 1) (i := 0) _
      generalize ((σ1.up 1).set (σ1.next + 0) (.obj [.int .u64 0, .sl [] .nil, .int .i64 0])) = σ2 at hp2 hp3 hL2 ⊢
      generalize σ1.next + 0 = q at hp3 ⊢
      refine h2 _ _ ?_
      try clear h2 K_h2
      refine T.seq_k (fun K_h2 h2 => ?_)
      refine T.regi hm ?_
      simp only [↓reduceIte, namesOf, List.any, I.names, aopsI, astep, ev, setd, List.set, List.getD, List.getElem?_cons_zero, List.getElem?_cons_succ, List.cons_append, List.nil_append, List.length_cons, List.length_nil, then_normal, Option.getD_some, Bool.or_false, Bool.false_eq_true, up_zero, Nat.reduceAdd, ↓opt_def, AV.isAny, AV.cells, ldc, eq_self, decide_true, hp2, hp3, AV.fits, AV.one, List.all_cons, List.all_nil, Nat.reduceBEq, Bool.not_false, Bool.and_self, Nat.zero_add, splice, List.take, List.drop, Nat.reduceLeDiff]
      have hL3 : Like σ (σ2.set p (.obj [.int .u64 0, .sl [] .nil, .int .i64 0])) := hL2.set _ hpl
      have hp4 : (σ2.set p (.obj [.int .u64 0, .sl [] .nil, .int .i64 0])).res p = some (.obj [.int .u64 0, .sl [] .nil, .int .i64 0]) := St.set_same _ _ _
      generalize (σ2.set p (.obj [.int .u64 0, .sl [] .nil, .int .i64 0])) = σ3 at hL3 hp4 ⊢
      refine h2 _ _ ?_
      try clear h2 K_h2
      exact T.ret (Fin.quiet (xs := [.agg [.int .u64 0, .sl [] .nil, .int .i64 0], .bool false]) (by simp [rvals, rval, hp4, ldc]) (⟨⟨trivial, ⟨trivial, trivial⟩, trivial, trivial⟩, trivial, trivial⟩) (hL3.quiet wf) ⟨rfl, rfl⟩)
    | some nm =>
      refine T.seq_k (fun K_h2 h2 => ?_)
      simp only [hslT] at ho1
      refine T.regi hm ?_
      simp only [↓reduceIte, namesOf, List.any, I.names, aopsI, astep, ev, setd, List.set, List.getD, List.getElem?_cons_zero, List.getElem?_cons_succ, List.length_nil, then_normal, Option.getD_some, Bool.or_false, Bool.false_eq_true, up_zero, Nat.reduceAdd, binv, ↓opt_def, ldc, eq_self, ho1, List.length_nil, Int.natCast_zero, beq_self_eq_true]
      refine h2 _ _ ?_
      try clear h2 K_h2
      refine T.cond rfl (fun _ => ?_) (fun h => by cases h)
      refine T.seq_k (fun K_h2 h2 => ?_)
      refine T.regi hm ?_
      simp only [↓reduceIte, namesOf, List.any, I.names, aopsI, astep, setd, List.set, List.length_cons, List.length_nil, then_normal, Bool.or_false, Nat.reduceAdd, eq_self]
      have hp2 : ((σ1.up 1).set (σ1.next + 0) (.obj [.int .u64 0, .sl [] .nil, .int .i64 0])).res p = some (.obj [.int .u64 0, .sl [] .nil, .int .i64 0]) := by rw [St.set_other _ _ (by omega)]; exact hp1
      have hp3 : ((σ1.up 1).set (σ1.next + 0) (.obj [.int .u64 0, .sl [] .nil, .int .i64 0])).res (σ1.next + 0) = some (.obj [.int .u64 0, .sl [] .nil, .int .i64 0]) := by simp
      have hL2 : Like σ ((σ1.up 1).set (σ1.next + 0) (.obj [.int .u64 0, .sl [] .nil, .int .i64 0])) := hL1.box (n := 1) (i := 0) _
      generalize ((σ1.up 1).set (σ1.next + 0) (.obj [.int .u64 0, .sl [] .nil, .int .i64 0])) = σ2 at hp2 hp3 hL2 ⊢
      generalize σ1.next + 0 = q at hp3 ⊢
      refine h2 _ _ ?_
      try clear h2 K_h2
      refine T.seq_k (fun K_h2 h2 => ?_)
      refine T.regi hm ?_
      simp only [↓reduceIte, namesOf, List.any, I.names, aopsI, astep, ev, setd, List.set, List.getD, List.getElem?_cons_zero, List.getElem?_cons_succ, List.cons_append, List.nil_append, List.length_cons, List.length_nil, then_normal, Option.getD_some, Bool.or_false, Bool.false_eq_true, up_zero, Nat.reduceAdd, ↓opt_def, AV.isAny, AV.cells, ldc, eq_self, decide_true, hp2, hp3, AV.fits, AV.one, List.all_cons, List.all_nil, Nat.reduceBEq, Bool.not_false, Bool.and_self, Nat.zero_add, splice, List.take, List.drop, Nat.reduceLeDiff]
      have hL3 : Like σ (σ2.set p (.obj [.int .u64 0, .sl [] .nil, .int .i64 0])) := hL2.set _ hpl
      have hp4 : (σ2.set p (.obj [.int .u64 0, .sl [] .nil, .int .i64 0])).res p = some (.obj [.int .u64 0, .sl [] .nil, .int .i64 0]) := St.set_same _ _ _
      generalize (σ2.set p (.obj [.int .u64 0, .sl [] .nil, .int .i64 0])) = σ3 at hL3 hp4 ⊢
      refine h2 _ _ ?_
      try clear h2 K_h2
      exact T.ret (Fin.quiet (xs := [.agg [.int .u64 0, .sl [] .nil, .int .i64 0], .bool false]) (by simp [rvals, rval, hp4, ldc]) (⟨⟨trivial, ⟨trivial, trivial⟩, trivial, trivial⟩, trivial, trivial⟩) (hL3.quiet wf) ⟨rfl, rfl⟩)
  | cons e r =>
    obtain ⟨nm, rfl⟩ := H.named (i := 0) (a := e) rfl
    obtain ⟨hne, cs, hr, hl, hc⟩ := H.row nm rfl
    obtain ⟨la, ga⟩ := rowk_get eCT_len hc hl (i := 0) (x := e) rfl
    have hr1 := hL1.get (wf.lt hr) hr
    have la3 : 3 ≤ cs.length := by omega
    have ga3 : cs.take 3 = fCT e := by
      have h3 : (cs.take 4).take 3 = (eCT e).take 3 := by rw [← ga]; simp
      rw [List.take_take] at h3
      exact h3
    simp only [hslT] at ho1
    have hpos : 0 < (e :: r).length := by simp
    have hlen : (((e :: r).length : Nat) : Int) = ((r.length + 1 : Nat) : Int) := rfl
    have hz : ((((e :: r).length : Nat) : Int) == 0) = false := by rw [beq_eq_false_iff_ne, hlen]; omega
    have hposI : (0 : Int) < (((e :: r).length : Nat) : Int) := by rw [hlen]; omega
    have hzz : ((0 : Int) ≤ 0) = True := eq_true (Int.le_refl 0)
    generalize hn : (e :: r).length = n at ho1 hpos hz hposI
    refine T.seq_k (fun K_h2 h2 => ?_)
    refine T.regi hm ?_
    simp only [↓reduceIte, namesOf, List.any, I.names, aopsI, astep, ev, setd, List.set, List.getD, List.getElem?_cons_zero, List.getElem?_cons_succ, then_normal, Option.getD_some, Bool.or_false, Bool.false_eq_true, up_zero, Nat.reduceAdd, binv, ↓opt_def, ldc, eq_self, ho1, hz]
    refine h2 _ _ ?_
    try clear h2 K_h2
    refine T.cond rfl (fun h => by cases h) (fun _ => T.skip ?_)
    refine h1 _ _ ?_
    try clear h1 K_h1
    refine T.seq_k (fun K_h1 h1 => ?_)
    have hfit : (AV.agg (fCT e)).fits 3 = true := rfl
    refine T.regi hm ?_
    simp only [↓reduceIte, namesOf, List.any, I.names, aopsI, astep, ev, setd, List.set, List.getD, List.getElem?_cons_zero, List.getElem?_cons_succ, List.cons_append, List.nil_append, List.length_cons, List.length_nil, then_normal, Option.getD_some, Bool.or_false, Bool.false_eq_true, up_zero, Nat.reduceAdd, ↓opt_def, AV.isAny, AV.cells, ldc, and_true, decide_true, ho1, hr1, hposI, hzz, Int.toNat_zero, Nat.zero_mul, Nat.add_zero, Nat.zero_add, la3, ga3, hp1, AV.fits, splice, List.take_zero, List.drop, Nat.reduceLeDiff, decide_true]
    have hL3 : Like σ (σ1.set p (.obj (fCT e))) := hL1.set _ hpl
    have hp4 : (σ1.set p (.obj (fCT e))).res p = some (.obj (fCT e)) := St.set_same _ _ _
    generalize (σ1.set p (.obj (fCT e))) = σ3 at hL3 hp4 ⊢
    refine h1 _ _ ?_
    try clear h1 K_h1
    exact T.ret (Fin.quiet (xs := [.agg (fCT e), .bool true]) (by simp [rvals, rval, hp4, ldc]) ⟨nb_fT _ e, trivial, trivial⟩ (hL3.quiet wf) ⟨rfl, rfl⟩)

theorem HpT.alike {σ t : St} {h pl : Nat} {G : Option Nat} {l : List (En Tc)} {turn : Nat} (wf : WF σ) (H : HpT σ h pl G l turn) (hk : Like σ t) : HpT t h pl G l turn := H.keep (hk.quiet wf)

set_option maxRecDepth 10000 in
set_option maxHeartbeats 1000000 in
theorem hpopT_nil {h pl : Nat} {G : Option Nat} {turn : Nat} {σ : St} (H : HpT σ h pl G [] turn) :
    ACalls Try.prog n_hpopT [.ptr h 0] σ (fun v σ' => v = .tup [.agg [.int .u64 0, .sl [] .nil, .int .i64 0], .bool false] ∧ σ' = σ) := by
  refine s_hpopT (fun wf => ?_)
  unfold c_hpopT
  refine T.seq_k (fun K_h1 h1 => ?_)
  refine T.regi hm ?_
  simp only [↓reduceIte, namesOf, List.any, I.names, aopsI, astep, ev, setd, List.set, List.cons_append, List.nil_append, List.length_cons, List.length_nil, List.replicate, then_normal, Bool.or_false, Nat.reduceAdd, Nat.reduceSub, eq_self]
  have hL1 : Like σ ((σ.up 2).set (σ.next + 0) (.obj [.int .u64 0, .sl [] .nil, .int .i64 0])) := (Like.refl σ).box (n := 2) (i := 0) _
  have hp1 : ((σ.up 2).set (σ.next + 0) (.obj [.int .u64 0, .sl [] .nil, .int .i64 0])).res (σ.next + 0) = some (.obj [.int .u64 0, .sl [] .nil, .int .i64 0]) := by simp
  have hpn : σ.next + 0 < ((σ.up 2).set (σ.next + 0) (.obj [.int .u64 0, .sl [] .nil, .int .i64 0])).next := by simp
  have hpl : σ.next ≤ σ.next + 0 := by omega
  generalize ((σ.up 2).set (σ.next + 0) (.obj [.int .u64 0, .sl [] .nil, .int .i64 0])) = σ1 at hL1 hp1 hpn ⊢
  generalize σ.next + 0 = p at hp1 hpn hpl ⊢
  refine h1 _ _ ?_
  try clear h1 K_h1
  refine T.seq_k (fun K_h1 h1 => ?_)
  refine T.regt hm (tbl := []) Tbl.ok_nil ?_
  refine aopsT_cut 2 (fun K_c h_c => ?_)
  try simp only [↓reduceIte, namesOf, List.any, I.names, aopsT, qstep, CPt, Tbl.get, astep, ev, setd, List.set, List.getD, List.getElem?_cons_zero, List.getElem?_cons_succ, List.length_cons, List.length_nil, Option.getD_some, Bool.or_false, Bool.or_true, Nat.reduceAdd, List.map_cons, List.map_nil, eq_self, List.take_succ_cons, List.take_zero]
  refine (hpeekT_ok ((H.alike wf hL1).keep (fun n r hr => by simpa using hr))).mono ?_
  rintro _ _ ⟨rfl, rfl⟩
  refine h_c _ _ ?_
  clear h_c K_c
  simp only [List.drop_succ_cons, List.drop_zero, Nat.zero_add, topT]
  try simp only [↓reduceIte, aopsT, qstep, astep, ev, setd, List.set, List.getD, List.getElem?_cons_zero, List.getElem?_cons_succ, List.cons_append, List.nil_append, List.length_cons, List.length_nil, then_normal, Option.getD_some, Nat.reduceAdd, ↓opt_def, AV.isAny, AV.cells, St.set_same, eq_self, decide_true, AV.fits, AV.one, List.all_cons, List.all_nil, Nat.reduceBEq, Bool.not_false, Bool.and_self, Nat.zero_add, splice, List.take, List.drop, Nat.reduceLeDiff, St.set_set]
  have hp2 : ((σ1.up 8).set (σ1.next + 5) (.obj [.int .u64 0, .sl [] .nil, .int .i64 0])).res p = some (.obj [.int .u64 0, .sl [] .nil, .int .i64 0]) := by rw [St.set_other _ _ (by omega)]; exact hp1
  have hp3 : ((σ1.up 8).set (σ1.next + 5) (.obj [.int .u64 0, .sl [] .nil, .int .i64 0])).res (σ1.next + 5) = some (.obj [.int .u64 0, .sl [] .nil, .int .i64 0]) := by simp
  have hL2 : Like σ ((σ1.up 8).set (σ1.next + 5) (.obj [.int .u64 0, .sl [] .nil, .int .i64 0])) := hL1.box (n := 8) (i := 5) _
  generalize ((σ1.up 8).set (σ1.next + 5) (.obj [.int .u64 0, .sl [] .nil, .int .i64 0])) = σ2 at hp2 hp3 hL2 ⊢
  generalize σ1.next + 5 = q at hp3 ⊢
  refine h1 _ _ ?_
  try clear h1 K_h1
  refine T.seq_k (fun K_h1 h1 => ?_)
  refine T.seq_k (fun K_h0 h0 => ?_)
  refine T.regi hm ?_
  simp only [↓reduceIte, namesOf, List.any, I.names, aopsI, astep, ev, setd, List.set, List.getD, List.getElem?_cons_zero, List.getElem?_cons_succ, then_normal, Option.getD_some, Bool.or_false, Bool.false_eq_true, up_zero]
  refine h0 _ _ ?_
  try clear h0 K_h0
  refine T.cond rfl (fun _ => ?_) (fun h => by cases h)
  refine T.seq_k (fun K_h1 h1 => ?_)
  refine T.regi hm ?_
  simp only [↓reduceIte, namesOf, List.any, I.names, aopsI, astep, ev, setd, List.set, List.getD, List.getElem?_cons_zero, List.getElem?_cons_succ, List.cons_append, List.nil_append, List.length_cons, List.length_nil, then_normal, Option.getD_some, Bool.or_false, Bool.false_eq_true, up_zero, Nat.reduceAdd, ↓opt_def, AV.isAny, AV.cells, ldc, eq_self, decide_true, hp2, hp3, AV.fits, AV.one, List.all_cons, List.all_nil, Nat.reduceBEq, Bool.not_false, Bool.and_self, Nat.zero_add, splice, List.take, List.drop, Nat.reduceLeDiff]
  have hL3 : Like σ (σ2.set p (.obj [.int .u64 0, .sl [] .nil, .int .i64 0])) := hL2.set _ hpl
  have hp4 : (σ2.set p (.obj [.int .u64 0, .sl [] .nil, .int .i64 0])).res p = some (.obj [.int .u64 0, .sl [] .nil, .int .i64 0]) := St.set_same _ _ _
  generalize (σ2.set p (.obj [.int .u64 0, .sl [] .nil, .int .i64 0])) = σ3 at hL3 hp4 ⊢
  refine h1 _ _ ?_
  try clear h1 K_h1
  exact T.ret (Fin.quiet (xs := [.agg [.int .u64 0, .sl [] .nil, .int .i64 0], .bool false]) (by simp [rvals, rval, hp4, ldc]) (⟨⟨trivial, ⟨trivial, trivial⟩, trivial, trivial⟩, trivial, trivial⟩) (hL3.quiet wf) ⟨rfl, rfl⟩)

theorem row_short {β : Type} {f : β → List AV} {k : Nat} (hf : ∀ b, (f b).length = k) {l : List β} {cs : List AV} (hc : cs.take (l.length * k) = l.flatMap f) (hl : l.length * k ≤ cs.length) {n : Nat} (hn : n ≤ l.length) :
    (l.take n).length * k ≤ cs.length ∧ cs.take ((l.take n).length * k) = (l.take n).flatMap f := by
  have hm : n * k ≤ l.length * k := Nat.mul_le_mul_right _ hn
  rw [List.length_take, Nat.min_eq_left hn]
  refine ⟨by omega, ?_⟩
  rw [← flatk_take hf, ← hc, List.take_take, Nat.min_eq_left hm]

/-- the least is gone -/
structure PopT (σ σ' : St) (h pl : Nat) (G : Option Nat) (e : En Tc) (l l' : List (En Tc)) (turn : Nat) : Prop where
  hp : HpT σ' h pl G l' turn
  perm : (e :: l').Perm l
  heap : HeapL keyT l'
  fr : HFrT σ σ' h G

set_option maxRecDepth 10000 in
set_option maxHeartbeats 2000000 in
theorem hpopT_ok {h pl : Nat} {G : Option Nat} {e : En Tc} {r : List (En Tc)} {turn : Nat} {σ : St} (H : HpT σ h pl G (e :: r) turn) (hh : HeapL keyT (e :: r)) (hlen : (e :: r).length ≤ 1000000) :
    ACalls Try.prog n_hpopT [.ptr h 0] σ (fun v σ' => v = .tup [.agg (fCT e), .bool true] ∧ ∃ l', PopT σ σ' h pl G e (e :: r) l' turn) := by
  refine s_hpopT (fun wf => ?_)
  unfold c_hpopT
  obtain ⟨nm, rfl⟩ := H.named (i := 0) (a := e) rfl
  obtain ⟨⟨hne1, hne2⟩, cs0, hr0, _, _⟩ := H.row nm rfl
  have hnn := wf.lt hr0
  have hhn := wf.lt H.obj
  have hpn0 := wf.lt H.less
  refine T.seq_k (fun K_h1 h1 => ?_)
  refine T.regi hm ?_
  simp only [↓reduceIte, namesOf, List.any, I.names, aopsI, astep, ev, setd, List.set, List.cons_append, List.nil_append, List.length_cons, List.length_nil, List.replicate, then_normal, Bool.or_false, Nat.reduceAdd, Nat.reduceSub, eq_self]
  have hL1 : Like σ ((σ.up 2).set (σ.next + 0) (.obj [.int .u64 0, .sl [] .nil, .int .i64 0])) := (Like.refl σ).box (n := 2) (i := 0) _
  have hp1 : ((σ.up 2).set (σ.next + 0) (.obj [.int .u64 0, .sl [] .nil, .int .i64 0])).res (σ.next + 0) = some (.obj [.int .u64 0, .sl [] .nil, .int .i64 0]) := by simp
  have hpn : σ.next + 0 < ((σ.up 2).set (σ.next + 0) (.obj [.int .u64 0, .sl [] .nil, .int .i64 0])).next := by simp
  have hpl : σ.next ≤ σ.next + 0 := by omega
  generalize ((σ.up 2).set (σ.next + 0) (.obj [.int .u64 0, .sl [] .nil, .int .i64 0])) = σ1 at hL1 hp1 hpn ⊢
  generalize σ.next + 0 = p at hp1 hpn hpl ⊢
  refine h1 _ _ ?_
  try clear h1 K_h1
  refine T.seq_k (fun K_h1 h1 => ?_)
  refine T.regt hm (tbl := []) Tbl.ok_nil ?_
  refine aopsT_cut 2 (fun K_c h_c => ?_)
  try simp only [↓reduceIte, namesOf, List.any, I.names, aopsT, qstep, CPt, Tbl.get, astep, ev, setd, List.set, List.getD, List.getElem?_cons_zero, List.getElem?_cons_succ, List.length_cons, List.length_nil, Option.getD_some, Bool.or_false, Bool.or_true, Nat.reduceAdd, List.map_cons, List.map_nil, eq_self, List.take_succ_cons, List.take_zero]
  refine (hpeekT_ok ((H.alike wf hL1).keep (fun n r hr => by simpa using hr))).mono ?_
  rintro _ _ ⟨rfl, rfl⟩
  refine h_c _ _ ?_
  clear h_c K_c
  simp only [List.drop_succ_cons, List.drop_zero, Nat.zero_add, topT]
  try simp only [↓reduceIte, aopsT, qstep, astep, ev, setd, List.set, List.getD, List.getElem?_cons_zero, List.getElem?_cons_succ, List.cons_append, List.nil_append, List.length_cons, List.length_nil, then_normal, Option.getD_some, Nat.reduceAdd, ↓opt_def, AV.isAny, AV.cells, St.set_same, eq_self, decide_true, AV.fits, AV.one, List.all_cons, List.all_nil, Nat.reduceBEq, Bool.not_false, Bool.and_self, Nat.zero_add, splice, List.take, List.drop, Nat.reduceLeDiff, St.set_set]
  have hp2 : ((σ1.up 8).set (σ1.next + 5) (.obj (fCT e))).res p = some (.obj [.int .u64 0, .sl [] .nil, .int .i64 0]) := by rw [St.set_other _ _ (by omega)]; exact hp1
  have hp3 : ((σ1.up 8).set (σ1.next + 5) (.obj (fCT e))).res (σ1.next + 5) = some (.obj (fCT e)) := by simp
  have hL2 : Like σ ((σ1.up 8).set (σ1.next + 5) (.obj (fCT e))) := hL1.box (n := 8) (i := 5) _
  have hpn2 : p < ((σ1.up 8).set (σ1.next + 5) (.obj (fCT e))).next := by simp; omega
  have hqn2 : σ1.next + 5 < ((σ1.up 8).set (σ1.next + 5) (.obj (fCT e))).next := by simp
  have hql : σ.next ≤ σ1.next + 5 := by omega
  have hpq : p ≠ σ1.next + 5 := by omega
  generalize ((σ1.up 8).set (σ1.next + 5) (.obj (fCT e))) = σ2 at hp2 hp3 hL2 hpn2 hqn2 ⊢
  generalize σ1.next + 5 = q at hp3 hqn2 hql hpq ⊢
  clear hp1 hpn hL1 σ1
  have H2 := H.alike wf hL2
  refine h1 _ _ ?_
  try clear h1 K_h1
  refine T.seq_k (fun K_h1 h1 => ?_)
  refine T.seq_k (fun K_h0 h0 => ?_)
  refine T.regi hm ?_
  simp only [↓reduceIte, namesOf, List.any, I.names, aopsI, astep, ev, setd, List.set, List.getD, List.getElem?_cons_zero, List.getElem?_cons_succ, then_normal, Option.getD_some, Bool.or_false, Bool.false_eq_true, up_zero]
  refine h0 _ _ ?_
  try clear h0 K_h0
  refine T.cond rfl (fun h => by cases h) (fun _ => T.skip ?_)
  refine h1 _ _ ?_
  try clear h1 K_h1
  have ho2 := H2.obj
  simp only [hslT] at ho2
  have hw1 : IntKind.i64.wrap ((((e :: r).length : Nat) : Int) - 1) = (r.length : Int) := by
    have : (((e :: r).length : Nat) : Int) = ((r.length + 1 : Nat) : Int) := rfl
    rw [this, wrap64 (by omega) (by simp at hlen; omega)]; omega
  generalize hln : (e :: r).length = ln at ho2 hw1
  refine T.seq_k (fun K_h0 h0 => ?_)
  refine T.regi hm ?_
  simp only [↓reduceIte, namesOf, List.any, I.names, aopsI, astep, ev, setd, List.set, List.getD, List.getElem?_cons_zero, List.getElem?_cons_succ, then_normal, Option.getD_some, Bool.or_false, Bool.false_eq_true, up_zero, Nat.reduceAdd, binv, ↓opt_def, ldc, eq_self, ho2, hw1]
  refine h0 _ _ ?_
  try clear h0 K_h0
  subst hln
  -- the last one comes first
  have ha : (e :: r)[0]? = some e := rfl
  have hb : (e :: r)[r.length]? = some ((e :: r)[r.length]'(by simp)) := by simp
  generalize (e :: r)[r.length]'(by simp) = b at hb
  refine T.seq_k (fun K_h1 h1 => ?_)
  refine T.regi hm ?_
  simp only [↓reduceIte, namesOf, List.any, I.names, aopsI, astep, ev, setd, List.set, List.getD, List.getElem?_cons_zero, List.getElem?_cons_succ, List.length_cons, then_normal, Option.getD_some, Bool.or_false, Bool.false_eq_true, up_zero, List.map_cons, List.map_nil]
  refine (hswapT_ok (i := 0) H2 ha hb).mono ?_
  rintro v σ3 ⟨rfl, H3, hf3, hnx3⟩
  try simp only [↓reduceIte, namesOf, List.any, I.names, aops, aopsI, aopsT, qstep, CPt, qget, Tbl.get, astep, ev, setd, List.set, List.getD, List.getElem?_cons_zero, List.getElem?_cons_succ, List.getElem?_nil, List.cons_append, List.nil_append, List.length_cons, List.length_nil, List.replicate, then_normal, inBlock_normal, Option.getD_some, Option.getD_none, Bool.or_false, Bool.or_true, Bool.true_or, Bool.false_or, Bool.false_eq_true, if_false, if_true, up_zero, Nat.reduceAdd, Nat.reduceSub, binv, ↓opt_def, AV.isAny, AV.cells, ldc, List.map_cons, List.map_nil, St.set_next, St.set_same, St.up_next, Int.natCast_nonneg, lt_len, le_len, Int.toNat_natCast, true_and, and_true, eq_self, reduceCtorEq, decide_true, List.length_singleton, er_int, er_bool, er_str, up_zero]
  refine h1 _ _ ?_
  try clear h1 K_h1
  refine T.seq_k (fun K_h1 h1 => ?_)
  have ho3 := H3.obj
  simp only [hslT, sw_len] at ho3
  have hle1 : ((r.length : Int) ≤ ((r.length + 1 : Nat) : Int)) = True := eq_true (by omega)
  refine T.regi hm ?_
  simp only [↓reduceIte, namesOf, List.any, I.names, aopsI, astep, ev, setd, List.set, List.getD, List.getElem?_cons_zero, List.getElem?_cons_succ, List.cons_append, List.nil_append, List.length_cons, List.length_nil, then_normal, Option.getD_some, Bool.or_false, Bool.false_eq_true, up_zero, Nat.reduceAdd, ↓opt_def, AV.isAny, AV.cells, ldc, Int.natCast_nonneg, Int.toNat_natCast, and_true, eq_self, decide_true, ho3, idx, hle1, AV.fits, AV.one, List.all_cons, List.all_nil, Nat.reduceBEq, Bool.not_false, Bool.and_self, Nat.zero_add, splice, List.take, List.drop, Nat.reduceLeDiff]
  obtain ⟨_, cs3, hr3, hl3, hc3⟩ := H3.row nm rfl
  have hsl : (sw (e :: r) 0 r.length e b).length = r.length + 1 := by rw [sw_len]; rfl
  obtain ⟨hl4, hc4⟩ := row_short eCT_len hc3 hl3 (n := r.length) (by rw [hsl]; omega)
  have hp30 : σ3.res p = some (.obj [.int .u64 0, .sl [] .nil, .int .i64 0]) := by rw [hf3.old p hpn2 (by omega) (fun g e => by cases e; omega)]; exact hp2
  have hq30 : σ3.res q = some (.obj (fCT e)) := by rw [hf3.old q hqn2 (by omega) (fun g e => by cases e; omega)]; exact hp3
  have hln4 : ((sw (e :: r) 0 r.length e b).take r.length).length = r.length := by rw [List.length_take, hsl]; omega
  have H4 : HpT (σ3.set h (.obj [.func n_klessT [] [.ptr pl 0], .refr nm 4 r.length, .int .i64 (turn : Int)])) h pl (some nm) ((sw (e :: r) 0 r.length e b).take r.length) turn := by
    refine ⟨?_, ?_, fun e => (by cases e), fun nm' e' => ?_, H.ne⟩
    · rw [St.set_same, hln4]; rfl
    · rw [St.set_other _ _ H.ne]; exact H3.less
    · cases e'
      exact ⟨⟨hne1, hne2⟩, cs3, by rw [St.set_other _ _ hne1]; exact hr3, hl4, hc4⟩
  have hperm : (e :: (sw (e :: r) 0 r.length e b).take r.length).Perm (e :: r) := by
    have h1 := sw_perm ha hb
    have h2 : sw (e :: r) 0 r.length e b = (sw (e :: r) 0 r.length e b).take r.length ++ [e] := by
      conv => lhs; rw [← List.take_append_drop r.length (sw (e :: r) 0 r.length e b)]
      congr 1
      have h3 := sw_get ha hb r.length
      rw [if_pos rfl] at h3
      obtain ⟨h4, h5⟩ := List.getElem?_eq_some_iff.1 h3
      rw [List.drop_eq_getElem_cons h4, h5, List.drop_eq_nil_of_le (by rw [hsl]; omega)]
    rw [h2] at h1
    exact (List.perm_append_singleton e _).symm.trans h1
  have hsink : Sink keyT 0 ((sw (e :: r) 0 r.length e b).take r.length) := Sink.start hh (by simp) ha hb
  have hfr4 : HFrT σ (σ3.set h (.obj [.func n_klessT [] [.ptr pl 0], .refr nm 4 r.length, .int .i64 (turn : Int)])) h (some nm) := by
    refine ⟨Nat.le_trans hL2.next (by rw [St.set_next, hnx3]; exact Nat.le_refl _), fun n h1 h2 h3 => ?_⟩
    rw [St.set_other _ _ h2, hf3.old n (Nat.lt_of_lt_of_le h1 hL2.next) h2 h3]
    exact hL2.same n h1
  have hp40 : (σ3.set h (.obj [.func n_klessT [] [.ptr pl 0], .refr nm 4 r.length, .int .i64 (turn : Int)])).res p = some (.obj [.int .u64 0, .sl [] .nil, .int .i64 0]) := by rw [St.set_other _ _ (by omega)]; exact hp30
  have hq40 : (σ3.set h (.obj [.func n_klessT [] [.ptr pl 0], .refr nm 4 r.length, .int .i64 (turn : Int)])).res q = some (.obj (fCT e)) := by rw [St.set_other _ _ (by omega)]; exact hq30
  have hpn4 : p < (σ3.set h (.obj [.func n_klessT [] [.ptr pl 0], .refr nm 4 r.length, .int .i64 (turn : Int)])).next := by rw [St.set_next, hnx3]; exact hpn2
  have hqn4 : q < (σ3.set h (.obj [.func n_klessT [] [.ptr pl 0], .refr nm 4 r.length, .int .i64 (turn : Int)])).next := by rw [St.set_next, hnx3]; exact hqn2
  generalize (σ3.set h (.obj [.func n_klessT [] [.ptr pl 0], .refr nm 4 r.length, .int .i64 (turn : Int)])) = σ4 at H4 hfr4 hp40 hq40 hpn4 hqn4 ⊢
  generalize (sw (e :: r) 0 r.length e b).take r.length = l4 at H4 hperm hsink hln4
  clear hp30 hq30 hl4 hc4 hsl hr3 hl3 hc3 ho3 hle1 hf3 hnx3 H3 H2 hp2 hp3 hL2 hpn2 hqn2 hb ha hr0
  have hrl : r.length ≤ 1000000 := by simp at hlen; omega
  refine h1 _ _ ?_
  try clear h1 K_h1
  refine T.seq_k (fun K_h0 h0 => ?_)
  refine T.regi hm ?_
  simp only [↓reduceIte, namesOf, List.any, I.names, aopsI, astep, ev, setd, List.set, then_normal, Bool.or_false, Bool.false_eq_true, up_zero]
  refine h0 _ _ ?_
  try clear h0 K_h0
  refine T.gh (Gh.keep [0, 2, 4, 6, 7]) ?_
  refine T.block ?_
  refine T.loop (fun ρ t => ∃ (i : Nat) (l' : List (En Tc)), HpT t h pl (some nm) l' turn ∧ (e :: l').Perm (e :: r) ∧ Sink keyT i l' ∧ l'.length = r.length ∧ (i < r.length ∨ i = 0) ∧ HFrT σ t h (some nm) ∧ t.res p = some (.obj [.int .u64 0, .sl [] .nil, .int .i64 0]) ∧ t.res q = some (.obj (fCT e)) ∧ p < t.next ∧ q < t.next ∧
      ρ = [.ptr h 0, .any, .ptr p 0, .any, .ptr q 0, .any, .int .i64 (r.length : Int), .int .i64 (i : Int)] ++ List.replicate 55 .any)
    (fun ρ _ => match ρ.getD 7 .any with | .int _ n => r.length - n.toNat | _ => 0) ⟨0, l4, H4, hperm, hsink, hln4, .inr rfl, hfr4, hp40, hq40, hpn4, hqn4, rfl⟩ ?_
  clear H4 hperm hsink hln4 hfr4 hp40 hq40 hpn4 hqn4 σ4 l4
  rintro ρ t ⟨i, l', H1, hperm, hsink, hln, hi, hfr, hp, hq, hpn, hqn, rfl⟩
  have e1 : IntKind.i64.wrap (2 * (i : Int)) = ((2 * i : Nat) : Int) := by rw [wrap64 (by omega) (by omega)]; omega
  have e2 : IntKind.i64.wrap (((2 * i : Nat) : Int) + 1) = ((2 * i + 1 : Nat) : Int) := by rw [wrap64 (by omega) (by omega)]; omega
  have e3 : IntKind.i64.wrap (((2 * i : Nat) : Int) + 3) = ((2 * i + 3 : Nat) : Int) := by rw [wrap64 (by omega) (by omega)]; omega
  have e4 : (if (r.length : Int) < ((2 * i + 3 : Nat) : Int) then (r.length : Int) else ((2 * i + 3 : Nat) : Int)) = ((min (2 * i + 3) r.length : Nat) : Int) := by
    split <;> omega
  refine T.block ?_
  refine T.seq_k (fun K_h0 h0 => ?_)
  refine T.regi hm ?_
  simp only [↓reduceIte, namesOf, List.any, I.names, aopsI, astep, ev, setd, List.set, List.getD, List.getElem?_cons_zero, List.getElem?_cons_succ, List.cons_append, List.nil_append, List.replicate, then_normal, Option.getD_some, Bool.or_false, Bool.false_eq_true, up_zero, Int.toNat_natCast]
  refine h0 _ _ ?_
  try clear h0 K_h0
  refine T.seq_k (fun K_h1 h1 => ?_)
  refine T.seq_k (fun K_h0 h0 => ?_)
  refine T.regi hm ?_
  simp only [↓reduceIte, namesOf, List.any, I.names, aopsI, astep, ev, setd, List.set, List.getD, List.getElem?_cons_zero, List.getElem?_cons_succ, List.cons_append, List.nil_append, List.replicate, then_normal, Option.getD_some, Bool.or_false, Bool.false_eq_true, up_zero, binv, ↓opt_def, Int.toNat_natCast, eq_self, e1, e2]
  refine h0 _ _ ?_
  try clear h0 K_h0
  refine T.block ?_
  refine T.gh (Gh.keep [0, 2, 4, 6, 7, 8, 9]) ?_
  refine T.loopi (fun k ρ t1 => t1 = t ∧ 2 * i + 1 ≤ k ∧ ∃ best, (best = i ∨ (2 * i + 1 ≤ best ∧ best < k ∧ best < r.length)) ∧ (∀ x, l'[best]? = some x → ∀ c y, (c = i ∨ (2 * i + 1 ≤ c ∧ c < k)) → l'[c]? = some y → leE keyT x y) ∧
      ρ = [.ptr h 0, .any, .ptr p 0, .any, .ptr q 0, .any, .int .i64 (r.length : Int), .int .i64 (i : Int), .int .i64 (best : Int), .int .i64 (k : Int)] ++ List.replicate 53 .any)
    (2 * i + 3) (2 * i + 1) (by omega) ⟨rfl, Nat.le_refl _, i, .inl rfl, fun x hx c y hc hy => ?_, rfl⟩ ?_
  · have : c = i := by omega
    subst this
    rw [hx] at hy; cases hy; exact .refl _
  rintro k ρ t1 hk ⟨rfl, hk1, best, hbest, hmin, rfl⟩
  refine T.seq_k (fun K_h2 h2 => ?_)
  refine T.seq_k (fun K_h3 h3 => ?_)
  by_cases hkm : k < min (2 * i + 3) r.length
  · have e5 : decide ((k : Int) < ((min (2 * i + 3) r.length : Nat) : Int)) = true := decide_eq_true (by omega)
    refine T.regi hm ?_
    simp only [↓reduceIte, namesOf, List.any, I.names, aopsI, astep, ev, setd, List.set, List.getD, List.getElem?_cons_zero, List.getElem?_cons_succ, List.cons_append, List.nil_append, List.replicate, then_normal, Option.getD_some, Bool.or_false, Bool.false_eq_true, up_zero, binv, ↓opt_def, List.map_cons, List.map_nil, Int.toNat_natCast, eq_self, e1, e3, e4, e5, mn2, List.foldlM, bind, Option.bind, pure]
    refine h3 _ _ ?_
    try clear h3 K_h3
    refine T.cond rfl (fun _ => T.skip ?_) (fun h => by cases h)
    refine h2 _ _ ?_
    try clear h2 K_h2
    have hkn : k < l'.length := by omega
    have hbn : best < l'.length := by omega
    have hka : l'[k]? = some l'[k] := by simp [hkn]
    have hba : l'[best]? = some l'[best] := by simp [hbn]
    generalize l'[k] = x at hka
    generalize l'[best] = y at hba
    have hkw : IntKind.i64.wrap ((k : Int) + 1) = ((k + 1 : Nat) : Int) := inc64' hkn (by omega)
    refine T.seq_k (fun K_h2 h2 => ?_)
    refine T.block ?_
    refine T.seq_k (fun K_h3 h3 => ?_)
    refine T.regi hm ?_
    simp only [↓reduceIte, namesOf, List.any, I.names, aopsI, astep, ev, setd, List.set, List.getD, List.getElem?_cons_zero, List.getElem?_cons_succ, List.cons_append, List.nil_append, List.replicate, then_normal, Option.getD_some, Bool.or_false, Bool.false_eq_true, up_zero, List.map_cons, List.map_nil, Int.toNat_natCast]
    refine (haheadT_ok H1 hka hba).mono ?_
    rintro v t2 ⟨rfl, rfl⟩
    try simp only [↓reduceIte, namesOf, List.any, I.names, aops, aopsI, aopsT, qstep, CPt, qget, Tbl.get, astep, ev, setd, List.set, List.getD, List.getElem?_cons_zero, List.getElem?_cons_succ, List.getElem?_nil, List.cons_append, List.nil_append, List.length_cons, List.length_nil, List.replicate, then_normal, inBlock_normal, Option.getD_some, Option.getD_none, Bool.or_false, Bool.or_true, Bool.true_or, Bool.false_or, Bool.false_eq_true, if_false, if_true, up_zero, Nat.reduceAdd, Nat.reduceSub, binv, ↓opt_def, AV.isAny, AV.cells, ldc, List.map_cons, List.map_nil, St.set_next, St.set_same, St.up_next, Int.natCast_nonneg, lt_len, le_len, Int.toNat_natCast, true_and, and_true, eq_self, reduceCtorEq, decide_true, List.length_singleton, er_int, er_bool, er_str, up_zero]
    refine h3 _ _ ?_
    try clear h3 K_h3
    cases hab : aheadE keyT x y with
    | true =>
      refine T.cond rfl (fun _ => ?_) (fun h => by cases h)
      refine T.regi hm ?_
      simp only [↓reduceIte, namesOf, List.any, I.names, aopsI, astep, ev, setd, List.set, List.getD, List.getElem?_cons_zero, List.getElem?_cons_succ, List.cons_append, List.nil_append, List.replicate, then_normal, inBlock_normal, Option.getD_some, Bool.or_false, Bool.false_eq_true, up_zero, Int.toNat_natCast]
      refine h2 _ _ ?_
      try clear h2 K_h2
      refine T.regi hm ?_
      simp only [↓reduceIte, namesOf, List.any, I.names, aopsI, astep, ev, setd, List.set, List.getD, List.getElem?_cons_zero, List.getElem?_cons_succ, List.cons_append, List.nil_append, List.replicate, then_normal, Option.getD_some, Bool.or_false, Bool.false_eq_true, up_zero, binv, ↓opt_def, Int.toNat_natCast, eq_self, hkw]
      refine ⟨by omega, _, _, Gh.keep [0, 2, 4, 6, 7, 8, 9], rfl, by omega, k, .inr ⟨by omega, by omega, by omega⟩, fun x' hx' c z hc hz => ?_, rfl⟩
      rw [hka] at hx'; cases hx'
      by_cases hck : c = k
      · subst hck; rw [hka] at hz; cases hz; exact .refl _
      · exact (ahead_le hab).trans (hmin y hba c z (by omega) hz)
    | false =>
      refine T.cond rfl (fun h => by cases h) (fun _ => T.skip ?_)
      try simp only [List.getD, List.getElem?_cons_zero, List.getElem?_cons_succ, List.cons_append, List.nil_append, List.replicate, then_normal, inBlock_normal, Option.getD_some, Int.toNat_natCast, inBlock_normal]
      refine h2 _ _ ?_
      try clear h2 K_h2
      refine T.regi hm ?_
      simp only [↓reduceIte, namesOf, List.any, I.names, aopsI, astep, ev, setd, List.set, List.getD, List.getElem?_cons_zero, List.getElem?_cons_succ, List.cons_append, List.nil_append, List.replicate, then_normal, Option.getD_some, Bool.or_false, Bool.false_eq_true, up_zero, binv, ↓opt_def, Int.toNat_natCast, eq_self, hkw]
      refine ⟨by omega, _, _, Gh.keep [0, 2, 4, 6, 7, 8, 9], rfl, by omega, best, by omega, fun x' hx' c z hc hz => ?_, rfl⟩
      rw [hba] at hx'; cases hx'
      by_cases hck : c = k
      · subst hck; rw [hka] at hz; cases hz; exact hab
      · exact hmin y hba c z (by omega) hz
  · have e5 : decide ((k : Int) < ((min (2 * i + 3) r.length : Nat) : Int)) = false := decide_eq_false (by omega)
    refine T.regi hm ?_
    simp only [↓reduceIte, namesOf, List.any, I.names, aopsI, astep, ev, setd, List.set, List.getD, List.getElem?_cons_zero, List.getElem?_cons_succ, List.cons_append, List.nil_append, List.replicate, then_normal, Option.getD_some, Bool.or_false, Bool.false_eq_true, up_zero, binv, ↓opt_def, List.map_cons, List.map_nil, Int.toNat_natCast, eq_self, e1, e3, e4, e5, mn2, List.foldlM, bind, Option.bind, pure]
    refine h3 _ _ ?_
    try clear h3 K_h3
    refine T.cond rfl (fun h => by cases h) (fun _ => T.exit ?_)
    try simp only [List.getD, List.getElem?_cons_zero, List.getElem?_cons_succ, List.cons_append, List.nil_append, List.replicate, then_normal, Option.getD_some, Int.toNat_natCast, inBlock_exit, then_exit]
    refine h1 _ _ ?_
    try clear h1 K_h1
    refine T.seq_k (fun K_h1 h1 => ?_)
    by_cases hbi : best = i
    · subst hbi
      refine T.seq_k (fun K_h0 h0 => ?_)
      refine T.regi hm ?_
      simp only [↓reduceIte, namesOf, List.any, I.names, aopsI, astep, ev, setd, List.set, List.getD, List.getElem?_cons_zero, List.getElem?_cons_succ, List.cons_append, List.nil_append, List.replicate, then_normal, Option.getD_some, Bool.or_false, Bool.false_eq_true, up_zero, binv, ↓opt_def, Int.toNat_natCast, eq_self, beq_self_eq_true]
      refine h0 _ _ ?_
      try clear h0 K_h0
      refine T.cond rfl (fun _ => ?_) (fun h => by cases h)
      refine T.seq_k (fun K_h1 h1 => ?_)
      have hfit : (AV.agg (fCT e)).fits 3 = true := rfl
      refine T.regi hm ?_
      simp only [↓reduceIte, namesOf, List.any, I.names, aopsI, astep, ev, setd, List.set, List.getD, List.getElem?_cons_zero, List.getElem?_cons_succ, List.cons_append, List.nil_append, List.length_cons, List.length_nil, List.replicate, then_normal, Option.getD_some, Bool.or_false, Bool.false_eq_true, up_zero, Nat.reduceAdd, ↓opt_def, AV.isAny, AV.cells, ldc, Int.toNat_natCast, eq_self, decide_true, hp, hq, AV.fits, AV.one, List.all_cons, List.all_nil, Nat.reduceBEq, Bool.not_false, Bool.and_self, Nat.zero_add, splice, List.take, List.drop, Nat.reduceLeDiff]
      have hp5 : (t1.set p (.obj (fCT e))).res p = some (.obj (fCT e)) := St.set_same _ _ _
      have hfr5 : HFrT σ (t1.set p (.obj (fCT e))) h (some nm) := ⟨hfr.next, fun n h1 h2 h3 => by rw [St.set_other _ _ (by omega)]; exact hfr.old n h1 h2 h3⟩
      have H5 : HpT (t1.set p (.obj (fCT e))) h pl (some nm) l' turn := by
        refine ⟨?_, ?_, fun e => (by cases e), fun nm' e' => ?_, H.ne⟩
        · rw [St.set_other _ _ (by omega)]; exact H1.obj
        · rw [St.set_other _ _ (by omega)]; exact H1.less
        · obtain ⟨g1, cs, g2, g3⟩ := H1.row nm' e'
          cases e'
          exact ⟨g1, cs, by rw [St.set_other _ _ (by omega)]; exact g2, g3⟩
      generalize (t1.set p (.obj (fCT e))) = σ5 at hp5 hfr5 H5 ⊢
      refine h1 _ _ ?_
      try clear h1 K_h1
      refine T.ret (Fin.ret (xs := [.agg (fCT e), .bool true]) (by simp [rvals, rval, hp5, ldc]) ⟨rfl, l', H5, hperm, hsink.done (fun a b j hj hji ha hb => ?_), hfr5⟩)
      have hjn := (List.getElem?_eq_some_iff.1 hb).1
      exact hmin a ha j b (.inr ⟨by omega, by omega⟩) hb
    · have hbn : best < l'.length := by omega
      have hin : i < l'.length := by omega
      have e6 : ((best : Int) == (i : Int)) = false := by rw [beq_eq_false_iff_ne]; omega
      have hia : l'[i]? = some l'[i] := by simp [hin]
      have hba : l'[best]? = some l'[best] := by simp [hbn]
      generalize l'[i] = x at hia
      generalize l'[best] = y at hba
      refine T.seq_k (fun K_h0 h0 => ?_)
      refine T.regi hm ?_
      simp only [↓reduceIte, namesOf, List.any, I.names, aopsI, astep, ev, setd, List.set, List.getD, List.getElem?_cons_zero, List.getElem?_cons_succ, List.cons_append, List.nil_append, List.replicate, then_normal, Option.getD_some, Bool.or_false, Bool.false_eq_true, up_zero, binv, ↓opt_def, Int.toNat_natCast, eq_self, e6]
      refine h0 _ _ ?_
      try clear h0 K_h0
      refine T.cond rfl (fun h => by cases h) (fun _ => T.skip ?_)
      refine h1 _ _ ?_
      try clear h1 K_h1
      refine T.seq_k (fun K_h1 h1 => ?_)
      refine T.regi hm ?_
      simp only [↓reduceIte, namesOf, List.any, I.names, aopsI, astep, ev, setd, List.set, List.getD, List.getElem?_cons_zero, List.getElem?_cons_succ, List.cons_append, List.nil_append, List.replicate, then_normal, Option.getD_some, Bool.or_false, Bool.false_eq_true, up_zero, List.map_cons, List.map_nil, Int.toNat_natCast]
      refine (hswapT_ok H1 hia hba).mono ?_
      rintro v t2 ⟨rfl, H2, hf2, hnx⟩
      try simp only [↓reduceIte, namesOf, List.any, I.names, aops, aopsI, aopsT, qstep, CPt, qget, Tbl.get, astep, ev, setd, List.set, List.getD, List.getElem?_cons_zero, List.getElem?_cons_succ, List.getElem?_nil, List.cons_append, List.nil_append, List.length_cons, List.length_nil, List.replicate, then_normal, inBlock_normal, Option.getD_some, Option.getD_none, Bool.or_false, Bool.or_true, Bool.true_or, Bool.false_or, Bool.false_eq_true, if_false, if_true, up_zero, Nat.reduceAdd, Nat.reduceSub, binv, ↓opt_def, AV.isAny, AV.cells, ldc, List.map_cons, List.map_nil, St.set_next, St.set_same, St.up_next, Int.natCast_nonneg, lt_len, le_len, Int.toNat_natCast, true_and, and_true, eq_self, reduceCtorEq, decide_true, List.length_singleton, er_int, er_bool, er_str, up_zero]
      refine h1 _ _ ?_
      try clear h1 K_h1
      refine T.regi hm ?_
      simp only [↓reduceIte, namesOf, List.any, I.names, aopsI, astep, ev, setd, List.set, List.getD, List.getElem?_cons_zero, List.getElem?_cons_succ, List.cons_append, List.nil_append, List.replicate, then_normal, inBlock_normal, Option.getD_some, Bool.or_false, Bool.false_eq_true, up_zero, Int.toNat_natCast]
      have hc := hbest.resolve_left hbi
      refine ⟨_, _, Gh.keep [0, 2, 4, 6, 7], ⟨best, sw l' i best x y, H2, ((sw_perm hia hba).cons e).trans hperm, hsink.step (by omega) (by omega) hia hba (hmin y hba i x (.inl rfl) hia) (fun j z hj hji hz => ?_), by rw [sw_len]; exact hln, .inl (by omega), hfr.trans hf2 (fun g e => .inl e), ?_, ?_, by rw [hnx]; exact hpn, by rw [hnx]; exact hqn, rfl⟩, ?_⟩
      · have hjn := (List.getElem?_eq_some_iff.1 hz).1
        exact hmin y hba j z (.inr ⟨by omega, by omega⟩) hz
      · rw [hf2.old p hpn (by omega) (fun g e => by cases e; omega)]; exact hp
      · rw [hf2.old q hqn (by omega) (fun g e => by cases e; omega)]; exact hq
      · simp only [keep, List.getElem?_cons_succ, List.getElem?_cons_zero, Option.getD_some]
        show r.length - best < r.length - i
        omega

theorem hnewT_ok {g : AV} {σ : St} (hg : ∃ f a b, g = .func f a b) : ACalls Try.prog n_hnewT [g] σ (fun v σ' => ∃ p, v = .ptr p 0 ∧ σ.next ≤ p ∧ p < σ'.next ∧ σ'.res p = some (.obj [g, .sl [] .nil, .int .i64 0]) ∧ Like σ σ') := by
  obtain ⟨f, a, b, rfl⟩ := hg
  refine s_hnewT (fun wf => ?_)
  unfold c_hnewT
  refine T.seq_k (fun K_h0 h0 => ?_)
  refine T.regi hm ?_
  simp only [↓reduceIte, namesOf, List.any, I.names, aopsI, astep, ev, setd, List.set, List.cons_append, List.nil_append, List.length_cons, List.length_nil, List.replicate, then_normal, Bool.or_false, Bool.false_eq_true, up_zero, Nat.reduceAdd, Nat.reduceSub]
  refine h0 _ _ ?_
  try clear h0 K_h0
  refine T.seq_k (fun K_h1 h1 => ?_)
  refine T.regi hm ?_
  simp only [↓reduceIte, namesOf, List.any, I.names, aopsI, astep, ev, setd, List.set, List.getD, List.getElem?_cons_zero, List.getElem?_cons_succ, List.cons_append, List.nil_append, List.length_cons, List.length_nil, then_normal, Option.getD_some, Bool.or_false, Bool.or_true, Bool.false_eq_true, Nat.reduceAdd, ↓opt_def, AV.isAny, AV.cells, and_true, eq_self, fillA, ↓Option.map_some, AV.fits, AV.one, List.all_cons, List.all_nil, Nat.reduceBEq, Bool.not_false, Bool.and_self, Nat.zero_add, splice, List.take, List.drop, Nat.reduceLeDiff]
  refine h1 _ _ ?_
  try clear h1 K_h1
  exact T.ret (Fin.ret rfl ⟨σ.next + 2, rfl, by omega, by simp, by simp, (Like.refl σ).box (n := 4) (i := 2) _⟩)

end Go.VL

namespace Go.VL

section

variable {α : Type} {key : α → Int} {rows : List (List α)}

/-- what stands at a place -/
def atP (rows : List (List α)) (p : Nat × Nat) : Option α := (rows[p.1]?).bind (·[p.2]?)

/-- does a place come ahead of another one? -/
def posLt (key : α → Int) (rows : List (List α)) (p q : Nat × Nat) : Prop :=
  ∃ a b, atP rows p = some a ∧ atP rows q = some b ∧ (key a < key b ∨ key a = key b ∧ (p.1 < q.1 ∨ p.1 = q.1 ∧ p.2 < q.2))

/-- all places, in order -/
structure KOut (key : α → Int) (rows : List (List α)) (ps : List (Nat × Nat)) : Prop where
  all : ∀ p, p ∈ ps ↔ ∃ a, atP rows p = some a
  sorted : ps.Pairwise (posLt key rows)
  len : ps.length ≤ (rows.map List.length).sum

/-- a row that rises -/
def Rising (key : α → Int) (l : List α) : Prop := ∀ (i j : Nat) (a b : α), i ≤ j → l[i]? = some a → l[j]? = some b → key a ≤ key b

/-- how many of each row are taken; the heap has each row's first one that is left -/
structure Fronts (key : α → Int) (rows : List (List α)) (c : List Nat) (l : List (En α)) : Prop where
  len : c.length = rows.length
  le : ∀ (i : Nat) (row : List α) (k : Nat), rows[i]? = some row → c[i]? = some k → k ≤ row.length
  is : ∀ e ∈ l, ∃ (row : List α) (k : Nat), rows[e.row]? = some row ∧ c[e.row]? = some k ∧ row[k]? = some e.x
  has : ∀ (i : Nat) (row : List α) (k : Nat) (a : α), rows[i]? = some row → c[i]? = some k → row[k]? = some a → ∃ e ∈ l, e.row = i
  nd : (l.map En.row).Nodup

/-- the same, but for one row: it has nothing in the heap -/
structure Fronts1 (key : α → Int) (rows : List (List α)) (c : List Nat) (l : List (En α)) (r : Nat) : Prop where
  len : c.length = rows.length
  le : ∀ (i : Nat) (row : List α) (k : Nat), rows[i]? = some row → c[i]? = some k → k ≤ row.length
  is : ∀ e ∈ l, e.row ≠ r ∧ ∃ (row : List α) (k : Nat), rows[e.row]? = some row ∧ c[e.row]? = some k ∧ row[k]? = some e.x
  has : ∀ (i : Nat) (row : List α) (k : Nat) (a : α), i ≠ r → rows[i]? = some row → c[i]? = some k → row[k]? = some a → ∃ e ∈ l, e.row = i
  nd : (l.map En.row).Nodup

/-- what was taken comes ahead of what is left -/
structure Taken (key : α → Int) (rows : List (List α)) (c : List Nat) (ps : List (Nat × Nat)) : Prop where
  mem : ∀ p, p ∈ ps ↔ ∃ (row : List α) (k : Nat), rows[p.1]? = some row ∧ c[p.1]? = some k ∧ p.2 < k
  sorted : ps.Pairwise (posLt key rows)
  ahead : ∀ p ∈ ps, ∀ (i j : Nat) (row : List α) (k : Nat), rows[i]? = some row → c[i]? = some k → k ≤ j → j < row.length → posLt key rows p (i, j)
  sum : ps.length = c.sum

theorem Fronts.perm {c : List Nat} {l l' : List (En α)} (h : Fronts key rows c l) (hp : l'.Perm l) : Fronts key rows c l' :=
  ⟨h.len, h.le, fun e he => h.is e (hp.mem_iff.1 he), fun i row k a h1 h2 h3 => by
    obtain ⟨e, he, hr⟩ := h.has i row k a h1 h2 h3
    exact ⟨e, hp.mem_iff.2 he, hr⟩, ((hp.map En.row).nodup_iff).2 h.nd⟩

theorem Fronts1.perm {c : List Nat} {l l' : List (En α)} {r : Nat} (h : Fronts1 key rows c l r) (hp : l'.Perm l) : Fronts1 key rows c l' r :=
  ⟨h.len, h.le, fun e he => h.is e (hp.mem_iff.1 he), fun i row k a h0 h1 h2 h3 => by
    obtain ⟨e, he, hr⟩ := h.has i row k a h0 h1 h2 h3
    exact ⟨e, hp.mem_iff.2 he, hr⟩, ((hp.map En.row).nodup_iff).2 h.nd⟩

theorem sum_set : ∀ {c : List Nat} {r k : Nat}, c[r]? = some k → (c.set r (k + 1)).sum = c.sum + 1
  | [], r, k, h => by simp at h
  | x :: c, 0, k, h => by simp at h; subst h; simp; omega
  | x :: c, r + 1, k, h => by
    have := sum_set (c := c) (r := r) (k := k) (by simpa using h)
    simp only [List.set_cons_succ, List.sum_cons, this]; omega

theorem sum_le : ∀ {c L : List Nat}, c.length = L.length → (∀ (i a b : Nat), c[i]? = some a → L[i]? = some b → a ≤ b) → c.sum ≤ L.sum
  | [], _, _, _ => by simp
  | _ :: _, [], h, _ => by simp at h
  | x :: c, y :: L, hl, hle => by
    have h0 := hle 0 x y rfl rfl
    have := sum_le (c := c) (L := L) (by simpa using hl) (fun i a b ha hb => hle (i + 1) a b (by simpa using ha) (by simpa using hb))
    simp only [List.sum_cons]; omega

theorem sum_lt : ∀ {c L : List Nat}, c.length = L.length → (∀ (i a b : Nat), c[i]? = some a → L[i]? = some b → a ≤ b) → (∃ (i a b : Nat), c[i]? = some a ∧ L[i]? = some b ∧ a < b) → c.sum < L.sum
  | [], _, _, _, ⟨i, a, b, h, _⟩ => by simp at h
  | _ :: _, [], h, _, _ => by simp at h
  | x :: c, y :: L, hl, hle, ⟨i, a, b, ha, hb, hab⟩ => by
    have h0 := hle 0 x y rfl rfl
    have hrest := sum_le (c := c) (L := L) (by simpa using hl) (fun i a b ha hb => hle (i + 1) a b (by simpa using ha) (by simpa using hb))
    cases i with
    | zero =>
      simp at ha hb; subst ha; subst hb
      simp only [List.sum_cons]; omega
    | succ i =>
      have := sum_lt (c := c) (L := L) (by simpa using hl) (fun i a b ha hb => hle (i + 1) a b (by simpa using ha) (by simpa using hb)) ⟨i, a, b, by simpa using ha, by simpa using hb, hab⟩
      simp only [List.sum_cons]; omega

theorem sum_zero : ∀ {c : List Nat}, (∀ (i k : Nat), c[i]? = some k → k = 0) → c.sum = 0
  | [], _ => rfl
  | x :: c, h => by
    have h0 := h 0 x rfl
    have := sum_zero (c := c) (fun i k hk => h (i + 1) k (by simpa using hk))
    simp only [List.sum_cons]; omega

theorem Taken.start {c : List Nat} (h : ∀ (i k : Nat), c[i]? = some k → k = 0) : Taken key rows c [] := by
  refine ⟨fun p => ⟨fun hp => (by cases hp), fun ⟨row, k, _, h2, h3⟩ => ?_⟩, .nil, fun p hp => (by cases hp), by rw [sum_zero h]; rfl⟩
  have := h _ _ h2
  omega

/-- the least of the heap is taken -/
theorem Taken.step {c : List Nat} {ps : List (Nat × Nat)} {e : En α} {l' : List (En α)} (hT : Taken key rows c ps) (hF : Fronts key rows c (e :: l')) (hr : ∀ row ∈ rows, Rising key row) (hmin : ∀ e' ∈ e :: l', leE key e e') :
    ∃ (row : List α) (k : Nat), rows[e.row]? = some row ∧ c[e.row]? = some k ∧ row[k]? = some e.x ∧ Taken key rows (c.set e.row (k + 1)) (ps ++ [(e.row, k)]) ∧ Fronts1 key rows (c.set e.row (k + 1)) l' e.row ∧ ps.length < (rows.map List.length).sum := by
  obtain ⟨row, k, h1, h2, h3⟩ := hF.is e (by simp)
  have hkl := (List.getElem?_eq_some_iff.1 h3).1
  have hcl := (List.getElem?_eq_some_iff.1 h2).1
  have hnd := hF.nd
  simp only [List.map_cons, List.nodup_cons] at hnd
  have hset : ∀ i, (c.set e.row (k + 1))[i]? = if i = e.row then some (k + 1) else c[i]? := by
    intro i
    rw [List.getElem?_set]
    by_cases hi : e.row = i
    · subst hi; simp [hcl]
    · have : ¬ i = e.row := fun x => hi x.symm
      simp [hi, this]
  -- it comes ahead of all others that are left
  have hnew : ∀ (i j : Nat) (row' : List α) (k' : Nat), rows[i]? = some row' → (c.set e.row (k + 1))[i]? = some k' → k' ≤ j → j < row'.length → posLt key rows (e.row, k) (i, j) := by
    intro i j row' k' g1 g2 g3 g4
    have hb : atP rows (i, j) = some row'[j] := by simp [atP, g1, g4]
    refine ⟨e.x, row'[j], by simp [atP, h1, h3], hb, ?_⟩
    rw [hset] at g2
    have hbj : row'[j]? = some row'[j] := by simp [g4]
    by_cases hi : i = e.row
    · rw [if_pos hi] at g2
      cases g2
      subst hi
      rw [h1] at g1; cases g1
      have := hr row (List.mem_of_getElem? h1) k j e.x row[j] (by omega) h3 hbj
      simp only [true_and, Nat.lt_irrefl, false_or]; omega
    · rw [if_neg hi] at g2
      have hk' : k' < row'.length := by omega
      obtain ⟨e', he', her⟩ := hF.has i row' k' row'[k'] g1 g2 (by simp [hk'])
      obtain ⟨row2, k2, q1, q2, q3⟩ := hF.is e' he'
      rw [her] at q1 q2
      rw [g1] at q1; cases q1
      rw [g2] at q2; cases q2
      have hle := hmin e' he'
      have hrise := hr row' (List.mem_of_getElem? g1) k' j e'.x row'[j] g3 q3 hbj
      unfold leE aheadE at hle
      simp only [decide_eq_false_iff_not] at hle
      rw [her] at hle
      simp only
      omega
  refine ⟨row, k, h1, h2, h3, ⟨fun p => ?_, ?_, fun p hp i j row' k' g1 g2 g3 g4 => ?_, ?_⟩, ⟨by rw [List.length_set]; exact hF.len, fun i row' k' g1 g2 => ?_, fun e' he' => ?_, fun i row' k' a hi g1 g2 g3 => ?_, hnd.2⟩, ?_⟩
  · rw [List.mem_append, List.mem_singleton, hT.mem]
    constructor
    · rintro (⟨row', k', g1, g2, g3⟩ | rfl)
      · by_cases hi : p.1 = e.row
        · refine ⟨row', k + 1, g1, by rw [hset, if_pos hi], ?_⟩
          rw [hi] at g2
          rw [h2] at g2; cases g2; omega
        · exact ⟨row', k', g1, by rw [hset, if_neg hi]; exact g2, g3⟩
      · exact ⟨row, k + 1, h1, by rw [hset, if_pos rfl], by simp⟩
    · rintro ⟨row', k', g1, g2, g3⟩
      rw [hset] at g2
      by_cases hi : p.1 = e.row
      · rw [if_pos hi] at g2; cases g2
        by_cases hk : p.2 = k
        · right; rw [← hi, ← hk]
        · exact .inl ⟨row', k, g1, by rw [hi]; exact h2, by omega⟩
      · rw [if_neg hi] at g2
        exact .inl ⟨row', k', g1, g2, g3⟩
  · rw [List.pairwise_append]
    refine ⟨hT.sorted, List.pairwise_singleton _ _, fun a ha b hb => ?_⟩
    rw [List.mem_singleton] at hb; subst hb
    exact hT.ahead a ha e.row k row k h1 h2 (Nat.le_refl _) hkl
  · rcases List.mem_append.1 hp with hp | hp
    · rw [hset] at g2
      by_cases hi : i = e.row
      · rw [if_pos hi] at g2; cases g2
        subst hi
        rw [h1] at g1; cases g1
        exact hT.ahead p hp e.row j row k h1 h2 (by omega) g4
      · rw [if_neg hi] at g2
        exact hT.ahead p hp i j row' k' g1 g2 g3 g4
    · rw [List.mem_singleton] at hp; subst hp
      exact hnew i j row' k' g1 g2 g3 g4
  · rw [List.length_append, List.length_singleton, hT.sum, sum_set h2]
  · rw [hset] at g2
    by_cases hi : i = e.row
    · rw [if_pos hi] at g2; cases g2
      subst hi
      rw [h1] at g1; cases g1; exact hkl
    · rw [if_neg hi] at g2
      exact hF.le i row' k' g1 g2
  · have hne : e'.row ≠ e.row := fun x => hnd.1 (x ▸ List.mem_map_of_mem he')
    obtain ⟨row', k', g1, g2, g3⟩ := hF.is e' (by simp [he'])
    exact ⟨hne, row', k', g1, by rw [hset, if_neg hne]; exact g2, g3⟩
  · rw [hset, if_neg hi] at g2
    obtain ⟨e', he', her⟩ := hF.has i row' k' a g1 g2 g3
    rcases List.mem_cons.1 he' with rfl | he'
    · exact absurd her.symm hi
    · exact ⟨e', he', her⟩
  · rw [hT.sum]
    refine sum_lt (by rw [List.length_map]; exact hF.len) (fun i a b ha hb => ?_) ⟨e.row, k, row.length, h2, by simp [h1], hkl⟩
    rw [List.getElem?_map, Option.map_eq_some_iff] at hb
    obtain ⟨row', g1, rfl⟩ := hb
    exact hF.le i row' a g1 ha

/-- the row's next one is pushed -/
theorem Fronts1.push {c : List Nat} {l : List (En α)} {r k : Nat} {row : List α} {e : En α} (h : Fronts1 key rows c l r) (h1 : rows[r]? = some row) (h2 : c[r]? = some k) (h3 : row[k]? = some e.x) (he : e.row = r) : Fronts key rows c (l ++ [e]) := by
  refine ⟨h.len, h.le, fun e' he' => ?_, fun i row' k' a g1 g2 g3 => ?_, ?_⟩
  · rcases List.mem_append.1 he' with he' | he'
    · exact (h.is e' he').2
    · rw [List.mem_singleton] at he'; subst he'
      exact ⟨row, k, by rw [he]; exact h1, by rw [he]; exact h2, h3⟩
  · by_cases hi : i = r
    · exact ⟨e, by simp, by rw [he, hi]⟩
    · obtain ⟨e', he', her⟩ := h.has i row' k' a hi g1 g2 g3
      exact ⟨e', by simp [he'], her⟩
  · rw [List.map_append, List.nodup_append]
    refine ⟨h.nd, by simp, fun a ha b hb => ?_⟩
    simp only [List.map_cons, List.map_nil, List.mem_singleton] at hb
    subst hb
    obtain ⟨e', he', rfl⟩ := List.mem_map.1 ha
    rw [he]; exact (h.is e' he').1

theorem Fronts1.none {c : List Nat} {l : List (En α)} {r k : Nat} {row : List α} (h : Fronts1 key rows c l r) (h1 : rows[r]? = some row) (h2 : c[r]? = some k) (h3 : row.length ≤ k) : Fronts key rows c l := by
  refine ⟨h.len, h.le, fun e' he' => (h.is e' he').2, fun i row' k' a g1 g2 g3 => ?_, h.nd⟩
  by_cases hi : i = r
  · subst hi
    rw [h1] at g1; cases g1
    rw [h2] at g2; cases g2
    have := (List.getElem?_eq_some_iff.1 g3).1; omega
  · exact h.has i row' k' a hi g1 g2 g3

/-- nothing is left -/
theorem Taken.done {c : List Nat} {ps : List (Nat × Nat)} (hT : Taken key rows c ps) (hF : Fronts key rows c []) : KOut key rows ps := by
  refine ⟨fun p => ?_, hT.sorted, by
    rw [hT.sum]
    refine sum_le (by rw [List.length_map]; exact hF.len) (fun i a b ha hb => ?_)
    rw [List.getElem?_map, Option.map_eq_some_iff] at hb
    obtain ⟨row', g1, rfl⟩ := hb
    exact hF.le i row' a g1 ha⟩
  rw [hT.mem]
  constructor
  · rintro ⟨row, k, h1, h2, h3⟩
    have := hF.le _ row k h1 h2
    exact ⟨row[p.2]'(by omega), by unfold atP; rw [h1]; simp⟩
  · rintro ⟨a, ha⟩
    unfold atP at ha
    cases h1 : rows[p.1]? with
    | none => rw [h1] at ha; simp at ha
    | some row =>
      rw [h1] at ha
      simp only [Option.bind_some] at ha
      have hpl := (List.getElem?_eq_some_iff.1 ha).1
      have hcl : p.1 < c.length := by rw [hF.len]; exact (List.getElem?_eq_some_iff.1 h1).1
      refine ⟨row, c[p.1], rfl, by simp [hcl], ?_⟩
      rcases Nat.lt_or_ge c[p.1] row.length with h | h
      · obtain ⟨e, he, _⟩ := hF.has p.1 row c[p.1] row[c[p.1]] h1 (by simp [hcl]) (by simp [h])
        cases he
      · omega

/-! ### The first ones of the first rows are pushed -/

structure Fronts0 (rows : List (List α)) (i : Nat) (l : List (En α)) : Prop where
  is : ∀ e ∈ l, e.row < i ∧ ∃ (row : List α), rows[e.row]? = some row ∧ row[0]? = some e.x
  has : ∀ (j : Nat) (row : List α) (a : α), j < i → rows[j]? = some row → row[0]? = some a → ∃ e ∈ l, e.row = j
  nd : (l.map En.row).Nodup

theorem Fronts0.start : Fronts0 rows 0 ([] : List (En α)) := ⟨fun e he => (by cases he), fun j row a h => (by omega), by simp⟩

theorem Fronts0.perm {i : Nat} {l l' : List (En α)} (h : Fronts0 rows i l) (hp : l'.Perm l) : Fronts0 rows i l' :=
  ⟨fun e he => h.is e (hp.mem_iff.1 he), fun j row a h0 h1 h2 => by
    obtain ⟨e, he, hr⟩ := h.has j row a h0 h1 h2
    exact ⟨e, hp.mem_iff.2 he, hr⟩, ((hp.map En.row).nodup_iff).2 h.nd⟩

theorem Fronts0.push {i : Nat} {l : List (En α)} {row : List α} {e : En α} (h : Fronts0 rows i l) (h1 : rows[i]? = some row) (h3 : row[0]? = some e.x) (he : e.row = i) : Fronts0 rows (i + 1) (l ++ [e]) := by
  refine ⟨fun e' he' => ?_, fun j row' a hj g1 g2 => ?_, ?_⟩
  · rcases List.mem_append.1 he' with he' | he'
    · obtain ⟨g1, g2⟩ := h.is e' he'
      exact ⟨by omega, g2⟩
    · rw [List.mem_singleton] at he'; subst he'
      exact ⟨by omega, row, by rw [he]; exact h1, h3⟩
  · by_cases hi : j = i
    · exact ⟨e, by simp, by rw [he, hi]⟩
    · obtain ⟨e', he', her⟩ := h.has j row' a (by omega) g1 g2
      exact ⟨e', by simp [he'], her⟩
  · rw [List.map_append, List.nodup_append]
    refine ⟨h.nd, by simp, fun a ha b hb => ?_⟩
    simp only [List.map_cons, List.map_nil, List.mem_singleton] at hb
    subst hb
    obtain ⟨e', he', rfl⟩ := List.mem_map.1 ha
    have := (h.is e' he').1
    omega

theorem Fronts0.none {i : Nat} {l : List (En α)} {row : List α} (h : Fronts0 rows i l) (h1 : rows[i]? = some row) (h3 : row.length ≤ 0) : Fronts0 rows (i + 1) l := by
  refine ⟨fun e' he' => ?_, fun j row' a hj g1 g2 => ?_, h.nd⟩
  · obtain ⟨g1, g2⟩ := h.is e' he'
    exact ⟨by omega, g2⟩
  · by_cases hi : j = i
    · subst hi
      rw [h1] at g1; cases g1
      have := (List.getElem?_eq_some_iff.1 g2).1; omega
    · exact h.has j row' a (by omega) g1 g2

theorem rep_get {n i k : Nat} (h : (List.replicate n 0)[i]? = some k) : k = 0 := by
  obtain ⟨h1, h2⟩ := List.getElem?_eq_some_iff.1 h
  simpa using h2.symm

theorem Fronts0.done {l : List (En α)} (h : Fronts0 rows rows.length l) : Fronts key rows (List.replicate rows.length 0) l := by
  refine ⟨by simp, fun i row k _ h2 => by rw [rep_get h2]; omega, fun e he => ?_, fun i row k a h1 h2 h3 => ?_, h.nd⟩
  · obtain ⟨g1, row, g2, g3⟩ := h.is e he
    exact ⟨row, 0, g2, by simp [g1], g3⟩
  · rw [rep_get h2] at h3
    exact h.has i row a (List.getElem?_eq_some_iff.1 h1).1 h1 h3

/-- how far each row is pushed -/
def NxOk (rows : List (List α)) (c next : List Nat) : Prop := ∀ (i : Nat) (row : List α) (k : Nat), rows[i]? = some row → c[i]? = some k → next[i]? = some (min (k + 1) row.length)

theorem NxOk.none {c next : List Nat} {r k : Nat} {row : List α} (h : NxOk rows c next) (h1 : rows[r]? = some row) (h2 : c[r]? = some k) (h3 : row.length ≤ k + 1) : NxOk rows (c.set r (k + 1)) next := by
  intro i row' k' g1 g2
  rw [List.getElem?_set] at g2
  split at g2
  · rename_i hi
    subst hi
    split at g2
    · cases g2
      rw [h1] at g1; cases g1
      rw [h r row k h1 h2]; congr 1; omega
    · cases g2
  · exact h i row' k' g1 g2

theorem NxOk.push {c next : List Nat} {r k : Nat} {row : List α} (h : NxOk rows c next) (hl : next.length = rows.length) (h1 : rows[r]? = some row) (h3 : k + 1 < row.length) : NxOk rows (c.set r (k + 1)) (next.set r (k + 2)) := by
  intro i row' k' g1 g2
  rw [List.getElem?_set] at g2 ⊢
  have hil := (List.getElem?_eq_some_iff.1 g1).1
  split at g2
  · rename_i hi
    subst hi
    rw [if_pos rfl, if_pos (by omega)]
    split at g2
    · cases g2
      rw [h1] at g1; cases g1
      congr 1; omega
    · cases g2
  · rename_i hi
    rw [if_neg hi]
    exact h i row' k' g1 g2

/-- what stands at places -/
def outP (rows : List (List α)) (ps : List (Nat × Nat)) : List α := ps.filterMap (atP rows)

theorem outP_snoc {ps : List (Nat × Nat)} {p : Nat × Nat} {a : α} (h : atP rows p = some a) : outP rows (ps ++ [p]) = outP rows ps ++ [a] := by simp [outP, h]

theorem outP_le (ps : List (Nat × Nat)) : (outP rows ps).length ≤ ps.length := List.length_filterMap_le _ _

end

end Go.VL

namespace Go.VL

open Go.Proofs

def xsAVT (l : List Tc) : List AV := l.map fun t => .agg [.int .u64 (t.id : Int), .sl (spsAV t.sp) .none]

def rwAVT (l : List (List Tc)) : List AV := l.map fun p => .sl (xsAVT p) .none

theorem xsT_len (l : List Tc) : (xsAVT l).length = l.length := by simp [xsAVT]

theorem rwT_len (l : List (List Tc)) : (rwAVT l).length = l.length := by simp [rwAVT]

theorem xsT_get {l : List Tc} {i : Nat} {a : Tc} (h : l[i]? = some a) : (xsAVT l)[i]? = some (.agg [.int .u64 (a.id : Int), .sl (spsAV a.sp) .none]) := by simp [xsAVT, h]

theorem rwT_get {l : List (List Tc)} {i : Nat} {a : List Tc} (h : l[i]? = some a) : (rwAVT l)[i]? = some (.sl (xsAVT a) .none) := by simp [rwAVT, h]

theorem xsT_fits (l : List Tc) : (xsAVT l).all (AV.fits 2) = true := by
  simp [xsAVT, AV.fits, AV.isAny, AV.cells, AV.one]

theorem xsT_nb (m : Nat) (l : List Tc) : nbs m (xsAVT l) := by
  rw [nbs_iff]
  intro y hy
  obtain ⟨t, _, rfl⟩ := List.mem_map.1 hy
  exact ⟨trivial, ⟨nbs_sps _ _, trivial⟩, trivial⟩

/-- the rows, how far each is pushed, and the heap -/
structure KStT (σ : St) (pn pr ph pl h nx : Nat) (G : Option Nat) (rows : List (List Tc)) (next : List Nat) (l : List (En Tc)) (turn : Nat) : Prop where
  pn_ : σ.res pn = some (.obj [.ref nx 0 next.length])
  nx_ : σ.res nx = some (.obj (next.map fun k => AV.int .i64 ((k : Nat) : Int)))
  pr_ : ∃ g, σ.res pr = some (.obj [.sl (rwAVT rows) g])
  ph_ : σ.res ph = some (.obj [.ptr h 0])
  hp : HpT σ h pl G l turn
  ne : nx ≠ pn ∧ nx ≠ pr ∧ nx ≠ ph ∧ nx ≠ pl ∧ nx ≠ h ∧ pn ≠ h ∧ pr ≠ h ∧ ph ≠ h
  neG : ∀ g, G = some g → g ≠ pn ∧ g ≠ nx ∧ g ≠ pr ∧ g ≠ ph

structure KFrT (σ σ' : St) (h nx : Nat) (G : Option Nat) : Prop where
  next : σ.next ≤ σ'.next
  old : ∀ n, n < σ.next → n ≠ h → n ≠ nx → (∀ g, G = some g → n ≠ g) → σ'.res n = σ.res n

theorem splice_nxT {next : List Nat} {r k : Nat} (h : r < next.length) : splice (next.map fun k => AV.int .i64 ((k : Nat) : Int)) r [.int .i64 ((k : Nat) : Int)] = (next.set r k).map fun k => AV.int .i64 ((k : Nat) : Int) := by
  unfold splice
  rw [List.set_eq_take_append_cons_drop, if_pos h]
  simp [List.map_take, List.map_drop]

set_option maxRecDepth 10000 in
theorem kpushT_ok {pn pr ph pl h nx : Nat} {G : Option Nat} {rows : List (List Tc)} {next : List Nat} {l : List (En Tc)} {turn r k : Nat} {row : List Tc} {σ : St} (K : KStT σ pn pr ph pl h nx G rows next l turn) (hh : HeapL keyT l)
    (h1 : rows[r]? = some row) (h2 : next[r]? = some k) (hrl : row.length ≤ 1000000) (hll : l.length ≤ 1000000) (htu : turn < 9223372036854775807) :
    ACalls Try.prog n_kpushT [.int .i64 (r : Int), .ptr pn 0, .ptr pr 0, .ptr ph 0] σ (fun v σ' => v = .tup [] ∧ ((row.length ≤ k ∧ σ' = σ) ∨
      ∃ (a : Tc) (e : En Tc) (l' : List (En Tc)) (G' : Option Nat), row[k]? = some a ∧ e.x = a ∧ e.row = r ∧ KStT σ' pn pr ph pl h nx G' rows (next.set r (k + 1)) l' (turn + 1) ∧ l'.Perm (l ++ [e]) ∧ HeapL keyT l' ∧ KFrT σ σ' h nx G ∧ ∀ g, G' = some g → σ.next ≤ g ∧ g < σ'.next)) := by
  refine s_kpushT (fun wf => ?_)
  unfold c_kpushT
  obtain ⟨gr, hpr⟩ := K.pr_
  have hpn := K.pn_
  have hnx := K.nx_
  have hph := K.ph_
  have hrn := (List.getElem?_eq_some_iff.1 h2).1
  have hrr := (List.getElem?_eq_some_iff.1 h1).1
  have hrrI : (r : Int) < ((rwAVT rows).length : Int) := by rw [rwT_len]; omega
  have hg1 : (next.map fun k => AV.int .i64 ((k : Nat) : Int))[r]? = some (.int .i64 (k : Int)) := by simp [h2]
  have hg2 := rwT_get h1
  have hrrS : r < (rwAVT rows).length := by rw [rwT_len]; exact hrr
  refine T.seq_k (fun K_hA hA => ?_)
  refine T.regi hm ?_
  simp only [↓reduceIte, namesOf, List.any, I.names, aopsI, astep, ev, setd, List.set, List.getD, List.getElem?_cons_zero, List.getElem?_cons_succ, List.cons_append, List.nil_append, List.length_cons, List.length_nil, List.replicate, then_normal, Option.getD_some, Bool.or_false, Bool.false_eq_true, up_zero, Nat.reduceAdd, Nat.reduceSub, binv, ↓opt_def, AV.cells, ldc, Int.natCast_nonneg, lt_len, Int.toNat_natCast, and_true, eq_self, hpn, hnx, hpr, hg1, hg2, hrn, hrrS, Nat.mul_one, Nat.zero_add, xsT_len]
  refine hA _ _ ?_
  try clear hA K_hA
  by_cases hk : k < row.length
  case neg =>
    refine T.cond (b := false) (by simp [ev]; omega) (fun h => by cases h) (fun _ => T.skip ?_)
    exact Fin.retn rfl ⟨rfl, .inl ⟨by omega, rfl⟩⟩
  refine T.cond (b := true) (by simp [ev]; omega) (fun _ => ?_) (fun h => by cases h)
  have hka : row[k]? = some row[k] := by simp [hk]
  generalize row[k] = a at hka
  have hg3 := xsT_get hka
  have hkS : k < (xsAVT row).length := by rw [xsT_len]; exact hk
  refine T.seq_k (fun K_hA hA => ?_)
  refine T.regt hm (tbl := []) Tbl.ok_nil ?_
  have hpush := hpushT_ok (e := ⟨a, r, turn + 1⟩) K.hp hh rfl htu hll
  refine aopsT_cut 14 (fun K_c h_c => ?_)
  try simp only [↓reduceIte, namesOf, List.any, I.names, aopsT, qstep, CPt, Tbl.get, astep, ev, setd, List.set, List.getD, List.getElem?_cons_zero, List.getElem?_cons_succ, List.cons_append, List.nil_append, List.length_cons, List.length_nil, Option.getD_some, Bool.or_false, Bool.false_eq_true, up_zero, Nat.reduceAdd, ↓opt_def, AV.isAny, AV.cells, ldc, List.map_cons, List.map_nil, Int.natCast_nonneg, lt_len, Int.toNat_natCast, and_true, eq_self, List.take_succ_cons, hpn, hnx, hpr, hph, hg1, hg2, hg3, hrn, hrrS, hkS, Nat.mul_one, Nat.zero_add, fillA, ↓Option.map_some, AV.fits, AV.one, List.all_cons, List.all_nil, Nat.reduceBEq, Bool.not_false, Bool.and_self, Nat.zero_add, splice, List.take, List.drop, Nat.reduceLeDiff]
  refine hpush.mono ?_
  rintro v σ1 ⟨rfl, G', l', H1, hperm, hh1, hf, hG'⟩
  refine h_c _ _ ?_
  clear h_c K_c
  simp only [List.drop_succ_cons, List.drop_zero, Nat.zero_add]
  try simp only [aopsT, then_normal]
  refine hA _ _ ?_
  try clear hA K_hA
  obtain ⟨n1, n2, n3, n4, n5, n6, n7, n8⟩ := K.ne
  have hkeep : ∀ {n : Nat} {x : Res}, σ.res n = some x → n ≠ h → (∀ g, G = some g → n ≠ g) → σ1.res n = some x := fun hx a b => by rw [hf.old _ (wf.lt hx) a b]; exact hx
  have hpn1 := hkeep hpn n6 (fun g e => Ne.symm (K.neG g e).1)
  have hnx1 := hkeep hnx n5 (fun g e => Ne.symm (K.neG g e).2.1)
  have hpr1 := hkeep hpr n7 (fun g e => Ne.symm (K.neG g e).2.2.1)
  have hph1 := hkeep hph n8 (fun g e => Ne.symm (K.neG g e).2.2.2)
  have hw : IntKind.i64.wrap ((k : Int) + 1) = ((k + 1 : Nat) : Int) := inc64' hk (by omega)
  have hsp := splice_nxT (k := k + 1) hrn
  have hl1 : r + 1 ≤ (next.map fun k => AV.int .i64 ((k : Nat) : Int)).length := by rw [List.length_map]; exact hrn
  refine T.regi hm ?_
  simp only [↓reduceIte, namesOf, List.any, I.names, aopsI, astep, ev, setd, List.set, List.getD, List.getElem?_cons_zero, List.getElem?_cons_succ, List.length_cons, List.length_nil, Option.getD_some, Bool.or_false, Bool.false_eq_true, up_zero, binv, ↓opt_def, AV.isAny, AV.cells, ldc, Int.natCast_nonneg, lt_len, Int.toNat_natCast, and_true, eq_self, decide_true, hpn1, hnx1, hg1, hrn, hw, hsp, hl1, Nat.mul_one, Nat.zero_add, AV.fits, AV.one, List.all_cons, List.all_nil, Nat.reduceBEq, Bool.not_false, Bool.and_self, decide_true]
  have hGn : ∀ g, G' = some g → g ≠ pn ∧ g ≠ nx ∧ g ≠ pr ∧ g ≠ ph := fun g e => by
    have := (hG' g e).1
    have b1 := wf.lt hpn
    have b2 := wf.lt hnx
    have b3 := wf.lt hpr
    have b4 := wf.lt hph
    refine ⟨?_, ?_, ?_, ?_⟩ <;> omega
  refine Fin.retn rfl ⟨rfl, .inr ⟨a, ⟨a, r, turn + 1⟩, l', G', hka, rfl, rfl, ⟨?_, St.set_same _ _ _, ⟨gr, ?_⟩, ?_, ?_, K.ne, hGn⟩, hperm, hh1, ⟨hf.next, fun n a b c d => ?_⟩, hG'⟩⟩
  · rw [St.set_other _ _ (Ne.symm n1), List.length_set]; exact hpn1
  · rw [St.set_other _ _ (Ne.symm n2)]; exact hpr1
  · rw [St.set_other _ _ (Ne.symm n3)]; exact hph1
  · refine ⟨?_, ?_, H1.no, fun nm e => ?_, H1.ne⟩
    · rw [St.set_other _ _ (Ne.symm n5)]; exact H1.obj
    · rw [St.set_other _ _ (Ne.symm n4)]; exact H1.less
    · obtain ⟨g1, cs, g2, g3⟩ := H1.row nm e
      exact ⟨g1, cs, by rw [St.set_other _ _ (hGn nm e).2.1]; exact g2, g3⟩
  · rw [St.set_other _ _ c]; exact hf.old n a b d

theorem HpT.same {σ t : St} {h pl : Nat} {G : Option Nat} {l : List (En Tc)} {turn : Nat} (H : HpT σ h pl G l turn) (hs : ∀ n, (n = pl ∨ n = h ∨ G = some n) → t.res n = σ.res n) : HpT t h pl G l turn :=
  ⟨by rw [hs h (by simp)]; exact H.obj, by rw [hs pl (by simp)]; exact H.less, H.no, fun nm e => by
    obtain ⟨g1, cs, g2, g3⟩ := H.row nm e
    exact ⟨g1, cs, by rw [hs nm (by simp [e])]; exact g2, g3⟩, H.ne⟩

theorem KStT.same {σ t : St} {pn pr ph pl h nx : Nat} {G : Option Nat} {rows : List (List Tc)} {next : List Nat} {l : List (En Tc)} {turn : Nat} (K : KStT σ pn pr ph pl h nx G rows next l turn)
    (hs : ∀ n, (n = pn ∨ n = nx ∨ n = pr ∨ n = ph ∨ n = pl ∨ n = h ∨ G = some n) → t.res n = σ.res n) : KStT t pn pr ph pl h nx G rows next l turn :=
  ⟨by rw [hs pn (by simp)]; exact K.pn_, by rw [hs nx (by simp)]; exact K.nx_, by rw [hs pr (by simp)]; exact K.pr_, by rw [hs ph (by simp)]; exact K.ph_,
    K.hp.same fun n hn => hs n (by rcases hn with h | h | h <;> simp [h]), K.ne, K.neG⟩

/-- after a change of the heap alone -/
theorem KStT.heap {σ t : St} {pn pr ph pl h nx : Nat} {G : Option Nat} {rows : List (List Tc)} {next : List Nat} {l l' : List (En Tc)} {turn : Nat} (K : KStT σ pn pr ph pl h nx G rows next l turn)
    (H : HpT t h pl G l' turn) (hf : HFrT σ t h G) (hlt : pn < σ.next ∧ nx < σ.next ∧ pr < σ.next ∧ ph < σ.next) : KStT t pn pr ph pl h nx G rows next l' turn := by
  obtain ⟨n1, n2, n3, n4, n5, n6, n7, n8⟩ := K.ne
  obtain ⟨b1, b2, b3, b4⟩ := hlt
  have hk : ∀ n, n < σ.next → n ≠ h → (∀ g, G = some g → n ≠ g) → t.res n = σ.res n := fun n a b c => hf.old n a b c
  exact ⟨by rw [hk pn b1 n6 (fun g e => Ne.symm (K.neG g e).1)]; exact K.pn_, by rw [hk nx b2 n5 (fun g e => Ne.symm (K.neG g e).2.1)]; exact K.nx_, by rw [hk pr b3 n7 (fun g e => Ne.symm (K.neG g e).2.2.1)]; exact K.pr_,
    by rw [hk ph b4 n8 (fun g e => Ne.symm (K.neG g e).2.2.2)]; exact K.ph_, H, K.ne, K.neG⟩

/-- where the names stand -/
structure KNmT (σ t : St) (pn pr ph pl h nx : Nat) (G : Option Nat) : Prop where
  lo : σ.next ≤ h ∧ σ.next ≤ nx ∧ ∀ g, G = some g → σ.next ≤ g
  hi : pn < t.next ∧ pr < t.next ∧ ph < t.next ∧ pl < t.next ∧ h < t.next ∧ nx < t.next ∧ ∀ g, G = some g → g < t.next
  like : Like σ t

theorem KNmT.up {σ t t' : St} {pn pr ph pl h nx : Nat} {G : Option Nat} (N : KNmT σ t pn pr ph pl h nx G) (hl : Like t t') : KNmT σ t' pn pr ph pl h nx G := by
  obtain ⟨a1, a2, a3, a4, a5, a6, a7⟩ := N.hi
  have := hl.next
  exact ⟨N.lo, ⟨by omega, by omega, by omega, by omega, by omega, by omega, fun g e => by have := a7 g e; omega⟩, N.like.trans hl⟩

theorem KNmT.step {σ t t' : St} {pn pr ph pl h nx : Nat} {G G' : Option Nat} (N : KNmT σ t pn pr ph pl h nx G) (hf : KFrT t t' h nx G) (hG : ∀ g, G' = some g → (G = some g ∨ t.next ≤ g) ∧ g < t'.next) : KNmT σ t' pn pr ph pl h nx G' := by
  obtain ⟨a1, a2, a3, a4, a5, a6, a7⟩ := N.hi
  obtain ⟨b1, b2, b3⟩ := N.lo
  have h0 := hf.next
  have h1 := N.like.next
  refine ⟨⟨b1, b2, fun g e => ?_⟩, ⟨by omega, by omega, by omega, by omega, by omega, by omega, fun g e => (hG g e).2⟩, ⟨by omega, fun n hn => ?_⟩⟩
  · rcases (hG g e).1 with h | h
    · exact b3 g h
    · omega
  · rw [hf.old n (by omega) (by omega) (by omega) (fun g e => by have := b3 g e; omega)]
    exact N.like.same n hn

set_option maxRecDepth 10000 in
set_option maxHeartbeats 2000000 in
theorem ksortT_ok {rows : List (List Tc)} {g : Ver} {σ : St} (hr : ∀ row ∈ rows, Rising keyT row) (hrn : rows.length ≤ 1000) (hrl : ∀ row ∈ rows, row.length ≤ 1000000) (htot : (rows.map List.length).sum ≤ 900000) :
    ACalls Try.prog n_ksortT [.sl (rwAVT rows) g, .func n_kmerge1 [] []] σ (fun v σ' => ∃ ps, KOut keyT rows ps ∧ v = .sl (xsAVT (outP rows ps)) .none ∧ σ' = σ) := by
  refine s_ksortT (fun wf => ?_)
  unfold c_ksortT
  refine T.seq_k (fun K_h1 h1 => ?_)
  refine T.regi hm ?_
  simp only [↓reduceIte, namesOf, List.any, I.names, aopsI, astep, ev, setd, List.set, List.getD, List.getElem?_cons_zero, List.getElem?_cons_succ, List.cons_append, List.nil_append, List.length_cons, List.length_nil, List.replicate, then_normal, Option.getD_some, Bool.or_false, Bool.or_true, Bool.false_eq_true, Nat.reduceAdd, Nat.reduceSub, AV.isAny, AV.cells, eq_self]
  obtain ⟨hpr, hpl, _⟩ := box2 wf 3 (.obj [.sl (rwAVT rows) g]) (.obj [.func n_kmerge1 [] []])
  have hL1 : Like σ (((σ.up 3).set (σ.next + 0) (.obj [.sl (rwAVT rows) g])).set (σ.next + 1) (.obj [.func n_kmerge1 [] []])) := ((Like.refl σ).box (n := 3) (i := 0) _).set _ (by omega)
  have hb1 : σ.next + 1 < (((σ.up 3).set (σ.next + 0) (.obj [.sl (rwAVT rows) g])).set (σ.next + 1) (.obj [.func n_kmerge1 [] []])).next := by simp
  have hb0 : σ.next ≤ σ.next + 0 := by omega
  have hb2 : σ.next + 0 < σ.next + 1 := by omega
  generalize (((σ.up 3).set (σ.next + 0) (.obj [.sl (rwAVT rows) g])).set (σ.next + 1) (.obj [.func n_kmerge1 [] []])) = σ1 at hpr hpl hL1 hb1 ⊢
  generalize σ.next + 0 = pr at hpr hb0 hb2 ⊢
  generalize σ.next + 1 = pl at hpl hb1 hb2 ⊢
  refine h1 _ _ ?_
  try clear h1 K_h1
  refine T.seq_k (fun K_h1 h1 => ?_)
  refine T.regt hm (tbl := []) Tbl.ok_nil ?_
  refine aopsT_cut 2 (fun K_c h_c => ?_)
  try simp only [↓reduceIte, namesOf, List.any, I.names, aopsT, qstep, CPt, Tbl.get, astep, ev, setd, List.set, List.getD, List.getElem?_cons_zero, List.getElem?_cons_succ, List.length_cons, List.length_nil, Option.getD_some, Bool.or_false, Bool.or_true, Nat.reduceAdd, List.map_cons, List.map_nil, eq_self, List.take_succ_cons, List.take_zero]
  refine (hnewT_ok ⟨_, _, _, rfl⟩).mono ?_
  rintro v σ2 ⟨h, rfl, hh1, hh2, hho, hL2⟩
  refine h_c _ _ ?_
  clear h_c K_c
  simp only [List.drop_succ_cons, List.drop_zero, Nat.zero_add]
  simp only [St.up_next] at hh1
  have hL2' : Like σ1 σ2 := ⟨Nat.le_trans (Nat.le_add_right _ _) hL2.next, fun n hn => hL2.same n (by simp; omega)⟩
  try simp only [↓reduceIte, aopsT, qstep, astep, ev, setd, List.set, List.getD, List.getElem?_cons_zero, List.getElem?_cons_succ, List.cons_append, List.nil_append, List.length_cons, List.length_nil, then_normal, Option.getD_some, AV.isAny, AV.cells, St.set_same, eq_self, decide_true, AV.fits, AV.one, List.all_cons, List.all_nil, Nat.reduceBEq, Bool.not_false, Bool.and_self, Nat.zero_add, splice, List.take, List.drop, Nat.reduceLeDiff, St.set_set]
  have hph : (σ2.set (σ1.next + 2) (.obj [.ptr h 0])).res (σ1.next + 2) = some (.obj [.ptr h 0]) := St.set_same _ _ _
  have hho3 : (σ2.set (σ1.next + 2) (.obj [.ptr h 0])).res h = _ := (St.set_other _ _ (by omega)).trans hho
  have hL3 : Like σ1 (σ2.set (σ1.next + 2) (.obj [.ptr h 0])) := hL2'.set _ (by omega)
  have hn3 : h < (σ2.set (σ1.next + 2) (.obj [.ptr h 0])).next := hh2
  have hq1 : σ1.next + 2 < h := by omega
  have hq0 : σ1.next ≤ σ1.next + 2 := by omega
  generalize (σ2.set (σ1.next + 2) (.obj [.ptr h 0])) = σ3 at hph hho3 hL3 hn3 ⊢
  generalize σ1.next + 2 = ph at hph hq1 hq0 ⊢
  clear hho hL2 hL2' hh2 hh1 σ2
  have hpr3 := hL3.get (by omega) hpr
  have hpl3 := hL3.get hb1 hpl
  refine h1 _ _ ?_
  try clear h1 K_h1
  refine T.seq_k (fun K_h1 h1 => ?_)
  have hpr4 : ∀ k, (σ3.up k).res pr = some (.obj [.sl (rwAVT rows) g]) := fun _ => hpr3
  have hm1 : (rows.length : Int) * ((8 : Nat) : Int) ≤ 140737488355328 := by omega
  have hm2 : (rows.length : Int) ≤ 9223372036854775807 := by omega
  have hpr5 : ∀ r, ((σ3.up 5).set (σ3.next + 2) r).res pr = some (.obj [.sl (rwAVT rows) g]) := fun r => by
    have := hL3.next
    rw [St.set_other _ _ (by omega)]; exact hpr3
  refine T.regi hm ?_
  simp only [↓reduceIte, namesOf, List.any, I.names, aopsI, astep, ev, setd, List.set, List.getD, List.getElem?_cons_zero, List.getElem?_cons_succ, List.cons_append, List.nil_append, List.length_cons, List.length_nil, then_normal, Option.getD_some, Bool.or_false, Bool.or_true, Nat.reduceAdd, ↓opt_def, AV.isAny, AV.cells, ldc, St.set_same, Int.natCast_nonneg, Int.toNat_natCast, eq_self, decide_true, hpr4, rwT_len, hm1, hm2, Int.le_refl, held, AV.fits, AV.one, List.all_cons, List.all_nil, Bool.not_false, Bool.and_self, and_self, List.length_replicate, beq_self_eq_true, Nat.zero_add, splice, List.take, List.drop, Nat.reduceLeDiff, St.set_set]
  have hfm : (List.replicate rows.length (AV.int .i64 0)).flatMap AV.cells = (List.replicate rows.length 0).map fun k => AV.int .i64 ((k : Nat) : Int) := by
    generalize rows.length = n
    induction n with
    | zero => rfl
    | succ n ih => simp only [List.replicate_succ, List.flatMap_cons, ih, List.map_cons]; rfl
  rw [hfm]
  have hL13 := hL1.trans hL3
  have hn13 := hL3.next
  -- all is laid
  have K0 : KStT (((σ3.up 5).set (σ3.next + 2) (.obj ((List.replicate rows.length 0).map fun k => AV.int .i64 ((k : Nat) : Int)))).set (σ3.next + 3) (.obj [.ref (σ3.next + 2) 0 rows.length])) (σ3.next + 3) pr ph pl h (σ3.next + 2) none rows (List.replicate rows.length 0) [] 0 := by
    refine ⟨?_, ?_, ⟨g, ?_⟩, ?_, ⟨?_, ?_, fun _ => rfl, fun nm e => (by cases e), by omega⟩, ⟨by omega, by omega, by omega, by omega, by omega, by omega, by omega, by omega⟩, fun g e => (by cases e)⟩
    · rw [St.set_same, List.length_replicate]
    · rw [St.set_other _ _ (by omega), St.set_same]
    · rw [St.set_other _ _ (by omega), St.set_other _ _ (by omega)]; exact hpr3
    · rw [St.set_other _ _ (by omega), St.set_other _ _ (by omega)]; exact hph
    · rw [St.set_other _ _ (by omega), St.set_other _ _ (by omega)]; exact hho3
    · rw [St.set_other _ _ (by omega), St.set_other _ _ (by omega)]; exact hpl3
  have N0 : KNmT σ (((σ3.up 5).set (σ3.next + 2) (.obj ((List.replicate rows.length 0).map fun k => AV.int .i64 ((k : Nat) : Int)))).set (σ3.next + 3) (.obj [.ref (σ3.next + 2) 0 rows.length])) (σ3.next + 3) pr ph pl h (σ3.next + 2) none := by
    have := hL1.next
    refine ⟨⟨by omega, by omega, fun g e => (by cases e)⟩, ⟨by simp, by simp; omega, by simp; omega, by simp; omega, by simp; omega, by simp, fun g e => (by cases e)⟩, ((hL13.up 5).set _ (by omega)).set _ (by omega)⟩
  generalize (((σ3.up 5).set (σ3.next + 2) (.obj ((List.replicate rows.length 0).map fun k => AV.int .i64 ((k : Nat) : Int)))).set (σ3.next + 3) (.obj [.ref (σ3.next + 2) 0 rows.length])) = σ4 at K0 N0 ⊢
  generalize σ3.next + 2 = nx at K0 N0 ⊢
  generalize σ3.next + 3 = pn at K0 N0 ⊢
  clear hpr hpl hL1 hb1 hb0 hb2 hph hho3 hL3 hn3 hq1 hq0 hpr3 hpl3 hpr4 hm1 hm2 hpr5 hfm hL13 hn13 σ1 σ3
  refine h1 _ _ ?_
  try clear h1 K_h1
  refine T.seq_k (fun K_h0 h0 => ?_)
  refine T.regi hm ?_
  simp only [↓reduceIte, namesOf, List.any, I.names, aopsI, astep, ev, setd, List.set, List.getD, List.getElem?_cons_zero, List.getElem?_cons_succ, then_normal, Option.getD_some, Bool.or_false, Bool.false_eq_true, up_zero, List.map_cons, List.map_nil]
  refine h0 _ _ ?_
  try clear h0 K_h0
  refine T.seq_k (fun K_h1 h1 => ?_)
  have hpr6 := K0.pr_
  obtain ⟨g6, hpr6⟩ := hpr6
  refine T.seq_k (fun K_h0 h0 => ?_)
  refine T.regi hm ?_
  simp only [↓reduceIte, namesOf, List.any, I.names, aopsI, astep, ev, setd, List.set, List.getD, List.getElem?_cons_zero, List.getElem?_cons_succ, then_normal, Option.getD_some, Bool.or_false, Bool.false_eq_true, up_zero, ↓opt_def, ldc, hpr6, rwT_len]
  refine h0 _ _ ?_
  try clear h0 K_h0
  refine T.block ?_
  refine T.gh (Gh.keep [5, 7, 19, 20]) ?_
  refine T.loopi (fun i ρ t => ∃ (next : List Nat) (l : List (En Tc)) (G : Option Nat) (turn : Nat), KStT t pn pr ph pl h nx G rows next l turn ∧ HeapL keyT l ∧ Fronts0 rows i l ∧ next.length = rows.length ∧
      (∀ (j : Nat) (row : List Tc), rows[j]? = some row → next[j]? = some (if j < i then min 1 row.length else 0)) ∧ KNmT σ t pn pr ph pl h nx G ∧ l.length ≤ turn ∧ turn ≤ i ∧
      ρ = [.any, .any, .any, .any, .any, .ptr ph 0, .any, .func n_kpushT [] [.ptr pn 0, .ptr pr 0, .ptr ph 0], .any, .any, .any, .any, .any, .any, .any, .any, .any, .any, .any, .int .i64 (rows.length : Int), .int .i64 (i : Int)] ++ List.replicate 23 .any)
    rows.length 0 (Nat.zero_le _) ⟨_, [], none, 0, K0, .nil, .start, by simp, fun j row hj => ?_, N0, Nat.le_refl _, Nat.le_refl _, rfl⟩ ?_
  · have := (List.getElem?_eq_some_iff.1 hj).1
    simp [this]
  · clear K0 N0 hpr6
    rintro i ρ t hi ⟨next, l, G, turn, K, hh, F0, hnl, hnx, N, hlt, hti, rfl⟩
    refine T.seq_k (fun K_h0 h0 => ?_)
    refine T.regi hm ?_
    simp only [↓reduceIte, namesOf, List.any, I.names, aopsI, astep, ev, setd, List.set, List.getD, List.getElem?_cons_zero, List.getElem?_cons_succ, List.cons_append, List.nil_append, List.replicate, then_normal, Option.getD_some, Bool.or_false, Bool.false_eq_true, up_zero, binv, ↓opt_def, lt_len, eq_self]
    refine h0 _ _ ?_
    try clear h0 K_h0
    refine T.seq_k (fun K_h2 h2 => ?_)
    by_cases hil : i < rows.length
    case neg =>
      refine T.cond (b := false) (by simp [ev]; omega) (fun h => by cases h) (fun _ => T.exit ?_)
      have hie : i = rows.length := by omega
      subst hie
      have hFr : Fronts keyT rows (List.replicate rows.length 0) l := F0.done
      have hNx : NxOk rows (List.replicate rows.length 0) next := fun j row k h1 h2 => by
        rw [rep_get h2, hnx j row h1, if_pos (List.getElem?_eq_some_iff.1 h1).1]
      have hTk : Taken keyT rows (List.replicate rows.length 0) [] := Taken.start (fun i k hk => rep_get hk)
      try simp only [List.cons_append, List.nil_append, List.replicate, then_normal, inBlock_exit, then_exit]
      refine h1 _ _ ?_
      try clear h1 K_h1
      refine T.seq_k (fun K_h0 h0 => ?_)
      refine T.regi hm ?_
      simp only [↓reduceIte, namesOf, List.any, I.names, aopsI, astep, ev, setd, List.set, then_normal, Bool.or_false, Bool.false_eq_true, up_zero]
      refine h0 _ _ ?_
      try clear h0 K_h0
      refine T.gh (Gh.keep [5, 7, 9]) ?_
      refine T.block ?_
      refine T.loopi (fun i ρ t => ∃ (c next : List Nat) (l : List (En Tc)) (G Gx : Option Nat) (turn : Nat) (ps : List (Nat × Nat)) (x : AV), (ps.length = i ∧ KStT t pn pr ph pl h nx G rows next l turn ∧ HeapL keyT l ∧ Fronts keyT rows c l ∧ Taken keyT rows c ps ∧ next.length = rows.length ∧
          NxOk rows c next ∧ KNmT σ t pn pr ph pl h nx G ∧ AccG σ t 2 (xsAVT (outP rows ps)) x Gx ∧ (∀ g, Gx = some g → (g ≠ pn ∧ g ≠ nx ∧ g ≠ pr ∧ g ≠ ph ∧ g ≠ pl ∧ g ≠ h) ∧ G ≠ some g) ∧ l.length ≤ turn ∧ turn ≤ rows.length + i) ∧
          ρ = [.any, .any, .any, .any, .any, .ptr ph 0, .any, .func n_kpushT [] [.ptr pn 0, .ptr pr 0, .ptr ph 0], .any, x] ++ List.replicate 34 .any)
        (rows.map List.length).sum 0 (Nat.zero_le _) ⟨_, next, l, G, none, turn, [], _, ⟨rfl, K, hh, hFr, hTk, hnl, hNx, N, .nil N.like, fun g e => (by cases e), hlt, by omega⟩, rfl⟩ ?_
      clear K hh F0 hnl hnx N hlt hti hFr hNx hTk
      rintro i ρ t hi ⟨c, next, l, G, Gx, turn, ps, x, ⟨hps, K, hh, hFr, hTk, hnl, hNx, N, hA, hsep, hlt, hti⟩, rfl⟩
      obtain ⟨b1, b2, b3, b4, b5, b6, b7⟩ := N.hi
      have hAlt := hA.lt
      have hnt := N.like.next
      have hph := K.ph_
      have K1 : KStT (t.up 8) pn pr ph pl h nx G rows next l turn := K.same fun n _ => rfl
      have N1 : KNmT σ (t.up 8) pn pr ph pl h nx G := N.up ((Like.refl t).up 8)
      refine T.block ?_
      refine T.seq_k (fun K_h2 h2 => ?_)
      refine T.regt hm (tbl := []) Tbl.ok_nil ?_
      refine aopsT_cut 2 (fun K_c h_c => ?_)
      try simp only [↓reduceIte, namesOf, List.any, I.names, aopsT, qstep, CPt, Tbl.get, astep, ev, setd, List.set, List.getD, List.getElem?_cons_zero, List.getElem?_cons_succ, List.cons_append, List.nil_append, List.length_cons, List.length_nil, List.replicate, Option.getD_some, Bool.or_false, Bool.or_true, Nat.reduceAdd, ↓opt_def, ldc, List.map_cons, List.map_nil, eq_self, List.take_succ_cons, List.take_zero, hph, St.up_res]
      cases l with
      | nil =>
        refine (hpopT_nil K1.hp).mono ?_
        rintro v τ ⟨rfl, rfl⟩
        refine h_c _ _ ?_
        clear h_c K_c
        simp only [List.drop_succ_cons, List.drop_zero, Nat.zero_add]
        try simp only [↓reduceIte, aopsT, qstep, astep, ev, setd, List.set, List.getD, List.getElem?_cons_zero, List.getElem?_cons_succ, List.cons_append, List.nil_append, List.length_cons, List.length_nil, List.replicate, then_normal, Option.getD_some, Nat.reduceAdd, ↓opt_def, AV.isAny, AV.cells, St.set_same, eq_self, decide_true, AV.fits, AV.one, List.all_cons, List.all_nil, Nat.reduceBEq, Bool.not_false, Bool.and_self, Nat.zero_add, splice, List.take, List.drop, Nat.reduceLeDiff, St.set_set]
        refine h2 _ _ ?_
        try clear h2 K_h2
        refine T.seq_k (fun K_h2 h2 => ?_)
        refine T.seq_k (fun K_h0 h0 => ?_)
        refine T.regi hm ?_
        simp only [↓reduceIte, namesOf, List.any, I.names, aopsI, astep, ev, setd, List.set, List.getD, List.getElem?_cons_zero, List.getElem?_cons_succ, List.cons_append, List.nil_append, List.replicate, then_normal, Option.getD_some, Bool.or_false, Bool.false_eq_true, up_zero]
        refine h0 _ _ ?_
        try clear h0 K_h0
        refine T.cond rfl (fun _ => ?_) (fun h => by cases h)
        refine T.seq_k (fun K_h0 h0 => ?_)
        refine T.regi hm ?_
        simp only [↓reduceIte, namesOf, List.any, I.names, aopsI, astep, ev, setd, List.set, List.getD, List.getElem?_cons_zero, List.getElem?_cons_succ, List.cons_append, List.nil_append, List.replicate, then_normal, Option.getD_some, Bool.or_false, Bool.false_eq_true, up_zero]
        refine h0 _ _ ?_
        try clear h0 K_h0
        have hA2 := hA.box (n := 8) (i := 5) (by omega) (.obj [.int .u64 0, .sl [] .nil, .int .i64 0])
        exact T.ret (Fin.quietw rfl hA2.wk ⟨xsT_nb _ _, trivial⟩ (hA2.quiet wf) ⟨ps, hTk.done hFr, rfl, rfl⟩)
      | cons e r =>
        have hll' : (e :: r).length ≤ 1000000 := by omega
        refine (hpopT_ok K1.hp hh hll').mono ?_
        rintro v τ ⟨rfl, l', P⟩
        refine h_c _ _ ?_
        clear h_c K_c
        simp only [List.drop_succ_cons, List.drop_zero, Nat.zero_add]
        try simp only [↓reduceIte, aopsT, qstep, astep, ev, setd, List.set, List.getD, List.getElem?_cons_zero, List.getElem?_cons_succ, List.cons_append, List.nil_append, List.length_cons, List.length_nil, List.replicate, then_normal, Option.getD_some, Nat.reduceAdd, ↓opt_def, AV.isAny, AV.cells, St.set_same, eq_self, decide_true, AV.fits, AV.one, List.all_cons, List.all_nil, Nat.reduceBEq, Bool.not_false, Bool.and_self, Nat.zero_add, splice, List.take, List.drop, Nat.reduceLeDiff, St.set_set]
        obtain ⟨row, k, q1, q2, q3, hTk', hF1, hlt2⟩ := hTk.step (hFr.perm P.perm) hr (fun e' he' => by
          obtain ⟨j, hj⟩ := List.getElem?_of_mem (P.perm.mem_iff.1 he')
          exact hh.least (a := e) rfl j e' hj)
        have hk := (List.getElem?_eq_some_iff.1 q3).1
        have hrr := hrl row (List.mem_of_getElem? q1)
        have hnk : next[e.row]? = some (k + 1) := by rw [hNx e.row row k q1 q2]; congr 1; omega
        have hlen2 : l'.length + 1 = (e :: r).length := by rw [← P.perm.length_eq]; rfl
        have hph' := P.heap
        have hpf := P.fr
        have hpn := hpf.next
        simp only [St.up_next] at hpn
        have hq : (τ.set (t.next + 5) (.obj (fCT e))).res (t.next + 5) = some (.obj (fCT e)) := St.set_same _ _ _
        have hKF : KFrT t (τ.set (t.next + 5) (.obj (fCT e))) h nx G := ⟨by simp; omega, fun n a1 a2 a3 a4 => by
          rw [St.set_other _ _ (by omega), hpf.old n (by simp; omega) a2 a4]; rfl⟩
        have K2 : KStT (τ.set (t.next + 5) (.obj (fCT e))) pn pr ph pl h nx G rows next l' turn :=
          (K1.heap P.hp P.fr ⟨by simp; omega, by simp; omega, by simp; omega, by simp; omega⟩).same fun n hn => by
            rw [St.set_other _ _ ?_]
            rcases hn with rfl | rfl | rfl | rfl | rfl | rfl | hn
            · omega
            · omega
            · omega
            · omega
            · omega
            · omega
            · have := b7 n hn; omega
        have N2 : KNmT σ (τ.set (t.next + 5) (.obj (fCT e))) pn pr ph pl h nx G := N.step hKF (fun g e => ⟨.inl e, by have := b7 g e; simp; omega⟩)
        have hA2 : AccG σ (τ.set (t.next + 5) (.obj (fCT e))) 2 (xsAVT (outP rows ps)) x Gx := hA.keep (by simp; omega) (fun m hm => by
            have := N.lo
            exact hKF.old m (by omega) (by omega) (by omega) (fun g e => by have := N.lo.2.2 g e; omega)) (fun g e => by
            obtain ⟨⟨s1, s2, s3, s4, s5, s6⟩, s7⟩ := hsep g e
            exact hKF.old g (hAlt g e).2 s6 s2 (fun g' e' h' => s7 (by rw [h']; exact e')))
        have hsep2 := hsep
        have hql : t.next + 5 < (τ.set (t.next + 5) (.obj (fCT e))).next := by simp; omega
        have hqg : ∀ g, Gx = some g → t.next + 5 ≠ g := fun g e => by have := (hAlt g e).2; omega
        generalize (τ.set (t.next + 5) (.obj (fCT e))) = τ1 at hq hKF K2 N2 hA2 hql ⊢
        generalize t.next + 5 = q at hq hql hqg ⊢
        clear K1 N1 hpf hpn P hh hA hKF b1 b2 b3 b4 b5 b6 b7 hAlt
        obtain ⟨b1, b2, b3, b4, b5, b6, b7⟩ := N2.hi
        refine h2 _ _ ?_
        try clear h2 K_h2
        refine T.seq_k (fun K_h2 h2 => ?_)
        refine T.seq_k (fun K_h0 h0 => ?_)
        refine T.regi hm ?_
        simp only [↓reduceIte, namesOf, List.any, I.names, aopsI, astep, ev, setd, List.set, List.getD, List.getElem?_cons_zero, List.getElem?_cons_succ, List.cons_append, List.nil_append, List.replicate, then_normal, Option.getD_some, Bool.or_false, Bool.false_eq_true, up_zero]
        refine h0 _ _ ?_
        try clear h0 K_h0
        refine T.cond rfl (fun h => by cases h) (fun _ => T.skip ?_)
        refine h2 _ _ ?_
        try clear h2 K_h2
        refine T.seq_k (fun K_h2 h2 => ?_)
        have hqu : ∀ n, (τ1.up n).res q = some (.obj (fCT e)) := fun _ => hq
        refine T.regt hm (tbl := []) Tbl.ok_nil ?_
        refine aopsT_cut 4 (fun K_c h_c => ?_)
        simp only [List.take_succ_cons, List.take_zero]
        try simp only [↓reduceIte, namesOf, List.any, I.names, aopsT, qstep, astep, ev, setd, List.set, List.getD, List.getElem?_cons_zero, List.getElem?_cons_succ, List.length_cons, List.length_nil, Option.getD_some, Bool.or_false, Bool.or_true, Nat.reduceAdd, ↓opt_def, AV.isAny, AV.cells, ldc, List.map_cons, List.map_nil, eq_self, hqu, held, AV.er, AV.er1, AV.fits, AV.one, List.all_cons, List.all_nil, Nat.reduceBEq, Bool.not_false, Bool.and_self, Nat.zero_add, List.take, List.drop, Nat.reduceLeDiff]
        refine h_c _ _ ?_
        clear h_c K_c
        simp only [List.drop_succ_cons, List.drop_zero, Nat.zero_add]
        have hol := outP_le (rows := rows) ps
        refine aopsT_acc (hA2.up 6) (by have := hA2.like.next; omega) (by simp) rfl (ys := [.agg [.int .u64 (e.x.id : Int), .sl (spsAV e.x.sp) .none]]) ?_ ?_ ?_ (fun x' t' G' hA3 hnx3 hGn hoth _ => ?_)
        · rfl
        · exact xsT_fits (outP rows ps ++ [e.x]) ▸ by simp [xsAVT]
        · have hss : [AV.agg [.int .u64 (e.x.id : Int), .sl (spsAV e.x.sp) .none]].length = 1 := rfl
          rw [xsT_len, hss]; omega
        try simp only [aopsT, qstep, astep, ev, setd, List.set, List.getD, List.getElem?_cons_zero, List.getElem?_cons_succ, List.cons_append, List.nil_append, List.replicate, then_normal, Option.getD_some, ]
        refine h2 _ _ ?_
        try clear h2 K_h2
        simp only [St.up_next] at hnx3
        have hsame : ∀ n, n < τ1.next → (∀ g, Gx = some g → n ≠ g) → t'.res n = τ1.res n := fun n a1 a2 => (hoth n (by omega) a2).trans rfl
        have K3 : KStT t' pn pr ph pl h nx G rows next l' turn := K2.same fun n hn => by
          refine hsame n ?_ (fun g e => ?_)
          · rcases hn with rfl | rfl | rfl | rfl | rfl | rfl | hn
            · omega
            · omega
            · omega
            · omega
            · omega
            · omega
            · exact b7 n hn
          · obtain ⟨⟨s1, s2, s3, s4, s5, s6⟩, s7⟩ := hsep g e
            rcases hn with rfl | rfl | rfl | rfl | rfl | rfl | hn
            · exact Ne.symm s1
            · exact Ne.symm s2
            · exact Ne.symm s3
            · exact Ne.symm s4
            · exact Ne.symm s5
            · exact Ne.symm s6
            · exact fun h' => s7 (by rw [← h']; exact hn)
        have hq3 : t'.res q = some (.obj (fCT e)) := (hsame q hql hqg).trans hq
        have N3 : KNmT σ t' pn pr ph pl h nx G := ⟨N2.lo, ⟨by omega, by omega, by omega, by omega, by omega, by omega, fun g e => by have := b7 g e; omega⟩, hA3.like⟩
        have hxs : xsAVT (outP rows ps) ++ [.agg [.int .u64 (e.x.id : Int), .sl (spsAV e.x.sp) .none]] = xsAVT (outP rows (ps ++ [(e.row, k)])) := by
          rw [outP_snoc (a := e.x) (by simp [atP, q1, q3])]; simp [xsAVT]
        rw [hxs] at hA3
        have hn3 : t'.next = τ1.next + 6 := hnx3
        have hsep3 : ∀ g, G' = some g → (g ≠ pn ∧ g ≠ nx ∧ g ≠ pr ∧ g ≠ ph ∧ g ≠ pl ∧ g ≠ h) ∧ G ≠ some g := fun g e => by
          have hg := hGn g e
          refine ⟨⟨by omega, by omega, by omega, by omega, by omega, by omega⟩, fun h' => ?_⟩
          have := b7 g h'; omega
        have hGl : ∀ g, G' = some g → g < τ1.next + 6 := fun g e => by have := hGn g e; omega
        clear hoth hGn hsame hA2 K2 N2 hq hqu
        refine T.regi hm ?_
        simp only [↓reduceIte, namesOf, List.any, I.names, aopsI, astep, ev, setd, List.set, List.getD, List.getElem?_cons_zero, List.getElem?_cons_succ, List.cons_append, List.nil_append, List.replicate, then_normal, inBlock_normal, Option.getD_some, Bool.or_false, Bool.false_eq_true, up_zero, ↓opt_def, ldc, List.map_cons, List.map_nil, hq3, Nat.zero_add]
        refine (kpushT_ok K3 hph' q1 hnk hrr (by omega) (by omega)).mono ?_
        rintro v τ4 ⟨rfl, hc⟩
        try simp only [↓reduceIte, namesOf, List.any, I.names, aops, aopsI, aopsT, qstep, CPt, qget, Tbl.get, astep, ev, setd, List.set, List.getD, List.getElem?_cons_zero, List.getElem?_cons_succ, List.getElem?_nil, List.cons_append, List.nil_append, List.length_cons, List.length_nil, List.replicate, then_normal, inBlock_normal, Option.getD_some, Option.getD_none, Bool.or_false, Bool.or_true, Bool.true_or, Bool.false_or, Bool.false_eq_true, if_false, if_true, up_zero, Nat.reduceAdd, Nat.reduceSub, binv, ↓opt_def, AV.isAny, AV.cells, ldc, List.map_cons, List.map_nil, St.set_next, St.set_same, St.up_next, Int.natCast_nonneg, lt_len, le_len, Int.toNat_natCast, true_and, and_true, eq_self, reduceCtorEq, decide_true, List.length_singleton, er_int, er_bool, er_str, up_zero]
        rcases hc with ⟨hc1, rfl⟩ | ⟨a, e2, l2, G2, ha, hex, her, K4, hp4, hh4, hf4, hG4⟩
        · exact ⟨by omega, _, _, Gh.keep [5, 7, 9], c.set e.row (k + 1), next, l', G, G', turn, ps ++ [(e.row, k)], x', ⟨by simp [hps], K3, hph', hF1.none q1 (by rw [List.getElem?_set_self (List.getElem?_eq_some_iff.1 q2).1]) hc1, hTk', hnl, hNx.none q1 q2 hc1, N3, hA3, hsep3, by omega, by omega⟩, rfl⟩
        · have hl2 : l2.length = l'.length + 1 := by rw [hp4.length_eq]; simp
          refine ⟨by omega, _, _, Gh.keep [5, 7, 9], c.set e.row (k + 1), next.set e.row (k + 2), l2, G2, G', turn + 1, ps ++ [(e.row, k)], x', ⟨by simp [hps], K4, hh4, ?_, hTk', by rw [List.length_set]; exact hnl, ?_, N3.step hf4 (fun g e => ⟨.inr (hG4 g e).1, (hG4 g e).2⟩), ?_, fun g e => ⟨(hsep3 g e).1, fun h' => ?_⟩, by omega, by omega⟩, rfl⟩
          · exact (hF1.push q1 (by rw [List.getElem?_set_self (List.getElem?_eq_some_iff.1 q2).1]) (by rw [hex]; exact ha) her).perm hp4
          · exact hNx.push hnl q1 (List.getElem?_eq_some_iff.1 ha).1
          · refine hA3.keep hf4.next (fun m hm => ?_) (fun g e => ?_)
            · have := N3.lo
              have := N3.like.next
              exact hf4.old m (by omega) (by omega) (by omega) (fun g e => by have := N3.lo.2.2 g e; omega)
            · obtain ⟨⟨s1, s2, s3, s4, s5, s6⟩, s7⟩ := hsep3 g e
              exact hf4.old g (by have := hGl g e; omega) s6 s2 (fun g' e' h' => s7 (by rw [h']; exact e'))
          · have := (hG4 g h').1
            have := hGl g e; omega
    · refine T.cond (b := true) (by simp [ev]; omega) (fun _ => T.skip ?_) (fun h => by cases h)
      refine h2 _ _ ?_
      try clear h2 K_h2
      have hw := inc64' hil (by omega)
      have hri : rows[i]? = some rows[i] := by simp [hil]
      have hrl' := hrl _ (List.getElem_mem hil)
      generalize rows[i] = row at hri hrl'
      have hni := hnx i row hri
      rw [if_neg (by omega)] at hni
      refine T.seq_k (fun K_h2 h2 => ?_)
      refine T.block ?_
      refine T.seq_k (fun K_h0 h0 => ?_)
      refine T.regi hm ?_
      simp only [↓reduceIte, namesOf, List.any, I.names, aopsI, astep, ev, setd, List.set, List.getD, List.getElem?_cons_zero, List.getElem?_cons_succ, List.cons_append, List.nil_append, List.replicate, then_normal, Option.getD_some, Bool.or_false, Bool.false_eq_true, up_zero]
      refine h0 _ _ ?_
      try clear h0 K_h0
      refine T.regi hm ?_
      simp only [↓reduceIte, namesOf, List.any, I.names, aopsI, astep, ev, setd, List.set, List.getD, List.getElem?_cons_zero, List.getElem?_cons_succ, List.cons_append, List.nil_append, List.replicate, then_normal, inBlock_normal, Option.getD_some, Bool.or_false, Bool.false_eq_true, up_zero, List.map_cons, List.map_nil]
      refine (kpushT_ok K hh hri hni hrl' (by omega) (by omega)).mono ?_
      rintro v τ ⟨rfl, hc⟩
      try simp only [↓reduceIte, namesOf, List.any, I.names, aops, aopsI, aopsT, qstep, CPt, qget, Tbl.get, astep, ev, setd, List.set, List.getD, List.getElem?_cons_zero, List.getElem?_cons_succ, List.getElem?_nil, List.cons_append, List.nil_append, List.length_cons, List.length_nil, List.replicate, then_normal, inBlock_normal, Option.getD_some, Option.getD_none, Bool.or_false, Bool.or_true, Bool.true_or, Bool.false_or, Bool.false_eq_true, if_false, if_true, up_zero, Nat.reduceAdd, Nat.reduceSub, binv, ↓opt_def, AV.isAny, AV.cells, ldc, List.map_cons, List.map_nil, St.set_next, St.set_same, St.up_next, Int.natCast_nonneg, lt_len, le_len, Int.toNat_natCast, true_and, and_true, eq_self, reduceCtorEq, decide_true, List.length_singleton, er_int, er_bool, er_str, up_zero]
      refine h2 _ _ ?_
      try clear h2 K_h2
      refine T.regi hm ?_
      simp only [↓reduceIte, namesOf, List.any, I.names, aopsI, astep, ev, setd, List.set, List.getD, List.getElem?_cons_zero, List.getElem?_cons_succ, List.cons_append, List.nil_append, List.replicate, then_normal, Option.getD_some, Bool.or_false, Bool.false_eq_true, up_zero, binv, ↓opt_def, eq_self, hw]
      rcases hc with ⟨h0, rfl⟩ | ⟨a, e, l', G', ha, hex, her, K', hp, hh', hf, hG'⟩
      · refine ⟨hil, _, _, Gh.keep [5, 7, 19, 20], next, l, G, turn, K, hh, F0.none hri h0, hnl, fun j row' hj => ?_, N, hlt, by omega, rfl⟩
        rw [hnx j row' hj]
        by_cases hji : j = i
        · subst hji
          rw [hri] at hj; cases hj
          rw [if_neg (by omega), if_pos (by omega)]; congr 1; omega
        · by_cases hj2 : j < i
          · rw [if_pos hj2, if_pos (by omega)]
          · rw [if_neg hj2, if_neg (by omega)]
      · have hl2 : l'.length = l.length + 1 := by rw [hp.length_eq]; simp
        refine ⟨hil, _, _, Gh.keep [5, 7, 19, 20], next.set i (0 + 1), l', G', turn + 1, K', hh', (F0.push hri (by rw [hex]; exact ha) her).perm hp, by rw [List.length_set]; exact hnl, fun j row' hj => ?_, N.step hf (fun g e => ⟨.inr (hG' g e).1, (hG' g e).2⟩), by omega, by omega, rfl⟩
        rw [List.getElem?_set]
        by_cases hji : i = j
        · subst hji
          rw [hri] at hj; cases hj
          have := (List.getElem?_eq_some_iff.1 ha).1
          rw [if_pos rfl, if_pos (by omega), if_pos (by omega)]; congr 1; omega
        · rw [if_neg hji, hnx j row' hj]
          by_cases hj2 : j < i
          · rw [if_pos hj2, if_pos (by omega)]
          · rw [if_neg hj2, if_neg (by omega)]

end Go.VL
