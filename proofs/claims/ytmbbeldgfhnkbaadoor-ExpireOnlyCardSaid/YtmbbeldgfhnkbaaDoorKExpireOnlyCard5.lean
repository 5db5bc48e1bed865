/- Texts put together, of these what the theorem needs: Metas: are they the same, do they rise? (ref 14, ref 19) May a meta, and a marker, be? A marker's bytes. The value logic: a slice that is appended to, again and again. The compiled code of functions of this seat. MADE BY PROGRAM (mkc.py). Contracts: a store's small parts. Contracts: a store's names; a new store. Contracts: what is done with a store. The law StoreKeeps, walked. What has run out, and expire.Mark. expire.Mark, walked. Contracts: an index out of bytes. The plain law of IndexFinds: what is put is got, and each trace's page is found. The document's marker of bytes. What is marked, plain; the head of layer 21. -/
import Derived.Test.YtmbbeldgfhnkbaaDoorKExpireOnlyCard4
import Derived.Test.YtmbbeldgfhnkbaaDoorChecked

set_option linter.unusedSimpArgs false
set_option linter.unusedVariables false

namespace Go.VL

open Go.Proofs

structure Mt where
  id : Nat
  level : Int
  st : Int
  en : Int
  pages : Int
  traces : Int
  deriving DecidableEq

abbrev mtC (m : Mt) : List AV := [.int .u64 (m.id : Int), .int .i64 m.level, .int .i64 m.st, .int .i64 m.en, .int .i64 m.pages, .int .i64 m.traces]

def mtsAV (l : List Mt) : List AV := l.map fun m => .agg [.int .u64 (m.id : Int), .int .i64 m.level, .int .i64 m.st, .int .i64 m.en, .int .i64 m.pages, .int .i64 m.traces]

theorem mts_len (l : List Mt) : (mtsAV l).length = l.length := by simp [mtsAV]

theorem mts_get {l : List Mt} {i : Nat} {m : Mt} (h : l[i]? = some m) : (mtsAV l)[i]? = some (.agg [.int .u64 (m.id : Int), .int .i64 m.level, .int .i64 m.st, .int .i64 m.en, .int .i64 m.pages, .int .i64 m.traces]) := by simp [mtsAV, h]

theorem mts_fits (l : List Mt) : (mtsAV l).all (AV.fits 6) = true := by
  simp [mtsAV, AV.fits, AV.isAny, AV.cells, AV.one]

theorem mts_nb (m : Nat) (l : List Mt) : nbs m (mtsAV l) := by
  rw [nbs_iff]
  intro y hy
  obtain ⟨t, _, rfl⟩ := List.mem_map.1 hy
  exact ⟨trivial, trivial, trivial, trivial, trivial, trivial, trivial⟩

/-- do metas rise by Id? -/
abbrev RisM (l : List Mt) : Prop := l.Pairwise fun x y => x.id < y.id

theorem RisM.snoc {l : List Mt} {i : Nat} {x y : Mt} (h : RisM (l.take i)) (hi : 0 < i) (hx : l[i - 1]? = some x) (hy : l[i]? = some y) (hlt : x.id < y.id) : RisM (l.take (i + 1)) := by
  obtain ⟨hil, rfl⟩ := List.getElem?_eq_some_iff.1 hy
  obtain ⟨hil2, rfl⟩ := List.getElem?_eq_some_iff.1 hx
  rw [List.take_succ_eq_append_getElem hil]
  refine List.pairwise_append.2 ⟨h, List.pairwise_singleton _ _, fun a ha b hb => ?_⟩
  rw [List.mem_singleton] at hb; subst hb
  obtain ⟨k, hk, rfl⟩ := List.getElem_of_mem ha
  rw [List.length_take] at hk
  rw [List.getElem_take]
  rcases Nat.lt_or_ge k (i - 1) with h1 | h1
  · have h2 := List.pairwise_iff_getElem.1 h k (i - 1) (by rw [List.length_take]; omega) (by rw [List.length_take]; omega) h1
    rw [List.getElem_take, List.getElem_take] at h2
    omega
  · have : k = i - 1 := by omega
    subst this; exact hlt

theorem RisM.bad {l : List Mt} {i : Nat} {x y : Mt} (hi : 0 < i) (hx : l[i - 1]? = some x) (hy : l[i]? = some y) (hlt : ¬ x.id < y.id) : ¬ RisM l := fun h => by
  obtain ⟨hil, rfl⟩ := List.getElem?_eq_some_iff.1 hy
  obtain ⟨hil2, rfl⟩ := List.getElem?_eq_some_iff.1 hx
  exact hlt (List.pairwise_iff_getElem.1 h _ _ hil2 hil (by omega))

end Go.VL

namespace Go.VL

open Go.Proofs

abbrev mayM (m : Mt) : Prop := (m.id : Int) ≥ 1 ∧ m.level ≥ 0 ∧ m.level ≤ 10 ∧ m.st ≥ 0 ∧ m.st ≤ m.en ∧ m.en ≤ 1099511627776 ∧ m.pages ≥ 1 ∧ m.pages ≤ 200 ∧ m.traces ≥ m.pages ∧ m.traces ≤ m.pages * 64

set_option maxRecDepth 10000 in
set_option maxHeartbeats 1000000 in
theorem mMay_ok {m : Mt} {σ : St} : ACalls Tryd.prog n_mMay [.agg [.int .u64 (m.id : Int), .int .i64 m.level, .int .i64 m.st, .int .i64 m.en, .int .i64 m.pages, .int .i64 m.traces]] σ (fun v σ' => v = .bool (decide (mayM m)) ∧ σ' = σ) := by
  refine s_mMay (fun wf => ?_)
  unfold c_mMay
  refine T.seq_k (fun K_h0 h0 => ?_)
  refine T.regi hm ?_
  simp only [↓reduceIte, namesOf, List.any, I.names, aopsI, astep, ev, setd, List.set, List.getD, List.getElem?_cons_zero, List.cons_append, List.nil_append, List.length_cons, List.length_nil, List.replicate, then_normal, Option.getD_some, Bool.or_false, Bool.false_eq_true, Nat.reduceAdd, Nat.reduceSub, AV.isAny, AV.cells, eq_self]
  refine h0 _ _ ?_
  try clear h0 K_h0
  have hb : ((σ.up 2).set (σ.next + 0) (.obj [.int .u64 (m.id : Int), .int .i64 m.level, .int .i64 m.st, .int .i64 m.en, .int .i64 m.pages, .int .i64 m.traces])).res (σ.next + 0) = some (.obj [.int .u64 (m.id : Int), .int .i64 m.level, .int .i64 m.st, .int .i64 m.en, .int .i64 m.pages, .int .i64 m.traces]) := St.set_same _ _ _
  have hL : Like σ ((σ.up 2).set (σ.next + 0) (.obj [.int .u64 (m.id : Int), .int .i64 m.level, .int .i64 m.st, .int .i64 m.en, .int .i64 m.pages, .int .i64 m.traces])) := (Like.refl σ).box (n := 2) (i := 0) _
  generalize ((σ.up 2).set (σ.next + 0) (.obj [.int .u64 (m.id : Int), .int .i64 m.level, .int .i64 m.st, .int .i64 m.en, .int .i64 m.pages, .int .i64 m.traces])) = t at hb hL ⊢
  generalize σ.next + 0 = b at hb ⊢
  by_cases c1 : (m.id : Int) ≥ 1
  case neg =>
    have f1 : decide ((m.id : Int) ≥ 1) = false := decide_eq_false c1
    have hm0 : decide (mayM m) = false := decide_eq_false (fun h => c1 h.1)
    refine T.seq_k (fun K_h0 h0 => ?_)
    refine T.regi hm ?_
    simp only [↓reduceIte, namesOf, List.any, I.names, aopsI, astep, ev, setd, List.set, List.getD, List.getElem?_cons_zero, List.getElem?_cons_succ, then_normal, Option.getD_some, Bool.or_false, Bool.false_eq_true, up_zero, binv, ↓opt_def, ldc, eq_self, hb, Nat.zero_add, f1]
    refine h0 _ _ ?_
    try clear h0 K_h0
    exact T.ret (Fin.quiet rfl trivial (hL.quiet wf) ⟨by rw [hm0]; rfl, rfl⟩)
  have f1 : decide ((m.id : Int) ≥ 1) = true := decide_eq_true c1
  by_cases c2 : m.level ≥ 0
  case neg =>
    have f2 : decide (m.level ≥ 0) = false := decide_eq_false c2
    have hm0 : decide (mayM m) = false := decide_eq_false (fun h => c2 h.2.1)
    refine T.seq_k (fun K_h0 h0 => ?_)
    refine T.regi hm ?_
    simp only [↓reduceIte, namesOf, List.any, I.names, aopsI, astep, ev, setd, List.set, List.getD, List.getElem?_cons_zero, List.getElem?_cons_succ, then_normal, Option.getD_some, Bool.or_false, Bool.false_eq_true, up_zero, binv, ↓opt_def, ldc, eq_self, hb, Nat.zero_add, f1, f2]
    refine h0 _ _ ?_
    try clear h0 K_h0
    exact T.ret (Fin.quiet rfl trivial (hL.quiet wf) ⟨by rw [hm0]; rfl, rfl⟩)
  have f2 : decide (m.level ≥ 0) = true := decide_eq_true c2
  by_cases c3 : m.level ≤ 10
  case neg =>
    have f3 : decide (m.level ≤ 10) = false := decide_eq_false c3
    have hm0 : decide (mayM m) = false := decide_eq_false (fun h => c3 h.2.2.1)
    refine T.seq_k (fun K_h0 h0 => ?_)
    refine T.regi hm ?_
    simp only [↓reduceIte, namesOf, List.any, I.names, aopsI, astep, ev, setd, List.set, List.getD, List.getElem?_cons_zero, List.getElem?_cons_succ, then_normal, Option.getD_some, Bool.or_false, Bool.false_eq_true, up_zero, binv, ↓opt_def, ldc, eq_self, hb, Nat.zero_add, f1, f2, f3]
    refine h0 _ _ ?_
    try clear h0 K_h0
    exact T.ret (Fin.quiet rfl trivial (hL.quiet wf) ⟨by rw [hm0]; rfl, rfl⟩)
  have f3 : decide (m.level ≤ 10) = true := decide_eq_true c3
  by_cases c4 : m.st ≥ 0
  case neg =>
    have f4 : decide (m.st ≥ 0) = false := decide_eq_false c4
    have hm0 : decide (mayM m) = false := decide_eq_false (fun h => c4 h.2.2.2.1)
    refine T.seq_k (fun K_h0 h0 => ?_)
    refine T.regi hm ?_
    simp only [↓reduceIte, namesOf, List.any, I.names, aopsI, astep, ev, setd, List.set, List.getD, List.getElem?_cons_zero, List.getElem?_cons_succ, then_normal, Option.getD_some, Bool.or_false, Bool.false_eq_true, up_zero, binv, ↓opt_def, ldc, eq_self, hb, Nat.zero_add, f1, f2, f3, f4]
    refine h0 _ _ ?_
    try clear h0 K_h0
    exact T.ret (Fin.quiet rfl trivial (hL.quiet wf) ⟨by rw [hm0]; rfl, rfl⟩)
  have f4 : decide (m.st ≥ 0) = true := decide_eq_true c4
  by_cases c5 : m.st ≤ m.en
  case neg =>
    have f5 : decide (m.st ≤ m.en) = false := decide_eq_false c5
    have hm0 : decide (mayM m) = false := decide_eq_false (fun h => c5 h.2.2.2.2.1)
    refine T.seq_k (fun K_h0 h0 => ?_)
    refine T.regi hm ?_
    simp only [↓reduceIte, namesOf, List.any, I.names, aopsI, astep, ev, setd, List.set, List.getD, List.getElem?_cons_zero, List.getElem?_cons_succ, then_normal, Option.getD_some, Bool.or_false, Bool.false_eq_true, up_zero, binv, ↓opt_def, ldc, eq_self, hb, Nat.zero_add, f1, f2, f3, f4, f5]
    refine h0 _ _ ?_
    try clear h0 K_h0
    exact T.ret (Fin.quiet rfl trivial (hL.quiet wf) ⟨by rw [hm0]; rfl, rfl⟩)
  have f5 : decide (m.st ≤ m.en) = true := decide_eq_true c5
  by_cases c6 : m.en ≤ 1099511627776
  case neg =>
    have f6 : decide (m.en ≤ 1099511627776) = false := decide_eq_false c6
    have hm0 : decide (mayM m) = false := decide_eq_false (fun h => c6 h.2.2.2.2.2.1)
    refine T.seq_k (fun K_h0 h0 => ?_)
    refine T.regi hm ?_
    simp only [↓reduceIte, namesOf, List.any, I.names, aopsI, astep, ev, setd, List.set, List.getD, List.getElem?_cons_zero, List.getElem?_cons_succ, then_normal, Option.getD_some, Bool.or_false, Bool.false_eq_true, up_zero, binv, ↓opt_def, ldc, eq_self, hb, Nat.zero_add, f1, f2, f3, f4, f5, f6]
    refine h0 _ _ ?_
    try clear h0 K_h0
    exact T.ret (Fin.quiet rfl trivial (hL.quiet wf) ⟨by rw [hm0]; rfl, rfl⟩)
  have f6 : decide (m.en ≤ 1099511627776) = true := decide_eq_true c6
  by_cases c7 : m.pages ≥ 1
  case neg =>
    have f7 : decide (m.pages ≥ 1) = false := decide_eq_false c7
    have hm0 : decide (mayM m) = false := decide_eq_false (fun h => c7 h.2.2.2.2.2.2.1)
    refine T.seq_k (fun K_h0 h0 => ?_)
    refine T.regi hm ?_
    simp only [↓reduceIte, namesOf, List.any, I.names, aopsI, astep, ev, setd, List.set, List.getD, List.getElem?_cons_zero, List.getElem?_cons_succ, then_normal, Option.getD_some, Bool.or_false, Bool.false_eq_true, up_zero, binv, ↓opt_def, ldc, eq_self, hb, Nat.zero_add, f1, f2, f3, f4, f5, f6, f7]
    refine h0 _ _ ?_
    try clear h0 K_h0
    exact T.ret (Fin.quiet rfl trivial (hL.quiet wf) ⟨by rw [hm0]; rfl, rfl⟩)
  have f7 : decide (m.pages ≥ 1) = true := decide_eq_true c7
  by_cases c8 : m.pages ≤ 200
  case neg =>
    have f8 : decide (m.pages ≤ 200) = false := decide_eq_false c8
    have hm0 : decide (mayM m) = false := decide_eq_false (fun h => c8 h.2.2.2.2.2.2.2.1)
    refine T.seq_k (fun K_h0 h0 => ?_)
    refine T.regi hm ?_
    simp only [↓reduceIte, namesOf, List.any, I.names, aopsI, astep, ev, setd, List.set, List.getD, List.getElem?_cons_zero, List.getElem?_cons_succ, then_normal, Option.getD_some, Bool.or_false, Bool.false_eq_true, up_zero, binv, ↓opt_def, ldc, eq_self, hb, Nat.zero_add, f1, f2, f3, f4, f5, f6, f7, f8]
    refine h0 _ _ ?_
    try clear h0 K_h0
    exact T.ret (Fin.quiet rfl trivial (hL.quiet wf) ⟨by rw [hm0]; rfl, rfl⟩)
  have f8 : decide (m.pages ≤ 200) = true := decide_eq_true c8
  by_cases c9 : m.traces ≥ m.pages
  case neg =>
    have f9 : decide (m.traces ≥ m.pages) = false := decide_eq_false c9
    have hm0 : decide (mayM m) = false := decide_eq_false (fun h => c9 h.2.2.2.2.2.2.2.2.1)
    refine T.seq_k (fun K_h0 h0 => ?_)
    refine T.regi hm ?_
    simp only [↓reduceIte, namesOf, List.any, I.names, aopsI, astep, ev, setd, List.set, List.getD, List.getElem?_cons_zero, List.getElem?_cons_succ, then_normal, Option.getD_some, Bool.or_false, Bool.false_eq_true, up_zero, binv, ↓opt_def, ldc, eq_self, hb, Nat.zero_add, f1, f2, f3, f4, f5, f6, f7, f8, f9]
    refine h0 _ _ ?_
    try clear h0 K_h0
    exact T.ret (Fin.quiet rfl trivial (hL.quiet wf) ⟨by rw [hm0]; rfl, rfl⟩)
  have f9 : decide (m.traces ≥ m.pages) = true := decide_eq_true c9
  have hw : IntKind.i64.wrap (m.pages * 64) = m.pages * 64 := wrap64 (by omega) (by omega)
  by_cases c10 : m.traces ≤ m.pages * 64
  case neg =>
    have f10 : decide (m.traces ≤ m.pages * 64) = false := decide_eq_false c10
    have hm0 : decide (mayM m) = false := decide_eq_false (fun h => c10 h.2.2.2.2.2.2.2.2.2)
    refine T.seq_k (fun K_h0 h0 => ?_)
    refine T.regi hm ?_
    simp only [↓reduceIte, namesOf, List.any, I.names, aopsI, astep, ev, setd, List.set, List.getD, List.getElem?_cons_zero, List.getElem?_cons_succ, then_normal, Option.getD_some, Bool.or_false, Bool.false_eq_true, up_zero, binv, ↓opt_def, ldc, eq_self, hb, Nat.zero_add, f1, f2, f3, f4, f5, f6, f7, f8, f9, f10, hw]
    refine h0 _ _ ?_
    try clear h0 K_h0
    exact T.ret (Fin.quiet rfl trivial (hL.quiet wf) ⟨by rw [hm0]; rfl, rfl⟩)
  have f10 : decide (m.traces ≤ m.pages * 64) = true := decide_eq_true c10
  have hm0 : decide (mayM m) = true := decide_eq_true ⟨c1, c2, c3, c4, c5, c6, c7, c8, c9, c10⟩
  refine T.seq_k (fun K_h0 h0 => ?_)
  refine T.regi hm ?_
  simp only [↓reduceIte, namesOf, List.any, I.names, aopsI, astep, ev, setd, List.set, List.getD, List.getElem?_cons_zero, List.getElem?_cons_succ, then_normal, Option.getD_some, Bool.or_false, Bool.false_eq_true, up_zero, binv, ↓opt_def, ldc, eq_self, hb, Nat.zero_add, f1, f2, f3, f4, f5, f6, f7, f8, f9, f10, hw]
  refine h0 _ _ ?_
  try clear h0 K_h0
  exact T.ret (Fin.quiet rfl trivial (hL.quiet wf) ⟨by rw [hm0]; rfl, rfl⟩)

structure Mk where
  id : Nat
  at_ : Int
  by_ : Nat

abbrev fairM (k : Mk) : Prop := (k.id : Int) ≥ 1 ∧ k.at_ ≥ 0 ∧ k.at_ ≤ 1099511627776 ∧ k.by_ ≠ k.id

abbrev mkC (k : Mk) : List AV := [.int .u64 (k.id : Int), .int .i64 k.at_, .int .u64 (k.by_ : Int)]

set_option maxRecDepth 10000 in
theorem mFair_ok {k : Mk} {σ : St} : ACalls Tryd.prog n_mFair [.agg [.int .u64 (k.id : Int), .int .i64 k.at_, .int .u64 (k.by_ : Int)]] σ (fun v σ' => v = .bool (decide (fairM k)) ∧ σ' = σ) := by
  refine s_mFair (fun wf => ?_)
  unfold c_mFair
  refine T.seq_k (fun K_h0 h0 => ?_)
  refine T.regi hm ?_
  simp only [↓reduceIte, namesOf, List.any, I.names, aopsI, astep, ev, setd, List.set, List.getD, List.getElem?_cons_zero, List.cons_append, List.nil_append, List.length_cons, List.length_nil, List.replicate, then_normal, Option.getD_some, Bool.or_false, Bool.false_eq_true, Nat.reduceAdd, Nat.reduceSub, AV.isAny, AV.cells, eq_self]
  refine h0 _ _ ?_
  try clear h0 K_h0
  have hb : ((σ.up 2).set (σ.next + 0) (.obj [.int .u64 (k.id : Int), .int .i64 k.at_, .int .u64 (k.by_ : Int)])).res (σ.next + 0) = some (.obj [.int .u64 (k.id : Int), .int .i64 k.at_, .int .u64 (k.by_ : Int)]) := St.set_same _ _ _
  have hL : Like σ ((σ.up 2).set (σ.next + 0) (.obj [.int .u64 (k.id : Int), .int .i64 k.at_, .int .u64 (k.by_ : Int)])) := (Like.refl σ).box (n := 2) (i := 0) _
  generalize ((σ.up 2).set (σ.next + 0) (.obj [.int .u64 (k.id : Int), .int .i64 k.at_, .int .u64 (k.by_ : Int)])) = t at hb hL ⊢
  generalize σ.next + 0 = b at hb ⊢
  by_cases c1 : (k.id : Int) ≥ 1
  case neg =>
    have f1 : decide ((k.id : Int) ≥ 1) = false := decide_eq_false c1
    have hm0 : decide (fairM k) = false := decide_eq_false (fun h => c1 (by have := h.1; omega))
    refine T.seq_k (fun K_h0 h0 => ?_)
    refine T.regi hm ?_
    simp only [↓reduceIte, namesOf, List.any, I.names, aopsI, astep, ev, setd, List.set, List.getD, List.getElem?_cons_zero, List.getElem?_cons_succ, then_normal, Option.getD_some, Bool.or_false, Bool.false_eq_true, up_zero, binv, ↓opt_def, ldc, eq_self, hb, Nat.zero_add, f1]
    refine h0 _ _ ?_
    try clear h0 K_h0
    exact T.ret (Fin.quiet rfl trivial (hL.quiet wf) ⟨by rw [hm0]; rfl, rfl⟩)
  have f1 : decide ((k.id : Int) ≥ 1) = true := decide_eq_true c1
  by_cases c2 : k.at_ ≥ 0
  case neg =>
    have f2 : decide (k.at_ ≥ 0) = false := decide_eq_false c2
    have hm0 : decide (fairM k) = false := decide_eq_false (fun h => c2 (by have := h.2.1; omega))
    refine T.seq_k (fun K_h0 h0 => ?_)
    refine T.regi hm ?_
    simp only [↓reduceIte, namesOf, List.any, I.names, aopsI, astep, ev, setd, List.set, List.getD, List.getElem?_cons_zero, List.getElem?_cons_succ, then_normal, Option.getD_some, Bool.or_false, Bool.false_eq_true, up_zero, binv, ↓opt_def, ldc, eq_self, hb, Nat.zero_add, f1, f2]
    refine h0 _ _ ?_
    try clear h0 K_h0
    exact T.ret (Fin.quiet rfl trivial (hL.quiet wf) ⟨by rw [hm0]; rfl, rfl⟩)
  have f2 : decide (k.at_ ≥ 0) = true := decide_eq_true c2
  by_cases c3 : k.at_ ≤ 1099511627776
  case neg =>
    have f3 : decide (k.at_ ≤ 1099511627776) = false := decide_eq_false c3
    have hm0 : decide (fairM k) = false := decide_eq_false (fun h => c3 (by have := h.2.2.1; omega))
    refine T.seq_k (fun K_h0 h0 => ?_)
    refine T.regi hm ?_
    simp only [↓reduceIte, namesOf, List.any, I.names, aopsI, astep, ev, setd, List.set, List.getD, List.getElem?_cons_zero, List.getElem?_cons_succ, then_normal, Option.getD_some, Bool.or_false, Bool.false_eq_true, up_zero, binv, ↓opt_def, ldc, eq_self, hb, Nat.zero_add, f1, f2, f3]
    refine h0 _ _ ?_
    try clear h0 K_h0
    exact T.ret (Fin.quiet rfl trivial (hL.quiet wf) ⟨by rw [hm0]; rfl, rfl⟩)
  have f3 : decide (k.at_ ≤ 1099511627776) = true := decide_eq_true c3
  have hm0 : decide (fairM k) = ((k.by_ : Int) != (k.id : Int)) := by
    by_cases h : k.by_ = k.id
    · rw [decide_eq_false (fun hf => hf.2.2.2 h), h]; simp
    · rw [decide_eq_true ⟨by omega, c2, c3, h⟩]; symm; simp; omega
  refine T.seq_k (fun K_h0 h0 => ?_)
  refine T.regi hm ?_
  simp only [↓reduceIte, namesOf, List.any, I.names, aopsI, astep, ev, setd, List.set, List.getD, List.getElem?_cons_zero, List.getElem?_cons_succ, then_normal, Option.getD_some, Bool.or_false, Bool.false_eq_true, up_zero, binv, ↓opt_def, ldc, eq_self, hb, Nat.zero_add, f1, f2, f3]
  refine h0 _ _ ?_
  try clear h0 K_h0
  exact T.ret (Fin.quiet rfl trivial (hL.quiet wf) ⟨by rw [hm0]; rfl, rfl⟩)

set_option maxRecDepth 10000 in
theorem rFair_ok {k : Mk} {σ : St} : ACalls Tryd.prog n_rFair [.agg [.int .u64 (k.id : Int), .int .i64 k.at_, .int .u64 (k.by_ : Int)]] σ (fun v σ' => v = .bool (decide (fairM k)) ∧ σ' = σ) := by
  refine s_rFair (fun wf => ?_)
  unfold c_rFair
  refine T.seq_k (fun K_h0 h0 => ?_)
  refine T.regi hm ?_
  simp only [↓reduceIte, namesOf, List.any, I.names, aopsI, astep, ev, setd, List.set, List.getD, List.getElem?_cons_zero, List.cons_append, List.nil_append, List.length_cons, List.length_nil, List.replicate, then_normal, Option.getD_some, Bool.or_false, Bool.false_eq_true, Nat.reduceAdd, Nat.reduceSub, AV.isAny, AV.cells, eq_self]
  refine h0 _ _ ?_
  try clear h0 K_h0
  have hb : ((σ.up 2).set (σ.next + 0) (.obj [.int .u64 (k.id : Int), .int .i64 k.at_, .int .u64 (k.by_ : Int)])).res (σ.next + 0) = some (.obj [.int .u64 (k.id : Int), .int .i64 k.at_, .int .u64 (k.by_ : Int)]) := St.set_same _ _ _
  have hL : Like σ ((σ.up 2).set (σ.next + 0) (.obj [.int .u64 (k.id : Int), .int .i64 k.at_, .int .u64 (k.by_ : Int)])) := (Like.refl σ).box (n := 2) (i := 0) _
  generalize ((σ.up 2).set (σ.next + 0) (.obj [.int .u64 (k.id : Int), .int .i64 k.at_, .int .u64 (k.by_ : Int)])) = t at hb hL ⊢
  generalize σ.next + 0 = b at hb ⊢
  by_cases c1 : (k.id : Int) > 0
  case neg =>
    have f1 : decide ((k.id : Int) > 0) = false := decide_eq_false c1
    have hm0 : decide (fairM k) = false := decide_eq_false (fun h => c1 (by have := h.1; omega))
    refine T.seq_k (fun K_h0 h0 => ?_)
    refine T.regi hm ?_
    simp only [↓reduceIte, namesOf, List.any, I.names, aopsI, astep, ev, setd, List.set, List.getD, List.getElem?_cons_zero, List.getElem?_cons_succ, then_normal, Option.getD_some, Bool.or_false, Bool.false_eq_true, up_zero, binv, ↓opt_def, ldc, eq_self, hb, Nat.zero_add, f1]
    refine h0 _ _ ?_
    try clear h0 K_h0
    exact T.ret (Fin.quiet rfl trivial (hL.quiet wf) ⟨by rw [hm0]; rfl, rfl⟩)
  have f1 : decide ((k.id : Int) > 0) = true := decide_eq_true c1
  by_cases c2 : k.at_ ≥ 0
  case neg =>
    have f2 : decide (k.at_ ≥ 0) = false := decide_eq_false c2
    have hm0 : decide (fairM k) = false := decide_eq_false (fun h => c2 (by have := h.2.1; omega))
    refine T.seq_k (fun K_h0 h0 => ?_)
    refine T.regi hm ?_
    simp only [↓reduceIte, namesOf, List.any, I.names, aopsI, astep, ev, setd, List.set, List.getD, List.getElem?_cons_zero, List.getElem?_cons_succ, then_normal, Option.getD_some, Bool.or_false, Bool.false_eq_true, up_zero, binv, ↓opt_def, ldc, eq_self, hb, Nat.zero_add, f1, f2]
    refine h0 _ _ ?_
    try clear h0 K_h0
    exact T.ret (Fin.quiet rfl trivial (hL.quiet wf) ⟨by rw [hm0]; rfl, rfl⟩)
  have f2 : decide (k.at_ ≥ 0) = true := decide_eq_true c2
  by_cases c3 : k.at_ ≤ 1099511627776
  case neg =>
    have f3 : decide (k.at_ ≤ 1099511627776) = false := decide_eq_false c3
    have hm0 : decide (fairM k) = false := decide_eq_false (fun h => c3 (by have := h.2.2.1; omega))
    refine T.seq_k (fun K_h0 h0 => ?_)
    refine T.regi hm ?_
    simp only [↓reduceIte, namesOf, List.any, I.names, aopsI, astep, ev, setd, List.set, List.getD, List.getElem?_cons_zero, List.getElem?_cons_succ, then_normal, Option.getD_some, Bool.or_false, Bool.false_eq_true, up_zero, binv, ↓opt_def, ldc, eq_self, hb, Nat.zero_add, f1, f2, f3]
    refine h0 _ _ ?_
    try clear h0 K_h0
    exact T.ret (Fin.quiet rfl trivial (hL.quiet wf) ⟨by rw [hm0]; rfl, rfl⟩)
  have f3 : decide (k.at_ ≤ 1099511627776) = true := decide_eq_true c3
  have hm0 : decide (fairM k) = ((k.by_ : Int) != (k.id : Int)) := by
    by_cases h : k.by_ = k.id
    · rw [decide_eq_false (fun hf => hf.2.2.2 h), h]; simp
    · rw [decide_eq_true ⟨by omega, c2, c3, h⟩]; symm; simp; omega
  refine T.seq_k (fun K_h0 h0 => ?_)
  refine T.regi hm ?_
  simp only [↓reduceIte, namesOf, List.any, I.names, aopsI, astep, ev, setd, List.set, List.getD, List.getElem?_cons_zero, List.getElem?_cons_succ, then_normal, Option.getD_some, Bool.or_false, Bool.false_eq_true, up_zero, binv, ↓opt_def, ldc, eq_self, hb, Nat.zero_add, f1, f2, f3]
  refine h0 _ _ ?_
  try clear h0 K_h0
  exact T.ret (Fin.quiet rfl trivial (hL.quiet wf) ⟨by rw [hm0]; rfl, rfl⟩)

/-- numbers, each of eight bytes, one behind the other -/
def w8s (l : List Nat) : List UInt8 := l.flatMap (beB 8)

theorem w8s_len (l : List Nat) : (w8s l).length = l.length * 8 := by
  induction l with
  | nil => rfl
  | cons n l ih => simp only [w8s, List.flatMap_cons, List.length_append, List.length_cons, beB_len] at ih ⊢; omega

def f8AV (l : List Nat) : List AV := l.map fun (n : Nat) => .agg [.int .i64 8, .int .u64 (n : Int)]

theorem f8_len (l : List Nat) : (f8AV l).length = l.length := by simp [f8AV]

theorem f8_get {l : List Nat} {i n : Nat} (h : l[i]? = some n) : (f8AV l)[i]? = some (.agg [.int .i64 8, .int .u64 (n : Int)]) := by simp [f8AV, h]

set_option maxRecDepth 10000 in
theorem mput8_ok {l : List Nat} {g : Ver} {σ : St} (hl : l.length ≤ 1000) : ACalls Tryd.prog n_mput [.sl (f8AV l) g] σ (fun v σ' => v = .tup [.sl (bytesAV (sealB (w8s l))) .none, .nili] ∧ σ' = σ) := by
  refine s_mput (fun wf => ?_)
  unfold c_mput
  refine T.seq_k (fun K_h0 h0 => ?_)
  refine T.regi hm ?_
  simp only [↓reduceIte, namesOf, List.any, I.names, aopsI, astep, ev, setd, List.set, List.cons_append, List.nil_append, List.length_cons, List.length_nil, List.replicate, then_normal, Bool.or_false, Bool.false_eq_true, up_zero, Nat.reduceAdd, Nat.reduceSub]
  refine h0 _ _ ?_
  try clear h0 K_h0
  refine T.seq_k (fun K_h0 h0 => ?_)
  refine T.regi hm ?_
  simp only [↓reduceIte, namesOf, List.any, I.names, aopsI, astep, ev, setd, List.set, then_normal, Bool.or_false, Bool.false_eq_true, up_zero]
  refine h0 _ _ ?_
  try clear h0 K_h0
  refine T.seq_k (fun K_h1 h1 => ?_)
  refine T.seq_k (fun K_h0 h0 => ?_)
  refine T.regi hm ?_
  simp only [↓reduceIte, namesOf, List.any, I.names, aopsI, astep, ev, setd, List.set, List.getD, List.getElem?_cons_zero, List.getElem?_cons_succ, then_normal, Option.getD_some, Bool.or_false, Bool.false_eq_true, up_zero, f8_len]
  refine h0 _ _ ?_
  try clear h0 K_h0
  refine T.block ?_
  refine T.gh (Gh.keep [4, 9, 10, 11]) ?_
  refine T.loopi (fun i ρ t => ∃ g2, Like σ t ∧ ρ = [.any, .any, .any, .any, .sl (bytesAV (w8s (l.take i))) g2, .any, .any, .any, .any, .sl (f8AV l) g, .int .i64 (l.length : Int), .int .i64 (i : Int)] ++ List.replicate 19 .any)
    l.length 0 (Nat.zero_le _) ⟨.nil, .refl _, rfl⟩ ?_
  rintro i ρ t hi ⟨g2, hL, rfl⟩
  refine T.seq_k (fun K_h0 h0 => ?_)
  refine T.regi hm ?_
  simp only [↓reduceIte, namesOf, List.any, I.names, aopsI, astep, ev, setd, List.set, List.getD, List.getElem?_cons_zero, List.getElem?_cons_succ, List.cons_append, List.nil_append, List.replicate, then_normal, Option.getD_some, Bool.or_false, Bool.false_eq_true, up_zero, binv, ↓opt_def, lt_len, eq_self]
  refine h0 _ _ ?_
  try clear h0 K_h0
  refine T.seq_k (fun K_h2 h2 => ?_)
  by_cases hil : i < l.length
  case neg =>
    refine T.cond (b := false) (by simp [ev]; omega) (fun h => by cases h) (fun _ => T.exit ?_)
    have hie : i = l.length := by omega
    subst hie
    rw [List.take_length]
    try simp only [List.cons_append, List.nil_append, List.replicate, then_normal, inBlock_exit, then_exit]
    refine h1 _ _ ?_
    try clear h1 K_h1
    refine T.seq_k (fun K_h1 h1 => ?_)
    refine T.regi hm ?_
    simp only [↓reduceIte, namesOf, List.any, I.names, aopsI, astep, ev, setd, List.set, List.getD, List.getElem?_cons_zero, List.getElem?_cons_succ, then_normal, Option.getD_some, Bool.or_false, Bool.false_eq_true, up_zero, List.map_cons, List.map_nil]
    refine (cseal_q (by rw [w8s_len]; omega)).mono ?_
    rintro v σ1 ⟨rfl, rfl⟩
    try simp only [↓reduceIte, namesOf, List.any, I.names, aops, aopsI, aopsT, qstep, CPt, qget, Tbl.get, astep, ev, setd, List.set, List.getD, List.getElem?_cons_zero, List.getElem?_cons_succ, List.getElem?_nil, List.cons_append, List.nil_append, List.length_cons, List.length_nil, List.replicate, then_normal, inBlock_normal, Option.getD_some, Option.getD_none, Bool.or_false, Bool.or_true, Bool.true_or, Bool.false_or, Bool.false_eq_true, if_false, if_true, up_zero, Nat.reduceAdd, Nat.reduceSub, binv, ↓opt_def, AV.isAny, AV.cells, ldc, List.map_cons, List.map_nil, St.set_next, St.set_same, St.up_next, Int.natCast_nonneg, lt_len, le_len, Int.toNat_natCast, true_and, and_true, eq_self, reduceCtorEq, decide_true, List.length_singleton, er_int, er_bool, er_str, srcR, up_zero]
    refine h1 _ _ ?_
    try clear h1 K_h1
    exact T.ret (Fin.quiet rfl ⟨⟨nb_bytes _ _, trivial⟩, trivial, trivial⟩ (hL.quiet wf) ⟨rfl, rfl⟩)
  refine T.cond (b := true) (by simp [ev]; omega) (fun _ => T.skip ?_) (fun h => by cases h)
  refine h2 _ _ ?_
  try clear h2 K_h2
  obtain ⟨n, hn⟩ : ∃ n, l[i]? = some n := ⟨_, List.getElem?_eq_getElem hil⟩
  have hgn := f8_get hn
  have hts : w8s (l.take (i + 1)) = w8s (l.take i) ++ beB 8 n := by
    rw [List.take_succ_eq_append_getElem hil]
    rw [List.getElem?_eq_getElem hil] at hn
    cases hn
    simp only [w8s, List.flatMap_append, List.flatMap_cons, List.flatMap_nil, List.append_nil]
  have hw := inc64' hil (by omega)
  have hlen : (w8s (l.take i)).length ≤ 1099511627776 := by rw [w8s_len, List.length_take]; omega
  refine T.seq_k (fun K_h3 h3 => ?_)
  refine T.block ?_
  refine T.seq_k (fun K_h0 h0 => ?_)
  refine T.regi hm ?_
  simp only [↓reduceIte, namesOf, List.any, I.names, aopsI, astep, ev, setd, List.set, List.getD, List.getElem?_cons_zero, List.getElem?_cons_succ, List.cons_append, List.nil_append, List.length_cons, List.length_nil, List.replicate, then_normal, Option.getD_some, Bool.or_false, Bool.or_true, Nat.reduceAdd, ↓opt_def, AV.isAny, AV.cells, ldc, St.set_same, Int.natCast_nonneg, lt_len, Int.toNat_natCast, true_and, and_true, eq_self, decide_true, hil, f8_len, hgn, AV.fits, AV.one, List.all_cons, List.all_nil, Nat.reduceBEq, Bool.not_false, Bool.and_self, Nat.zero_add, splice, List.take, List.drop, Nat.reduceLeDiff, St.set_set]
  refine h0 _ _ ?_
  try clear h0 K_h0
  have hb : ((t.up 4).set (t.next + 2) (.obj [.int .i64 8, .int .u64 (n : Int)])).res (t.next + 2) = some (.obj [.int .i64 8, .int .u64 (n : Int)]) := St.set_same _ _ _
  have hL1 : Like σ ((t.up 4).set (t.next + 2) (.obj [.int .i64 8, .int .u64 (n : Int)])) := hL.box (n := 4) (i := 2) _
  generalize ((t.up 4).set (t.next + 2) (.obj [.int .i64 8, .int .u64 (n : Int)])) = u at hb hL1 ⊢
  generalize t.next + 2 = b at hb ⊢
  refine T.seq_k (fun K_h4 h4 => ?_)
  refine T.regi hm ?_
  simp only [↓reduceIte, namesOf, List.any, I.names, aopsI, astep, ev, setd, List.set, List.getD, List.getElem?_cons_zero, List.getElem?_cons_succ, List.cons_append, List.nil_append, List.replicate, then_normal, Option.getD_some, Bool.or_false, Bool.false_eq_true, up_zero, ↓opt_def, ldc, List.map_cons, List.map_nil, hb, Nat.zero_add]
  refine (wput_ok (w := 8) hlen (by rfl) (fun h => absurd h (by omega))).mono ?_
  rintro v σ1 ⟨h, o1, rfl⟩
  try simp only [List.getElem?_cons_zero, List.getElem?_cons_succ]
  refine h4 _ _ ?_
  try clear h4 K_h4
  have hL2 : Like σ σ1 := hL1.trans (Like.one o1)
  refine T.seq_k (fun K_h4 h4 => ?_)
  refine T.seq_k (fun K_h0 h0 => ?_)
  refine T.regi hm ?_
  simp only [↓reduceIte, namesOf, List.any, I.names, aopsI, astep, ev, setd, List.set, List.getD, List.getElem?_cons_zero, List.getElem?_cons_succ, List.cons_append, List.nil_append, List.replicate, then_normal, Option.getD_some, Bool.or_false, Bool.false_eq_true, up_zero, eq_self, eqIv, bne_self_eq_false]
  refine h0 _ _ ?_
  try clear h0 K_h0
  refine T.cond rfl (fun h => by cases h) (fun _ => T.skip ?_)
  refine h4 _ _ ?_
  try clear h4 K_h4
  refine T.regi hm ?_
  simp only [↓reduceIte, namesOf, List.any, I.names, aopsI, astep, ev, setd, List.set, List.getD, List.getElem?_cons_zero, List.getElem?_cons_succ, List.cons_append, List.nil_append, List.replicate, then_normal, inBlock_normal, Option.getD_some, Bool.or_false, Bool.false_eq_true, up_zero]
  try simp only [↓reduceIte, namesOf, List.any, I.names, aops, aopsI, aopsT, qstep, CPt, qget, Tbl.get, astep, ev, setd, List.set, List.getD, List.getElem?_cons_zero, List.getElem?_cons_succ, List.getElem?_nil, List.cons_append, List.nil_append, List.length_cons, List.length_nil, List.replicate, then_normal, inBlock_normal, Option.getD_some, Option.getD_none, Bool.or_false, Bool.or_true, Bool.true_or, Bool.false_or, Bool.false_eq_true, if_false, if_true, up_zero, Nat.reduceAdd, Nat.reduceSub, binv, ↓opt_def, AV.isAny, AV.cells, ldc, List.map_cons, List.map_nil, St.set_next, St.set_same, St.up_next, Int.natCast_nonneg, lt_len, le_len, Int.toNat_natCast, true_and, and_true, eq_self, reduceCtorEq, decide_true, List.length_singleton, er_int, er_bool, er_str, srcR, inBlock_normal]
  refine h3 _ _ ?_
  try clear h3 K_h3
  refine T.regi hm ?_
  simp only [↓reduceIte, namesOf, List.any, I.names, aopsI, astep, ev, setd, List.set, List.getD, List.getElem?_cons_zero, List.getElem?_cons_succ, List.cons_append, List.nil_append, List.replicate, then_normal, Option.getD_some, Bool.or_false, Bool.false_eq_true, up_zero, binv, ↓opt_def, eq_self, hw]
  exact ⟨hil, _, _, Gh.keep [4, 9, 10, 11], .tip h, hL2, by rw [hts]; rfl⟩

/-- a marker's bytes -/
def markB (k : Mk) : List UInt8 := sealB (w8s [k.id, k.at_.toNat, k.by_])

set_option maxRecDepth 10000 in
theorem mMark_ok {k : Mk} {σ : St} (hf : fairM k) : ACalls Tryd.prog n_mMark [.agg [.int .u64 (k.id : Int), .int .i64 k.at_, .int .u64 (k.by_ : Int)]] σ
    (fun v σ' => v = .tup [.sl (bytesAV (markB k)) .none, .nili] ∧ σ' = σ) := by
  refine s_mMark (fun wf => ?_)
  unfold c_mMark
  refine T.seq_k (fun K_h0 h0 => ?_)
  refine T.regi hm ?_
  simp only [↓reduceIte, namesOf, List.any, I.names, aopsI, astep, ev, setd, List.set, List.getD, List.getElem?_cons_zero, List.cons_append, List.nil_append, List.length_cons, List.length_nil, List.replicate, then_normal, Option.getD_some, Bool.or_false, Bool.false_eq_true, Nat.reduceAdd, Nat.reduceSub, AV.isAny, AV.cells, eq_self]
  refine h0 _ _ ?_
  try clear h0 K_h0
  have hb : ((σ.up 3).set (σ.next + 0) (.obj (mkC k))).res (σ.next + 0) = some (.obj (mkC k)) := St.set_same _ _ _
  have hL : Like σ ((σ.up 3).set (σ.next + 0) (.obj (mkC k))) := (Like.refl σ).box (n := 3) (i := 0) _
  generalize ((σ.up 3).set (σ.next + 0) (.obj (mkC k))) = t at hb hL ⊢
  generalize σ.next + 0 = b at hb ⊢
  refine T.seq_k (fun K_h1 h1 => ?_)
  refine T.seq_k (fun K_h2 h2 => ?_)
  refine T.regi hm ?_
  simp only [↓reduceIte, namesOf, List.any, I.names, aopsI, astep, ev, setd, List.set, List.getD, List.getElem?_cons_zero, List.getElem?_cons_succ, List.length_cons, List.length_nil, then_normal, Option.getD_some, Bool.or_false, Bool.false_eq_true, up_zero, Nat.reduceAdd, ↓opt_def, ldc, List.map_cons, List.map_nil, hb, Nat.zero_add, Nat.zero_add, List.take, List.drop, Nat.reduceLeDiff]
  refine mFair_ok.mono ?_
  rintro v σ1 ⟨rfl, rfl⟩
  try simp only [decide_eq_true hf, Bool.not_true]
  refine h2 _ _ ?_
  try clear h2 K_h2
  refine T.cond rfl (fun h => by cases h) (fun _ => T.skip ?_)
  refine h1 _ _ ?_
  try clear h1 K_h1
  have ha : ((k.at_.toNat : Nat) : Int) = k.at_ := by have := hf.2.1; omega
  have hw : IntKind.u64.wrap k.at_ = ((k.at_.toNat : Nat) : Int) := by
    rw [← ha]
    rw [Int.toNat_natCast]
    exact u64w (by have := hf.2.2.1; omega)
  have hfl : [AV.agg [.int .i64 8, .int .u64 (k.id : Int)], .agg [.int .i64 8, .int .u64 ((k.at_.toNat : Nat) : Int)], .agg [.int .i64 8, .int .u64 (k.by_ : Int)]] = f8AV [k.id, k.at_.toNat, k.by_] := rfl
  refine T.seq_k (fun K_h1 h1 => ?_)
  refine T.regi hm ?_
  simp only [↓reduceIte, namesOf, List.any, I.names, aopsI, astep, ev, setd, List.set, List.getD, List.getElem?_cons_zero, List.getElem?_cons_succ, List.cons_append, List.nil_append, List.length_cons, List.length_nil, then_normal, Option.getD_some, Bool.or_false, Bool.false_eq_true, up_zero, Nat.reduceAdd, ↓opt_def, AV.isAny, AV.cells, ldc, List.map_cons, List.map_nil, and_true, eq_self, hb, Nat.zero_add, hw, held, fillA, ↓Option.map_some, hfl, AV.fits, AV.one, List.all_cons, List.all_nil, Nat.reduceBEq, Bool.not_false, Bool.and_self, Nat.zero_add, splice, List.take, List.drop, Nat.reduceLeDiff]
  refine (mput8_ok (l := [k.id, k.at_.toNat, k.by_]) (by simp)).mono ?_
  rintro v σ2 ⟨rfl, rfl⟩
  try simp only [List.getElem?_cons_zero, List.getElem?_cons_succ]
  refine h1 _ _ ?_
  try clear h1 K_h1
  exact T.ret (Fin.quiet rfl ⟨⟨nb_bytes _ _, trivial⟩, trivial, trivial⟩ (hL.quiet wf) ⟨rfl, rfl⟩)

end Go.VL

namespace Go.VL

open Go.Proofs

/-- a slice that began as nil, and was appended to: nothing yet, or a named end; what was there ahead of it is as it was -/
def AccG (σ t : St) (k : Nat) (xs : List AV) (x : AV) : Option Nat → Prop
  | none => x = .sl [] .nil ∧ xs = [] ∧ Like σ t
  | some g => x = .sl xs (.tip g) ∧ Tq σ t g k

section

variable {σ t u : St} {k : Nat} {xs : List AV} {x : AV} {G : Option Nat}

theorem AccG.like (h : AccG σ t k xs x G) : Like σ t := by
  cases G with
  | none => exact h.2.2
  | some g => exact h.2.like

theorem AccG.nil (h : Like σ t) : AccG σ t k [] (.sl [] .nil) none := ⟨rfl, rfl, h⟩

theorem AccG.of_tip {g : Nat} (h : Tq σ t g k) : AccG σ t k xs (.sl xs (.tip g)) (some g) := ⟨rfl, h⟩

theorem AccG.ex (h : AccG σ t k xs x G) : ∃ v, x = .sl xs v := by
  cases G with
  | none => obtain ⟨h1, h2, _⟩ := h; subst h2; exact ⟨_, h1⟩
  | some g => exact ⟨_, h.1⟩

theorem AccG.up (h : AccG σ t k xs x G) (n : Nat) : AccG σ (t.up n) k xs x G := by
  cases G with
  | none => exact ⟨h.1, h.2.1, h.2.2.up n⟩
  | some g => exact ⟨h.1, h.2.up n⟩

theorem AccG.lt (h : AccG σ t k xs x G) : ∀ g, G = some g → σ.next ≤ g ∧ g < t.next := by
  rintro g rfl
  exact ⟨h.2.lo, h.2.hi⟩

theorem AccG.keep (h : AccG σ t k xs x G) (hn : t.next ≤ u.next) (hs : ∀ m, m < σ.next → u.res m = t.res m) (hg : ∀ g, G = some g → u.res g = t.res g) : AccG σ u k xs x G := by
  have hl : Like σ u := ⟨Nat.le_trans h.like.next hn, fun m hm => (hs m hm).trans (h.like.same m hm)⟩
  cases G with
  | none => exact ⟨h.1, h.2.1, hl⟩
  | some g => exact ⟨h.1, hl, by rw [hg g rfl]; exact h.2.at_, h.2.lo, Nat.lt_of_lt_of_le h.2.hi hn⟩

theorem AccG.set (h : AccG σ t k xs x G) {a : Nat} (r : Res) (ha : σ.next ≤ a) (hg : ∀ g, G = some g → a ≠ g) : AccG σ (t.set a r) k xs x G :=
  h.keep (Nat.le_refl _) (fun m hm => St.set_other _ _ (by omega)) (fun g e => St.set_other _ _ (Ne.symm (hg g e)))

theorem AccG.box (h : AccG σ t k xs x G) {n i : Nat} (hi : i < n) (r : Res) : AccG σ ((t.up n).set (t.next + i) r) k xs x G :=
  (h.up n).set r (by have := h.like.next; omega) (fun g e => by have := (h.lt g e).2; omega)

theorem AccG.quiet (wf : WF σ) (h : AccG σ t k xs x G) : ∀ n r, σ.res n = some r → t.res n = some r := h.like.quiet wf

theorem AccG.wk (h : AccG σ t k xs x G) : Wk x (.sl xs .none) := by
  obtain ⟨v, rfl⟩ := h.ex
  exact .sl _ _

end

end Go.VL

namespace Go.VL

open Go.Proofs

abbrev n_snew : Nat := 14

def c_snew : C := (.seq (.reg [⟨(some 2), (.mv (.c .nilp)), none⟩, ⟨(some 3), (.mv (.c .nili)), none⟩]) (.seq (.seq (.reg [⟨(some 4), (.mv (.t 0)), none⟩, ⟨(some 5), (.bin .lss .i64 (.t 4) (.c (.int .i64 1))), none⟩, ⟨(some 6), (.mv (.t 5)), none⟩, ⟨(some 7), (.mv (.t 0)), (some (6, false))⟩, ⟨(some 8), (.bin .gtr .i64 (.t 7) (.c (.int .i64 1048576))), (some (6, false))⟩, ⟨(some 9), (.pick (.t 6) (.c (.bool true)) (.t 8)), none⟩]) (.cond (.t 9) (.seq (.reg [⟨(some 10), (.mkI 55 (.c (.int .i64 1))), none⟩, ⟨(some 2), (.mv (.c .nilp)), none⟩, ⟨(some 3), (.mv (.t 10)), none⟩]) .ret) .skip)) (.seq (.reg [⟨(some 11), (.mv (.t 0)), none⟩, ⟨(some 12), .mkMap, none⟩, ⟨(some 13), (.build [(.int .i64 0), .nilm, (.int .i64 0), (.int .i64 0)] [(0, (1, (.t 11))), (1, (1, (.t 12))), (2, (1, (.c (.int .i64 (-1)))))]), none⟩, ⟨(some 14), (.box (.t 13)), none⟩, ⟨(some 2), (.mv (.t 14)), none⟩, ⟨(some 3), (.mv (.c .nili)), none⟩]) .ret)))

set_option maxRecDepth 100000 in
theorem k_snew : compileC Tryd.prog ann (Tryd.f14.body.getD .skip) = some c_snew := by kernel_rfl

theorem s_snew {args : List AV} {σ : St} {K : AV → St → Prop} (h : WF σ → T Tryd.prog ann c_snew (Fin σ [(.t 2), (.t 3)] K) (args ++ List.replicate (15 - args.length) (.tup [])) σ) : ACalls Tryd.prog n_snew args σ K :=
  calls_ok Tryd.func14 (by kernel_rfl) (by kernel_rfl) k_snew (by kernel_rfl) (by kernel_rfl) h

abbrev n_sput : Nat := 32

def c_sput : C := (.seq (.reg [⟨(some 6), (.mv (.c .nili)), none⟩]) (.seq (.block 0 (.seq (.reg [⟨(some 8), (.mv (.t 0)), none⟩, ⟨(some 9), (.call 34 [(.t 8)]), none⟩, ⟨(some 10), (.not (.t 9)), none⟩, ⟨(some 7), (.mv (.t 10)), none⟩]) (.cond (.t 7) (.seq (.reg [⟨(some 11), (.mkI 55 (.c (.int .i64 8))), none⟩, ⟨(some 6), (.mv (.t 11)), none⟩]) .ret) (.seq (.reg [⟨(some 13), (.mv (.t 1)), none⟩, ⟨(some 14), (.call 53 [(.t 13)]), none⟩, ⟨(some 15), (.not (.t 14)), none⟩, ⟨(some 12), (.mv (.t 15)), none⟩]) (.cond (.t 12) (.seq (.reg [⟨(some 16), (.mkI 55 (.c (.int .i64 1))), none⟩, ⟨(some 6), (.mv (.t 16)), none⟩]) .ret) (.seq (.reg [⟨(some 18), (.mv (.t 2)), none⟩, ⟨(some 19), (.len (.t 18)), none⟩, ⟨(some 20), (.mv (.t 0)), none⟩, ⟨(some 21), (.nilCheck (.t 20)), none⟩, ⟨(some 22), (.faddr 0 (.t 21)), none⟩, ⟨(some 23), (.load none (.t 22)), none⟩, ⟨(some 24), (.mv (.t 0)), none⟩, ⟨(some 25), (.qcall 54 [(.t 24)]), none⟩, ⟨(some 26), (.bin .sub .i64 (.t 23) (.t 25)), none⟩, ⟨(some 27), (.mv (.t 0)), none⟩, ⟨(some 28), (.nilCheck (.t 27)), none⟩, ⟨(some 29), (.faddr 1 (.t 28)), none⟩, ⟨(some 30), (.load none (.t 29)), none⟩, ⟨(some 31), (.mv (.t 1)), none⟩, ⟨(some 32), (.look 1 (.sl [] .nil) false (.t 30) (.t 31)), none⟩, ⟨(some 33), (.len (.t 32)), none⟩, ⟨(some 34), (.bin .add .i64 (.t 26) (.t 33)), none⟩, ⟨(some 35), (.bin .gtr .i64 (.t 19) (.t 34)), none⟩, ⟨(some 17), (.mv (.t 35)), none⟩]) (.cond (.t 17) (.seq (.reg [⟨(some 36), (.mkI 55 (.c (.int .i64 6))), none⟩, ⟨(some 6), (.mv (.t 36)), none⟩]) .ret) .skip))))))) (.seq (.reg [⟨(some 37), (.mv (.t 0)), none⟩, ⟨(some 38), (.nilCheck (.t 37)), none⟩, ⟨(some 39), (.faddr 1 (.t 38)), none⟩, ⟨(some 40), (.load none (.t 39)), none⟩, ⟨(some 41), (.mv (.t 1)), none⟩, ⟨(some 42), (.mv (.t 2)), none⟩, ⟨(some 43), (.qcall 35 [(.t 42)]), none⟩, ⟨none, (.mapUp 1 (.t 40) (.t 41) (.t 43)), none⟩]) (.seq (.reg [⟨(some 6), (.mv (.c .nili)), none⟩]) .ret))))

set_option maxRecDepth 100000 in
theorem k_sput : compileC Tryd.prog ann (Tryd.f32.body.getD .skip) = some c_sput := by kernel_rfl

theorem s_sput {args : List AV} {σ : St} {K : AV → St → Prop} (h : WF σ → T Tryd.prog ann c_sput (Fin σ [(.t 6)] K) (args ++ List.replicate (44 - args.length) (.tup [])) σ) : ACalls Tryd.prog n_sput args σ K :=
  calls_ok Tryd.func32 (by kernel_rfl) (by kernel_rfl) k_sput (by kernel_rfl) (by kernel_rfl) h

abbrev n_sused : Nat := 54

def c_sused : C := (.seq (.reg [⟨(some 2), (.mv (.c (.int .i64 0))), none⟩]) (.seq (.reg [⟨(some 3), (.mv (.c (.int .i64 0))), none⟩]) (.seq (.seq (.reg [⟨(some 6), (.mv (.t 0)), none⟩, ⟨(some 7), (.nilCheck (.t 6)), none⟩, ⟨(some 8), (.faddr 1 (.t 7)), none⟩, ⟨(some 9), (.load none (.t 8)), none⟩, ⟨(some 10), (.range (.t 9)), none⟩]) (.block 0 (.loop (.seq (.reg [⟨(some 11), (.next (.t 10)), none⟩, ⟨(some 12), (.ext (.t 11) 0), none⟩]) (.seq (.cond (.t 12) .skip (.exit 0)) (.block 1 (.seq (.reg [⟨(some 13), (.entry (.t 10)), none⟩, ⟨(some 14), (.ext (.t 13) 1), none⟩, ⟨(some 5), (.mv (.t 14)), none⟩]) (.reg [⟨(some 15), (.mv (.t 3)), none⟩, ⟨(some 16), (.mv (.t 5)), none⟩, ⟨(some 17), (.len (.t 16)), none⟩, ⟨(some 18), (.bin .add .i64 (.t 15) (.t 17)), none⟩, ⟨(some 3), (.mv (.t 18)), none⟩])))))))) (.seq (.reg [⟨(some 19), (.mv (.t 3)), none⟩, ⟨(some 2), (.mv (.t 19)), none⟩]) .ret))))

set_option maxRecDepth 100000 in
theorem k_sused : compileC Tryd.prog ann (Tryd.f54.body.getD .skip) = some c_sused := by kernel_rfl

theorem s_sused {args : List AV} {σ : St} {K : AV → St → Prop} (h : WF σ → T Tryd.prog ann c_sused (Fin σ [(.t 2)] K) (args ++ List.replicate (20 - args.length) (.tup [])) σ) : ACalls Tryd.prog n_sused args σ K :=
  calls_ok Tryd.func54 (by kernel_rfl) (by kernel_rfl) k_sused (by kernel_rfl) (by kernel_rfl) h

abbrev n_sfail : Nat := 15

def c_sfail : C := (.reg [⟨(some 4), (.mv (.t 0)), none⟩, ⟨(some 5), (.mv (.t 1)), none⟩, ⟨(some 6), (.mx [(.t 5), (.c (.int .i64 (-1)))]), none⟩, ⟨(some 7), (.nilCheck (.t 4)), none⟩, ⟨(some 8), (.faddr 2 (.t 7)), none⟩, ⟨none, (.store 1 (.t 8) (.t 6)), none⟩])

set_option maxRecDepth 100000 in
theorem k_sfail : compileC Tryd.prog ann (Tryd.f15.body.getD .skip) = some c_sfail := by kernel_rfl

theorem s_sfail {args : List AV} {σ : St} {K : AV → St → Prop} (h : WF σ → T Tryd.prog ann c_sfail (Fin σ [] K) (args ++ List.replicate (9 - args.length) (.tup [])) σ) : ACalls Tryd.prog n_sfail args σ K :=
  calls_ok Tryd.func15 (by kernel_rfl) (by kernel_rfl) k_sfail (by kernel_rfl) (by kernel_rfl) h

abbrev n_sget : Nat := 17

def c_sget : C := (.seq (.reg [⟨(some 4), (.mv (.c (.sl [] .nil))), none⟩, ⟨(some 5), (.mv (.c .nili)), none⟩]) (.seq (.reg [⟨(some 9), (.mv (.t 0)), none⟩, ⟨(some 10), (.nilCheck (.t 9)), none⟩, ⟨(some 11), (.faddr 1 (.t 10)), none⟩, ⟨(some 12), (.load none (.t 11)), none⟩, ⟨(some 13), (.mv (.t 1)), none⟩, ⟨(some 14), (.look 1 (.sl [] .nil) true (.t 12) (.t 13)), none⟩, ⟨(some 8), (.mv (.t 14)), none⟩, ⟨(some 15), (.ext (.t 8) 0), none⟩, ⟨(some 16), (.ext (.t 8) 1), none⟩, ⟨(some 6), (.mv (.t 15)), none⟩, ⟨(some 7), (.mv (.t 16)), none⟩]) (.seq (.block 0 (.seq (.reg [⟨(some 18), (.mv (.t 0)), none⟩, ⟨(some 19), (.call 34 [(.t 18)]), none⟩, ⟨(some 20), (.not (.t 19)), none⟩, ⟨(some 17), (.mv (.t 20)), none⟩]) (.cond (.t 17) (.seq (.reg [⟨(some 21), (.mkI 55 (.c (.int .i64 8))), none⟩, ⟨(some 4), (.mv (.c (.sl [] .nil))), none⟩, ⟨(some 5), (.mv (.t 21)), none⟩]) .ret) (.seq (.reg [⟨(some 23), (.mv (.t 7)), none⟩, ⟨(some 24), (.not (.t 23)), none⟩, ⟨(some 22), (.mv (.t 24)), none⟩]) (.cond (.t 22) (.seq (.reg [⟨(some 25), (.mkI 55 (.c (.int .i64 4))), none⟩, ⟨(some 4), (.mv (.c (.sl [] .nil))), none⟩, ⟨(some 5), (.mv (.t 25)), none⟩]) .ret) .skip))))) (.seq (.reg [⟨(some 26), (.mv (.t 6)), none⟩, ⟨(some 27), (.call 35 [(.t 26)]), none⟩, ⟨(some 4), (.mv (.t 27)), none⟩, ⟨(some 5), (.mv (.c .nili)), none⟩]) .ret))))

set_option maxRecDepth 100000 in
theorem k_sget : compileC Tryd.prog ann (Tryd.f17.body.getD .skip) = some c_sget := by kernel_rfl

theorem s_sget {args : List AV} {σ : St} {K : AV → St → Prop} (h : WF σ → T Tryd.prog ann c_sget (Fin σ [(.t 4), (.t 5)] K) (args ++ List.replicate (28 - args.length) (.tup [])) σ) : ACalls Tryd.prog n_sget args σ K :=
  calls_ok Tryd.func17 (by kernel_rfl) (by kernel_rfl) k_sget (by kernel_rfl) (by kernel_rfl) h

abbrev n_scall : Nat := 34

def c_scall : C := (.seq (.reg [⟨(some 2), (.mv (.c (.bool false))), none⟩]) (.seq (.reg [⟨(some 4), (.mv (.t 0)), none⟩, ⟨(some 5), (.nilCheck (.t 4)), none⟩, ⟨(some 6), (.faddr 3 (.t 5)), none⟩, ⟨(some 7), (.load none (.t 6)), none⟩, ⟨(some 8), (.bin .add .i64 (.t 7) (.c (.int .i64 1))), none⟩, ⟨(some 9), (.nilCheck (.t 4)), none⟩, ⟨(some 10), (.faddr 3 (.t 9)), none⟩, ⟨none, (.store 1 (.t 10) (.t 8)), none⟩]) (.seq (.seq (.reg [⟨(some 11), (.mv (.t 0)), none⟩, ⟨(some 12), (.nilCheck (.t 11)), none⟩, ⟨(some 13), (.faddr 2 (.t 12)), none⟩, ⟨(some 14), (.load none (.t 13)), none⟩, ⟨(some 15), (.bin .gtr .i64 (.t 14) (.c (.int .i64 0))), none⟩]) (.cond (.t 15) (.seq (.reg [⟨(some 16), (.mv (.t 0)), none⟩, ⟨(some 17), (.nilCheck (.t 16)), none⟩, ⟨(some 18), (.faddr 2 (.t 17)), none⟩, ⟨(some 19), (.load none (.t 18)), none⟩, ⟨(some 20), (.bin .sub .i64 (.t 19) (.c (.int .i64 1))), none⟩, ⟨(some 21), (.nilCheck (.t 16)), none⟩, ⟨(some 22), (.faddr 2 (.t 21)), none⟩, ⟨none, (.store 1 (.t 22) (.t 20)), none⟩]) (.seq (.reg [⟨(some 2), (.mv (.c (.bool true))), none⟩]) .ret)) .skip)) (.seq (.reg [⟨(some 23), (.mv (.t 0)), none⟩, ⟨(some 24), (.nilCheck (.t 23)), none⟩, ⟨(some 25), (.faddr 2 (.t 24)), none⟩, ⟨(some 26), (.load none (.t 25)), none⟩, ⟨(some 27), (.bin .eql .i64 (.t 26) (.c (.int .i64 (-1)))), none⟩, ⟨(some 3), (.mv (.t 27)), none⟩]) (.seq (.reg [⟨(some 28), (.mv (.t 0)), none⟩, ⟨(some 29), (.nilCheck (.t 28)), none⟩, ⟨(some 30), (.faddr 2 (.t 29)), none⟩, ⟨none, (.store 1 (.t 30) (.c (.int .i64 (-1)))), none⟩]) (.seq (.reg [⟨(some 31), (.mv (.t 3)), none⟩, ⟨(some 2), (.mv (.t 31)), none⟩]) .ret))))))

set_option maxRecDepth 100000 in
theorem k_scall : compileC Tryd.prog ann (Tryd.f34.body.getD .skip) = some c_scall := by kernel_rfl

theorem s_scall {args : List AV} {σ : St} {K : AV → St → Prop} (h : WF σ → T Tryd.prog ann c_scall (Fin σ [(.t 2)] K) (args ++ List.replicate (32 - args.length) (.tup [])) σ) : ACalls Tryd.prog n_scall args σ K :=
  calls_ok Tryd.func34 (by kernel_rfl) (by kernel_rfl) k_scall (by kernel_rfl) (by kernel_rfl) h

abbrev n_named : Nat := 53

def c_named : C := (.seq (.reg [⟨(some 2), (.mv (.c (.bool false))), none⟩]) (.seq (.reg [⟨(some 3), (.mv (.c (.func 71 [] []))), none⟩]) (.seq (.reg [⟨(some 4), (.mv (.t 0)), none⟩, ⟨(some 5), (.slen (.t 4)), none⟩, ⟨(some 6), (.bin .geq .i64 (.t 5) (.c (.int .i64 1))), none⟩, ⟨(some 7), (.mv (.t 6)), none⟩, ⟨(some 8), (.mv (.t 0)), (some (7, true))⟩, ⟨(some 9), (.slen (.t 8)), (some (7, true))⟩, ⟨(some 10), (.bin .leq .i64 (.t 9) (.c (.int .i64 32))), (some (7, true))⟩, ⟨(some 11), (.pick (.t 7) (.t 10) (.c (.bool false))), none⟩, ⟨(some 12), (.mv (.t 11)), none⟩, ⟨(some 13), (.mv (.t 0)), (some (12, true))⟩, ⟨(some 14), (.mv (.t 3)), (some (12, true))⟩, ⟨(some 15), (.call 72 [(.t 13), (.t 14)]), (some (12, true))⟩, ⟨(some 16), (.bin .lss .i64 (.t 15) (.c (.int .i64 0))), (some (12, true))⟩, ⟨(some 17), (.pick (.t 12) (.t 16) (.c (.bool false))), none⟩, ⟨(some 2), (.mv (.t 17)), none⟩]) .ret)))

set_option maxRecDepth 100000 in
theorem k_named : compileC Tryd.prog ann (Tryd.f53.body.getD .skip) = some c_named := by kernel_rfl

theorem s_named {args : List AV} {σ : St} {K : AV → St → Prop} (h : WF σ → T Tryd.prog ann c_named (Fin σ [(.t 2)] K) (args ++ List.replicate (18 - args.length) (.tup [])) σ) : ACalls Tryd.prog n_named args σ K :=
  calls_ok Tryd.func53 (by kernel_rfl) (by kernel_rfl) k_named (by kernel_rfl) (by kernel_rfl) h

abbrev ann_clone : Ann := { errs := [(55, .i64)], hold := [(3, 0, .zero), (3, 2, .own)] }

abbrev n_clone : Nat := 35

def c_clone : C := (.seq (.reg [⟨(some 2), (.mv (.c (.sl [] .nil))), none⟩]) (.seq (.seq (.reg [⟨(some 3), (.mv (.t 0)), none⟩, ⟨(some 4), (.eqS false (.t 3)), none⟩]) (.cond (.t 4) (.seq (.reg [⟨(some 2), (.mv (.c (.sl [] .nil))), none⟩]) .ret) .skip)) (.seq (.reg [⟨(some 5), (.bslice 1 .zero []), none⟩, ⟨(some 6), (.mv (.t 0)), none⟩, ⟨(some 7), (.app 1 1 .own (.t 5) (.t 6)), none⟩, ⟨(some 2), (.mv (.t 7)), none⟩]) .ret)))

set_option maxRecDepth 100000 in
theorem k_clone : compileC Tryd.prog ann_clone (Tryd.f35.body.getD .skip) = some c_clone := by kernel_rfl

theorem s_clone {args : List AV} {σ : St} {K : AV → St → Prop} (h : WF σ → T Tryd.prog ann_clone c_clone (Fin σ [(.t 2)] K) (args ++ List.replicate (8 - args.length) (.tup [])) σ) : ACalls Tryd.prog n_clone args σ K :=
  calls_ok Tryd.func35 (by kernel_rfl) (by kernel_rfl) k_clone (by kernel_rfl) (by kernel_rfl) h

abbrev n_named1 : Nat := 71

def c_named1 : C := (.seq (.reg [⟨(some 2), (.mv (.c (.bool false))), none⟩]) (.seq (.reg [⟨(some 3), (.mv (.t 0)), none⟩, ⟨(some 4), (.bin .geq .i32 (.t 3) (.c (.int .i32 97))), none⟩, ⟨(some 5), (.mv (.t 4)), none⟩, ⟨(some 6), (.mv (.t 0)), (some (5, true))⟩, ⟨(some 7), (.bin .leq .i32 (.t 6) (.c (.int .i32 122))), (some (5, true))⟩, ⟨(some 8), (.pick (.t 5) (.t 7) (.c (.bool false))), none⟩, ⟨(some 9), (.mv (.t 8)), none⟩, ⟨(some 10), (.mv (.t 0)), (some (9, false))⟩, ⟨(some 11), (.bin .geq .i32 (.t 10) (.c (.int .i32 48))), (some (9, false))⟩, ⟨(some 12), (.mv (.t 11)), (some (9, false))⟩, ⟨(some 13), (.mv (.t 0)), (some (12, true))⟩, ⟨(some 14), (.bin .leq .i32 (.t 13) (.c (.int .i32 57))), (some (12, true))⟩, ⟨(some 15), (.pick (.t 12) (.t 14) (.c (.bool false))), (some (9, false))⟩, ⟨(some 16), (.pick (.t 9) (.c (.bool true)) (.t 15)), none⟩, ⟨(some 17), (.mv (.t 16)), none⟩, ⟨(some 18), (.mv (.t 0)), (some (17, false))⟩, ⟨(some 19), (.bin .eql .i32 (.t 18) (.c (.int .i32 47))), (some (17, false))⟩, ⟨(some 20), (.pick (.t 17) (.c (.bool true)) (.t 19)), none⟩, ⟨(some 21), (.mv (.t 20)), none⟩, ⟨(some 22), (.mv (.t 0)), (some (21, false))⟩, ⟨(some 23), (.bin .eql .i32 (.t 22) (.c (.int .i32 45))), (some (21, false))⟩, ⟨(some 24), (.pick (.t 21) (.c (.bool true)) (.t 23)), none⟩, ⟨(some 25), (.not (.t 24)), none⟩, ⟨(some 2), (.mv (.t 25)), none⟩]) .ret))

set_option maxRecDepth 100000 in
theorem k_named1 : compileC Tryd.prog ann (Tryd.f71.body.getD .skip) = some c_named1 := by kernel_rfl

theorem s_named1 {args : List AV} {σ : St} {K : AV → St → Prop} (h : WF σ → T Tryd.prog ann c_named1 (Fin σ [(.t 2)] K) (args ++ List.replicate (26 - args.length) (.tup [])) σ) : ACalls Tryd.prog n_named1 args σ K :=
  calls_ok Tryd.func71 (by kernel_rfl) (by kernel_rfl) k_named1 (by kernel_rfl) (by kernel_rfl) h

abbrev n_ixf : Nat := 72

def c_ixf : C := (.seq (.reg [⟨(some 4), (.mv (.c (.int .i64 0))), none⟩]) (.seq (.reg [⟨(some 5), (.mv (.t 0)), none⟩, ⟨(some 6), (.mv (.t 1)), none⟩, ⟨(some 7), (.call 82 [(.t 5), (.t 6), (.c (.bool true))]), none⟩, ⟨(some 4), (.mv (.t 7)), none⟩]) .ret))

set_option maxRecDepth 100000 in
theorem k_ixf : compileC Tryd.prog ann (Tryd.f72.body.getD .skip) = some c_ixf := by kernel_rfl

theorem s_ixf {args : List AV} {σ : St} {K : AV → St → Prop} (h : WF σ → T Tryd.prog ann c_ixf (Fin σ [(.t 4)] K) (args ++ List.replicate (8 - args.length) (.tup [])) σ) : ACalls Tryd.prog n_ixf args σ K :=
  calls_ok Tryd.func72 (by kernel_rfl) (by kernel_rfl) k_ixf (by kernel_rfl) (by kernel_rfl) h

abbrev n_ixf2 : Nat := 82

def c_ixf2 : C := (.seq (.reg [⟨(some 6), (.mv (.c (.int .i64 0))), none⟩]) (.seq (.seq (.reg [⟨(some 9), (.mv (.t 0)), none⟩, ⟨(some 10), (.srange (.t 9)), none⟩]) (.block 0 (.loop (.seq (.reg [⟨(some 11), (.snext (.t 10)), none⟩, ⟨(some 12), (.ext (.t 11) 0), none⟩]) (.seq (.cond (.t 12) .skip (.exit 0)) (.block 1 (.seq (.reg [⟨(some 13), (.ext (.t 11) 1), none⟩, ⟨(some 14), (.ext (.t 11) 2), none⟩, ⟨(some 7), (.mv (.t 13)), none⟩, ⟨(some 8), (.mv (.t 14)), none⟩]) (.seq (.reg [⟨(some 15), (.mv (.t 1)), none⟩, ⟨(some 16), (.mv (.t 8)), none⟩, ⟨(some 17), (.callv (.t 15) [(.t 16)]), none⟩, ⟨(some 18), (.mv (.t 2)), none⟩, ⟨(some 19), (.bbin false (.t 17) (.t 18)), none⟩]) (.cond (.t 19) (.seq (.reg [⟨(some 20), (.mv (.t 7)), none⟩, ⟨(some 6), (.mv (.t 20)), none⟩]) .ret) .skip))))))))) (.seq (.reg [⟨(some 6), (.mv (.c (.int .i64 (-1)))), none⟩]) .ret)))

set_option maxRecDepth 100000 in
theorem k_ixf2 : compileC Tryd.prog ann (Tryd.f82.body.getD .skip) = some c_ixf2 := by kernel_rfl

theorem s_ixf2 {args : List AV} {σ : St} {K : AV → St → Prop} (h : WF σ → T Tryd.prog ann c_ixf2 (Fin σ [(.t 6)] K) (args ++ List.replicate (21 - args.length) (.tup [])) σ) : ACalls Tryd.prog n_ixf2 args σ K :=
  calls_ok Tryd.func82 (by kernel_rfl) (by kernel_rfl) k_ixf2 (by kernel_rfl) (by kernel_rfl) h

end Go.VL

namespace Go.VL

open Go.Proofs

/-- what a store holds: names, and bytes -/
abbrev Objs := List (ByteArray × List UInt8)

def objsAV (L : Objs) : List (AV × AV) := L.map fun e => (.str e.1, .sl (bytesAV e.2) .none)

theorem objs_get {L : Objs} {i : Nat} {p : AV × AV} (h : (objsAV L)[i]? = some p) : ∃ e, L[i]? = some e ∧ p = (.str e.1, .sl (bytesAV e.2) .none) := by
  unfold objsAV at h
  rw [List.getElem?_map, Option.map_eq_some_iff] at h
  obtain ⟨e, h1, h2⟩ := h
  exact ⟨e, h1, h2.symm⟩

def getO (k : ByteArray) : Objs → Option (List UInt8)
  | [] => none
  | e :: r => if k = e.1 then some e.2 else getO k r

def putO (k : ByteArray) (v : List UInt8) : Objs → Objs
  | [] => [(k, v)]
  | e :: r => if k = e.1 then (k, v) :: r else e :: putO k v r

theorem objs_find (k : ByteArray) : ∀ L : Objs, mfind (.str k) (objsAV L) = some ((getO k L).map fun v => .sl (bytesAV v) .none)
  | [] => rfl
  | e :: r => by
    have ih := objs_find k r
    unfold objsAV at ih ⊢
    simp only [List.map_cons, mfind, keq]
    by_cases h : k = e.1
    · simp [h, getO]
    · simp only [h, decide_false]
      rw [ih]; simp [getO, h]

theorem objs_put (k : ByteArray) (v : List UInt8) : ∀ L : Objs, mput (.str k) (.sl (bytesAV v) .none) (objsAV L) = objsAV (putO k v L)
  | [] => rfl
  | e :: r => by
    have ih := objs_put k v r
    unfold objsAV at ih ⊢
    simp only [List.map_cons, mput, keq]
    by_cases h : k = e.1
    · simp [h, putO]
    · simp only [h, decide_false]
      rw [ih]; simp [putO, h]

theorem put_len (k : ByteArray) (v : List UInt8) : ∀ L : Objs, (putO k v L).length = if (getO k L).isSome then L.length else L.length + 1
  | [] => rfl
  | e :: r => by
    have ih := put_len k v r
    unfold putO getO
    by_cases h : k = e.1
    · rw [if_pos h, if_pos h]; simp
    · rw [if_neg h, if_neg h, List.length_cons, ih, List.length_cons]
      split <;> rfl

/-- how many bytes there are -/
def usedO (L : Objs) : Nat := (L.map fun e => e.2.length).sum

/-- a store stands at p, its map at m -/
structure StS (σ : St) (p m : Nat) (room left calls : Int) (L : Objs) : Prop where
  obj : σ.res p = some (.obj [.int .i64 room, .map m, .int .i64 left, .int .i64 calls])
  map : ∃ ts clk, σ.res m = some (.map (objsAV L) ts clk) ∧ ts.length = L.length ∧ ts.Nodup ∧ ∀ t ∈ ts, t < clk
  ne : p ≠ m

theorem StS.mono {σ σ' : St} {p m : Nat} {room left calls : Int} {L : Objs} (h : StS σ p m room left calls L) (ho : ∀ n x, σ.res n = some x → σ'.res n = some x) : StS σ' p m room left calls L := by
  obtain ⟨ts, clk, h1, h2⟩ := h.map
  exact ⟨ho _ _ h.obj, ⟨ts, clk, ho _ _ h1, h2⟩, h.ne⟩

theorem sfail_ok {p m : Nat} {room left calls n : Int} {L : Objs} {σ : St} (h : StS σ p m room left calls L) :
    ACalls Tryd.prog n_sfail [.ptr p 0, .int .i64 n] σ (fun v σ' => StS σ' p m room (if (-1 : Int) > n then -1 else n) calls L ∧ σ' = σ.set p (.obj [.int .i64 room, .map m, .int .i64 (if (-1 : Int) > n then -1 else n), .int .i64 calls])) := by
  refine s_sfail (fun wf => ?_)
  unfold c_sfail
  refine T.regi hm ?_
  simp only [↓reduceIte, namesOf, List.any, I.names, aopsI, astep, ev, setd, List.set, List.getD, List.getElem?_cons_zero, List.getElem?_cons_succ, List.cons_append, List.nil_append, List.length_cons, List.length_nil, List.replicate, Option.getD_some, Bool.or_false, Bool.false_eq_true, up_zero, Nat.reduceAdd, Nat.reduceSub, ↓opt_def, AV.isAny, AV.cells, List.map_cons, List.map_nil, eq_self, decide_true, h.obj, mx2, List.foldlM, AV.fits, AV.one, List.all_cons, List.all_nil, Nat.reduceBEq, Bool.not_false, Bool.and_self, Nat.zero_add, splice, List.take, List.drop, Nat.reduceLeDiff, bind, Option.bind, pure]
  refine Fin.retn rfl ⟨⟨by simp, ?_, h.ne⟩, rfl⟩
  obtain ⟨ts, clk, h1, h2⟩ := h.map
  exact ⟨ts, clk, by rw [St.set_other _ _ (Ne.symm h.ne)]; exact h1, h2⟩

/-- one call less goes well -/
def leftB (left : Int) : Int := if left > 0 then left - 1 else -1

theorem scall_ok {p m : Nat} {room left calls : Int} {L : Objs} {σ : St} (h : StS σ p m room left calls L) (hl : -1 ≤ left ∧ left ≤ 9223372036854775807) (hc : 0 ≤ calls ∧ calls < 9223372036854775807) :
    ACalls Tryd.prog n_scall [.ptr p 0] σ (fun v σ' => v = .bool (decide (left ≠ 0)) ∧ σ' = σ.set p (.obj [.int .i64 room, .map m, .int .i64 (leftB left), .int .i64 (calls + 1)])) := by
  refine s_scall (fun wf => ?_)
  unfold c_scall
  refine T.seq_k (fun K_h1 h1 => ?_)
  refine T.regi hm ?_
  simp only [↓reduceIte, namesOf, List.any, I.names, aopsI, astep, ev, setd, List.set, List.cons_append, List.nil_append, List.length_cons, List.length_nil, List.replicate, then_normal, Bool.or_false, Bool.false_eq_true, up_zero, Nat.reduceAdd, Nat.reduceSub]
  refine h1 _ _ ?_
  try clear h1 K_h1
  have e1 : IntKind.i64.wrap (calls + 1) = calls + 1 := wrap64 (by omega) (by omega)
  refine T.seq_k (fun K_h1 h1 => ?_)
  refine T.regi hm ?_
  simp only [↓reduceIte, namesOf, List.any, I.names, aopsI, astep, ev, setd, List.set, List.getD, List.getElem?_cons_zero, List.getElem?_cons_succ, List.cons_append, List.nil_append, List.length_cons, List.length_nil, then_normal, Option.getD_some, Bool.or_false, Bool.false_eq_true, up_zero, Nat.reduceAdd, binv, ↓opt_def, AV.isAny, AV.cells, ldc, eq_self, decide_true, h.obj, e1, AV.fits, AV.one, List.all_cons, List.all_nil, Nat.reduceBEq, Bool.not_false, Bool.and_self, Nat.zero_add, splice, List.take, List.drop, Nat.reduceLeDiff]
  refine h1 _ _ ?_
  try clear h1 K_h1
  refine T.seq_k (fun K_h1 h1 => ?_)
  refine T.seq_k (fun K_h2 h2 => ?_)
  by_cases c1 : left > 0
  · have e2 : decide (left > 0) = true := decide_eq_true c1
    have e3 : IntKind.i64.wrap (left - 1) = left - 1 := wrap64 (by omega) (by omega)
    refine T.regi hm ?_
    simp only [↓reduceIte, namesOf, List.any, I.names, aopsI, astep, ev, setd, List.set, List.getD, List.getElem?_cons_zero, List.getElem?_cons_succ, then_normal, Option.getD_some, Bool.or_false, Bool.false_eq_true, up_zero, Nat.reduceAdd, binv, ↓opt_def, ldc, St.set_same, eq_self, e2]
    refine h2 _ _ ?_
    try clear h2 K_h2
    refine T.cond rfl (fun _ => ?_) (fun h => by cases h)
    refine T.seq_k (fun K_h2 h2 => ?_)
    refine T.regi hm ?_
    simp only [↓reduceIte, namesOf, List.any, I.names, aopsI, astep, ev, setd, List.set, List.getD, List.getElem?_cons_zero, List.getElem?_cons_succ, List.cons_append, List.nil_append, List.length_cons, List.length_nil, then_normal, Option.getD_some, Bool.or_false, Bool.false_eq_true, up_zero, Nat.reduceAdd, binv, ↓opt_def, AV.isAny, AV.cells, ldc, St.set_same, eq_self, decide_true, e3, AV.fits, AV.one, List.all_cons, List.all_nil, Nat.reduceBEq, Bool.not_false, Bool.and_self, Nat.zero_add, splice, List.take, List.drop, Nat.reduceLeDiff, St.set_set]
    refine h2 _ _ ?_
    try clear h2 K_h2
    refine T.seq_k (fun K_h2 h2 => ?_)
    refine T.regi hm ?_
    simp only [↓reduceIte, namesOf, List.any, I.names, aopsI, astep, ev, setd, List.set, then_normal, Bool.or_false, Bool.false_eq_true, up_zero]
    refine h2 _ _ ?_
    try clear h2 K_h2
    refine T.ret (Fin.ret rfl ⟨?_, ?_⟩)
    · rw [decide_eq_true (by omega)]; rfl
    · rw [leftB, if_pos c1]
  · have e2 : decide (left > 0) = false := decide_eq_false c1
    have e4 : leftB left = -1 := by rw [leftB, if_neg c1]
    refine T.regi hm ?_
    simp only [↓reduceIte, namesOf, List.any, I.names, aopsI, astep, ev, setd, List.set, List.getD, List.getElem?_cons_zero, List.getElem?_cons_succ, then_normal, Option.getD_some, Bool.or_false, Bool.false_eq_true, up_zero, Nat.reduceAdd, binv, ↓opt_def, ldc, St.set_same, eq_self, e2]
    refine h2 _ _ ?_
    try clear h2 K_h2
    refine T.cond rfl (fun h => by cases h) (fun _ => T.skip ?_)
    refine h1 _ _ ?_
    try clear h1 K_h1
    refine T.seq_k (fun K_h1 h1 => ?_)
    refine T.regi hm ?_
    simp only [↓reduceIte, namesOf, List.any, I.names, aopsI, astep, ev, setd, List.set, List.getD, List.getElem?_cons_zero, List.getElem?_cons_succ, then_normal, Option.getD_some, Bool.or_false, Bool.false_eq_true, up_zero, Nat.reduceAdd, binv, ↓opt_def, ldc, St.set_same, eq_self]
    refine h1 _ _ ?_
    try clear h1 K_h1
    refine T.seq_k (fun K_h1 h1 => ?_)
    refine T.regi hm ?_
    simp only [↓reduceIte, namesOf, List.any, I.names, aopsI, astep, ev, setd, List.set, List.getD, List.getElem?_cons_zero, List.getElem?_cons_succ, List.cons_append, List.nil_append, List.length_cons, List.length_nil, then_normal, Option.getD_some, Bool.or_false, Bool.false_eq_true, up_zero, Nat.reduceAdd, AV.isAny, AV.cells, St.set_same, eq_self, decide_true, AV.fits, AV.one, List.all_cons, List.all_nil, Nat.reduceBEq, Bool.not_false, Bool.and_self, Nat.zero_add, splice, List.take, List.drop, Nat.reduceLeDiff, St.set_set]
    refine h1 _ _ ?_
    try clear h1 K_h1
    refine T.seq_k (fun K_h1 h1 => ?_)
    refine T.regi hm ?_
    simp only [↓reduceIte, namesOf, List.any, I.names, aopsI, astep, ev, setd, List.set, List.getD, List.getElem?_cons_zero, List.getElem?_cons_succ, then_normal, Option.getD_some, Bool.or_false, Bool.false_eq_true, up_zero]
    refine h1 _ _ ?_
    try clear h1 K_h1
    refine T.ret (Fin.ret rfl ⟨?_, by rw [e4]⟩)
    have : (left == -1) = decide (left ≠ 0) := by
      rw [Bool.eq_iff_iff]; simp; omega
    rw [← this]; rfl

theorem clone_ok {b : List UInt8} {v : AV} {σ : St} (hb : b.length ≤ 1099511627776) (hv : (∃ g, v = .sl (bytesAV b) g ∧ (g = .nil → b = [])) ∨ ∃ n, v = .ref n 0 b.length ∧ σ.res n = some (.obj (bytesAV b))) :
    ACalls Tryd.prog n_clone [v] σ (fun w σ' => (w = .sl [] .none ∧ b = [] ∧ ∀ n x, σ.res n = some x → σ'.res n = some x) ∨ ∃ n, σ.next ≤ n ∧ n < σ'.next ∧ w = .ref n 0 b.length ∧ σ'.res n = some (.obj (bytesAV b)) ∧ ∀ n x, σ.res n = some x → σ'.res n = some x) := by
  refine s_clone (fun wf => ?_)
  unfold c_clone
  have more : ∀ ρ' : List AV, keep [0] 0 ρ' = [v] ++ List.replicate 7 .any → T Tryd.prog ann_clone (.seq (.reg [⟨(some 5), (.bslice 1 .zero []), none⟩, ⟨(some 6), (.mv (.t 0)), none⟩, ⟨(some 7), (.app 1 1 .own (.t 5) (.t 6)), none⟩, ⟨(some 2), (.mv (.t 7)), none⟩]) .ret)
      (Fin σ [.t 2] (fun w σ' => (w = .sl [] .none ∧ b = [] ∧ ∀ n x, σ.res n = some x → σ'.res n = some x) ∨ ∃ n, σ.next ≤ n ∧ n < σ'.next ∧ w = .ref n 0 b.length ∧ σ'.res n = some (.obj (bytesAV b)) ∧ ∀ n x, σ.res n = some x → σ'.res n = some x)) ρ' σ := by
    intro ρ' hρ
    refine T.gh (Gh.keep [0]) ?_
    rw [hρ]
    clear hρ ρ'
    have hsrc : srcOf (σ.up 4) 1 v = some (bytesAV b) := by
      rcases hv with ⟨g, rfl, _⟩ | ⟨n, rfl, hr⟩
      · simp only [srcOf, bytesAV_er]
      · have e : ((bytesAV b).drop 0).take b.length = bytesAV b := by rw [List.drop_zero, List.take_of_length_le (by rw [bytesAV_len]; exact Nat.le_refl _)]
        have hr' : (σ.up 4).res n = some (.obj (bytesAV b)) := hr
        unfold srcOf
        simp only [hr']
        rw [e, if_pos ⟨by trivial, by rw [bytesAV_len]; omega, by simp [bytesAV, AV.one]⟩]
        simp [bytesAV, AV.er1]
    refine T.seq_k (fun K_h1 h1 => ?_)
    cases b with
    | nil =>
      have hsrc' : srcOf (σ.up 4) 1 v = some [] := hsrc
      refine T.regi hm ?_
      simp only [↓reduceIte, namesOf, List.any, I.names, aopsI, astep, ev, setd, List.set, List.getD, List.getElem?_cons_zero, List.getElem?_cons_succ, List.cons_append, List.nil_append, List.length_cons, List.length_nil, List.replicate, then_normal, Option.getD_some, Bool.or_false, Bool.or_true, Nat.reduceAdd, true_and, eq_self, decide_true, List.isEmpty, hsrc', List.all_nil, Bool.true_and, Nat.zero_add, Nat.zero_mul, Nat.zero_le, and_self, List.append_nil]
      refine h1 _ _ ?_
      try clear h1 K_h1
      exact T.ret (Fin.retw rfl (y := .sl [] .none) (Wk.sl _ _) (.inl ⟨rfl, rfl, fun _ _ h => h⟩))
    | cons x r =>
      have hne : (bytesAV (x :: r)).isEmpty = false := rfl
      refine T.regi hm ?_
      simp only [↓reduceIte, namesOf, List.any, I.names, aopsI, astep, ev, setd, List.set, List.getD, List.getElem?_cons_zero, List.getElem?_cons_succ, List.cons_append, List.nil_append, List.length_cons, List.length_nil, List.replicate, then_normal, Option.getD_some, Bool.or_false, Bool.or_true, Nat.reduceAdd, eq_self, reduceCtorEq, List.isEmpty, hsrc, bytes_all, Bool.true_and, List.nil_append, Nat.zero_add]
      rw [if_pos (by simp only [bytesAV_len, decide_eq_true_eq]; omega)]
      refine h1 _ _ ?_
      try clear h1 K_h1
      refine T.ret (Fin.ret rfl (.inr ⟨σ.next + 2, by omega, by simp, ?_, ?_, set_quiet wf (Nat.le_refl _) (fun _ _ h => h) _ (by omega)⟩))
      · simp [pack, bytesAV_len]
      · rw [St.set_same, bytes_flat]
  refine T.seq_k (fun K_h1 h1 => ?_)
  refine T.regi hm ?_
  simp only [↓reduceIte, namesOf, List.any, I.names, aopsI, astep, ev, setd, List.set, List.cons_append, List.nil_append, List.length_cons, List.length_nil, List.replicate, then_normal, Bool.or_false, Bool.false_eq_true, up_zero, Nat.reduceAdd, Nat.reduceSub]
  refine h1 _ _ ?_
  try clear h1 K_h1
  refine T.seq_k (fun K_h1 h1 => ?_)
  refine T.seq_k (fun K_h2 h2 => ?_)
  have hlen0 : (∃ n, v = .ref n 0 b.length ∧ σ.res n = some (.obj (bytesAV b))) → ∀ K : AV → St → Prop, K (.bool false) σ → True := fun _ _ _ => trivial
  clear hlen0
  rcases hv with ⟨g, rfl, hgn⟩ | ⟨n, rfl, hr⟩
  · have go : ∀ ρ' : List AV, keep [0] 0 ρ' = [.sl (bytesAV b) g] ++ List.replicate 7 .any → ∀ x : Bool, ρ'.getD 4 .any = .bool x → (x = true → b = []) → K_h2 ρ' σ := by
      intro ρ' hρ x hx hn
      refine h2 _ _ ?_
      try clear h2 K_h2
      refine T.cond (b := x) (by simpa [ev] using hx) (fun ht => ?_) (fun _ => T.skip ?_)
      · have hb0 := hn ht
        refine T.gh (Gh.keep [0]) ?_
        rw [hρ]
        refine T.seq_k (fun K_h2 h2 => ?_)
        refine T.regi hm ?_
        simp only [↓reduceIte, namesOf, List.any, I.names, aopsI, astep, ev, setd, List.set, List.cons_append, List.nil_append, List.replicate, then_normal, Bool.or_false, Bool.false_eq_true, up_zero]
        refine h2 _ _ ?_
        try clear h2 K_h2
        exact T.ret (Fin.retw rfl (y := .sl [] .none) (Wk.sl _ _) (.inl ⟨rfl, hb0, fun _ _ h => h⟩))
      · refine h1 _ _ ?_
        try clear h1 K_h1
        exact more _ hρ
    cases b with
    | nil =>
      cases g <;> refine T.regi hm ?_
      simp only [↓reduceIte, namesOf, List.any, I.names, aopsI, astep, ev, setd, List.set, List.getD, List.getElem?_cons_zero, List.getElem?_cons_succ, List.length_nil, then_normal, Option.getD_some, Bool.or_false, Bool.false_eq_true, up_zero, true_and, eq_self, List.isEmpty, bne_self_eq_false]
      · intro x; exact go _ rfl x rfl (fun _ => rfl)
      · exact go _ rfl _ rfl (fun _ => rfl)
      · intro x; exact go _ rfl x rfl (fun _ => rfl)
      · intro x; exact go _ rfl x rfl (fun _ => rfl)
    | cons y r =>
      have hne : (bytesAV (y :: r)).isEmpty = false := rfl
      cases g
      case nil => exact absurd (hgn rfl) (by simp)
      all_goals
        refine T.regi hm ?_
        simp only [↓reduceIte, namesOf, List.any, I.names, aopsI, astep, ev, setd, List.set, List.getD, List.getElem?_cons_zero, List.getElem?_cons_succ, List.length_cons, then_normal, Option.getD_some, Bool.or_false, Bool.false_eq_true, up_zero, reduceCtorEq, hne, bne_self_eq_false]
        exact go _ rfl false rfl (fun h => by cases h)
  · refine T.regi hm ?_
    simp only [↓reduceIte, namesOf, List.any, I.names, aopsI, astep, ev, setd, List.set, List.getD, List.getElem?_cons_zero, List.getElem?_cons_succ, then_normal, Option.getD_some, Bool.or_false, Bool.false_eq_true, up_zero, bne_self_eq_false]
    refine h2 _ _ ?_
    try clear h2 K_h2
    refine T.cond rfl (fun h => by cases h) (fun _ => T.skip ?_)
    refine h1 _ _ ?_
    try clear h1 K_h1
    exact more _ rfl

def tsAt (ts : List Nat) (j : Nat) : Nat := ts.getD j 0

def lenAt (L : Objs) (j : Nat) : Nat := match L[j]? with | some e => e.2.length | none => 0

theorem nodup_le : ∀ (n : Nat) (l : List Nat), l.Nodup → (∀ j ∈ l, j < n) → l.length ≤ n ∧ ∀ f : Nat → Nat, (l.map f).sum ≤ ((List.range n).map f).sum
  | 0, l, _, h => by
    cases l with
    | nil => exact ⟨Nat.le_refl _, fun _ => Nat.le_refl _⟩
    | cons a r => have := h a (by simp); omega
  | n + 1, l, hd, h => by
    by_cases hn : n ∈ l
    · have hp := List.perm_cons_erase hn
      have h1 := nodup_le n (l.erase n) (hd.erase n) (fun j hj => by
        have hj' := (List.Nodup.mem_erase_iff hd).1 hj
        have := h j hj'.2
        omega)
      refine ⟨by have := hp.length_eq; simp only [List.length_cons] at this; omega, fun f => ?_⟩
      have hs := (hp.map f).sum_nat
      rw [hs, List.range_succ, List.map_append, List.sum_append]
      have := h1.2 f
      simp only [List.map_cons, List.sum_cons, List.map_nil, List.sum_nil]
      omega
    · have h1 := nodup_le n l hd (fun j hj => by
        have := h j hj
        by_cases hx : j = n
        · subst hx; exact absurd hj hn
        · omega)
      refine ⟨by omega, fun f => ?_⟩
      rw [List.range_succ, List.map_append, List.sum_append]
      exact Nat.le_trans (h1.2 f) (Nat.le_add_right _ _)

theorem used_range (L : Objs) : usedO L = ((List.range L.length).map (lenAt L)).sum := by
  unfold usedO
  congr 1
  apply List.ext_getElem
  · simp
  · intro i h1 h2
    simp only [List.length_map] at h1
    simp [lenAt, h1]

theorem sused_ok {p m : Nat} {room left calls : Int} {L : Objs} {σ : St} (h : StS σ p m room left calls L) (hu : usedO L ≤ 1099511627776) :
    ACalls Tryd.prog n_sused [.ptr p 0] σ (fun v σ' => v = .int .i64 (usedO L : Int) ∧ σ' = σ) := by
  refine s_sused (fun wf => ?_)
  unfold c_sused
  obtain ⟨ts, clk, hm', htl, hnd, _⟩ := h.map
  refine T.seq_k (fun K_h1 h1 => ?_)
  refine T.regi hm ?_
  simp only [↓reduceIte, namesOf, List.any, I.names, aopsI, astep, ev, setd, List.set, List.cons_append, List.nil_append, List.length_cons, List.length_nil, List.replicate, then_normal, Bool.or_false, Bool.false_eq_true, up_zero, Nat.reduceAdd, Nat.reduceSub]
  refine h1 _ _ ?_
  try clear h1 K_h1
  refine T.seq_k (fun K_h1 h1 => ?_)
  refine T.regi hm ?_
  simp only [↓reduceIte, namesOf, List.any, I.names, aopsI, astep, ev, setd, List.set, then_normal, Bool.or_false, Bool.false_eq_true, up_zero]
  refine h1 _ _ ?_
  try clear h1 K_h1
  refine T.seq_k (fun K_h1 h1 => ?_)
  refine T.seq_k (fun K_h2 h2 => ?_)
  refine T.regi hm ?_
  simp only [↓reduceIte, namesOf, List.any, I.names, aopsI, astep, ev, setd, List.set, List.getD, List.getElem?_cons_zero, List.getElem?_cons_succ, List.length_cons, List.length_nil, then_normal, Option.getD_some, Bool.or_false, Bool.or_true, Nat.reduceAdd, ↓opt_def, ldc, eq_self, h.obj, hm', St.up_res]
  have hlt : ∀ n x, σ.res n = some x → n < σ.next := fun n x hr => by
    rcases Nat.lt_or_ge n σ.next with h' | h'
    · exact h'
    · rw [wf n h'] at hr; cases hr
  have hmn := hlt _ _ hm'
  have q0 : ((σ.up 5).set (σ.next + 4) (.iter (some m) clk [] clk)).res (σ.next + 4) = some (.iter (some m) clk [] clk) := by simp
  have q1 := set_quiet wf (Nat.le_refl _) (fun _ _ h => h) (k := 5) (.iter (some m) clk [] clk) (a := σ.next + 4) (by omega)
  have q2 : σ.next + 4 ≠ m := by omega
  have q3 : σ.next ≤ σ.next + 4 := by omega
  generalize ((σ.up 5).set (σ.next + 4) (.iter (some m) clk [] clk)) = σ1 at q0 q1 ⊢
  generalize σ.next + 4 = it at q0 q2 q3 ⊢
  refine h2 _ _ ?_
  try clear h2 K_h2
  refine T.block ?_
  refine T.gh (Gh.keep [3, 10]) ?_
  refine T.loopi (fun i ρ s => ∃ is : List Nat, is.length = i ∧ is.Nodup ∧ (∀ j ∈ is, j < L.length) ∧ s.res it = some (.iter (some m) clk (is.map (tsAt ts)) clk) ∧ (∀ n x, σ.res n = some x → s.res n = some x) ∧
    ρ = [.any, .any, .any, .int .i64 (((is.map (lenAt L)).sum : Nat) : Int), .any, .any, .any, .any, .any, .any, .ptr it 0] ++ List.replicate 9 .any)
    L.length 0 (Nat.zero_le _) ⟨[], rfl, List.nodup_nil, fun j hj => (by cases hj), q0, q1, rfl⟩ ?_
  clear q0 q1
  rintro i ρ s hi ⟨is, hil, hind, hisl, q0, q1, rfl⟩
  have hms := q1 _ _ hm'
  refine T.seq_k (fun K_h2 h2 => ?_)
  refine T.regi hm ?_
  simp only [↓reduceIte, namesOf, List.any, I.names, aopsI, astep, ev, setd, List.set, List.getD, List.getElem?_cons_zero, List.getElem?_cons_succ, List.cons_append, List.nil_append, List.replicate, then_normal, Option.getD_some, Bool.or_false, Bool.false_eq_true, up_zero, ↓opt_def, eq_self, q0, hms, and_self]
  refine ⟨fun j pr t hj ht hns => ?_, fun hall => ?_⟩
  · obtain ⟨e, hej, rfl⟩ := objs_get hj
    have hjl : j < L.length := (List.getElem?_eq_some_iff.1 hej).1
    have htj : tsAt ts j = t := by simp [tsAt, ht]
    have hnj : j ∉ is := fun hm => hns (by rw [← htj]; exact List.mem_map_of_mem hm)
    have hnd' : (is ++ [j]).Nodup := List.nodup_append.2 ⟨hind, by simp, fun a ha b hb => by simp only [List.mem_singleton] at hb; subst hb; exact fun e => hnj (e ▸ ha)⟩
    have hlt' : ∀ k ∈ is ++ [j], k < L.length := fun k hk => by
      rcases List.mem_append.1 hk with hk | hk
      · exact hisl k hk
      · simp only [List.mem_singleton] at hk; subst hk; exact hjl
    obtain ⟨n1, n2⟩ := nodup_le _ _ hnd' hlt'
    have n3 := n2 (lenAt L)
    rw [← used_range, List.map_append, List.sum_append] at n3
    have hle : lenAt L j = e.2.length := by simp [lenAt, hej]
    simp only [List.map_cons, List.map_nil, List.sum_cons, List.sum_nil, Nat.add_zero, hle] at n3
    rw [List.length_append, List.length_singleton] at n1
    have r0 : (s.set it (.iter (some m) clk (is.map (tsAt ts) ++ [t]) clk)).res it = some (.iter (some m) clk (is.map (tsAt ts) ++ [t]) clk) := by simp
    have r1 : ∀ n x, σ.res n = some x → (s.set it (.iter (some m) clk (is.map (tsAt ts) ++ [t]) clk)).res n = some x := fun n x hr => by
      rw [St.set_other _ _ (by have := hlt n x hr; omega)]; exact q1 n x hr
    generalize (s.set it (.iter (some m) clk (is.map (tsAt ts) ++ [t]) clk)) = s1 at r0 r1 ⊢
    have hms1 := r1 _ _ hm'
    refine h2 _ _ ?_
    try clear h2 K_h2
    refine T.seq_k (fun K_h3 h3 => ?_)
    refine T.cond rfl (fun _ => T.skip ?_) (fun h => by cases h)
    refine h3 _ _ ?_
    try clear h3 K_h3
    refine T.block ?_
    refine T.seq_k (fun K_h3 h3 => ?_)
    refine T.regi hm ?_
    simp only [↓reduceIte, namesOf, List.any, I.names, aopsI, astep, ev, setd, List.set, List.getD, List.getElem?_cons_zero, List.getElem?_cons_succ, List.cons_append, List.nil_append, List.replicate, then_normal, Option.getD_some, Bool.or_false, Bool.false_eq_true, up_zero, ↓opt_def, eq_self, r0, hms1]
    refine ⟨j, _, t, by simp, ht, hj, ?_⟩
    refine h3 _ _ ?_
    try clear h3 K_h3
    have ew : IntKind.i64.wrap (((is.map (lenAt L)).sum : Int) + (e.2.length : Int)) = ((((is ++ [j]).map (lenAt L)).sum : Nat) : Int) := by
      rw [List.map_append, List.sum_append]
      simp only [List.map_cons, List.map_nil, List.sum_cons, List.sum_nil, Nat.add_zero, hle]
      rw [wrap64 (by omega) (by omega)]; omega
    refine T.regi hm ?_
    simp only [↓reduceIte, namesOf, List.any, I.names, aopsI, astep, ev, setd, List.set, List.getD, List.getElem?_cons_zero, List.getElem?_cons_succ, List.cons_append, List.nil_append, List.replicate, then_normal, inBlock_normal, Option.getD_some, Bool.or_false, Bool.false_eq_true, up_zero, binv, ↓opt_def, eq_self, bytesAV_len, ew]
    refine ⟨by omega, _, _, Gh.keep [3, 10], is ++ [j], by simp [hil], hnd', hlt', ?_, r1, rfl⟩
    rw [r0, List.map_append]
    simp [htj]
  · have hmem : ∀ k, k < L.length → k ∈ is := by
      intro k hk
      have hk' : k < ts.length := by omega
      have h1 := hall ts[k] (List.getElem_mem hk')
      obtain ⟨j, hj, he⟩ := List.mem_map.1 h1
      have hjl : j < ts.length := by rw [htl]; exact hisl j hj
      have e1 : tsAt ts j = ts[j] := by simp [tsAt, hjl]
      rw [e1] at he
      have : j = k := by
        rcases Nat.lt_trichotomy j k with hlt2 | heq | hgt
        · exact absurd he (List.pairwise_iff_getElem.1 hnd j k hjl hk' hlt2)
        · exact heq
        · exact absurd he.symm (List.pairwise_iff_getElem.1 hnd k j hk' hjl hgt)
      rw [← this]; exact hj
    have hperm : is.Perm (List.range L.length) := (List.perm_ext_iff_of_nodup hind List.nodup_range).2 fun k => ⟨fun h => by simpa using hisl k h, fun h => hmem k (by simpa using h)⟩
    have hsum : (is.map (lenAt L)).sum = usedO L := by rw [used_range]; exact (hperm.map _).sum_nat
    refine h2 _ _ ?_
    try clear h2 K_h2
    refine T.seq_k (fun K_h3 h3 => ?_)
    refine T.cond rfl (fun h => by cases h) (fun _ => T.exit ?_)
    try simp only [List.cons_append, List.nil_append, List.replicate, then_normal, inBlock_exit, then_exit]
    refine h1 _ _ ?_
    try clear h1 K_h1
    refine T.seq_k (fun K_h1 h1 => ?_)
    refine T.regi hm ?_
    simp only [↓reduceIte, namesOf, List.any, I.names, aopsI, astep, ev, setd, List.set, List.getD, List.getElem?_cons_zero, List.getElem?_cons_succ, then_normal, Option.getD_some, Bool.or_false, Bool.false_eq_true, up_zero]
    refine h1 _ _ ?_
    try clear h1 K_h1
    exact T.ret (Fin.quiet rfl trivial q1 ⟨by rw [hsum]; rfl, rfl⟩)

end Go.VL

namespace Go.VL

open Go.Proofs

/-- is it none of those that a name may have? -/
def oddC (c : Int) : Bool := !(decide (97 ≤ c) && decide (c ≤ 122) || (decide (48 ≤ c) && decide (c ≤ 57)) || c == 47 || c == 45)

theorem named1_ok {c : Int} {σ : St} : ACalls Tryd.prog n_named1 [.int .i32 c] σ (fun v σ' => v = .bool (oddC c) ∧ σ' = σ) := by
  refine s_named1 (fun wf => ?_)
  unfold c_named1
  refine T.seq_k (fun K_h1 h1 => ?_)
  refine T.regi hm ?_
  simp only [↓reduceIte, namesOf, List.any, I.names, aopsI, astep, ev, setd, List.set, List.cons_append, List.nil_append, List.length_cons, List.length_nil, List.replicate, then_normal, Bool.or_false, Bool.false_eq_true, up_zero, Nat.reduceAdd, Nat.reduceSub]
  refine h1 _ _ ?_
  try clear h1 K_h1
  refine T.seq_k (fun K_h1 h1 => ?_)
  have g1 : decide (c ≥ 97) = decide (97 ≤ c) := rfl
  have g2 : decide (c ≥ 48) = decide (48 ≤ c) := rfl
  cases a1 : decide (97 ≤ c)
  · cases a3 : decide (48 ≤ c)
    · cases a5 : (c == 47)
      · refine T.regi hm ?_
        simp only [↓reduceIte, namesOf, List.any, I.names, aopsI, astep, ev, setd, List.set, List.getD, List.getElem?_cons_zero, List.getElem?_cons_succ, then_normal, Option.getD_some, Bool.or_false, Bool.false_eq_true, up_zero, binv, ↓opt_def, eq_self, g1, g2, a1, a3, a5]
        refine h1 _ _ ?_
        try clear h1 K_h1
        exact T.ret (Fin.ret rfl ⟨by simp [pack, oddC, a1, a3, a5], rfl⟩)
      · refine T.regi hm ?_
        simp only [↓reduceIte, namesOf, List.any, I.names, aopsI, astep, ev, setd, List.set, List.getD, List.getElem?_cons_zero, List.getElem?_cons_succ, then_normal, Option.getD_some, Bool.or_false, Bool.false_eq_true, up_zero, binv, ↓opt_def, eq_self, reduceCtorEq, g1, g2, a1, a3, a5, reduceCtorEq]
        refine h1 _ _ ?_
        try clear h1 K_h1
        exact T.ret (Fin.ret rfl ⟨by simp [pack, oddC, a1, a3, a5], rfl⟩)
    · cases a4 : decide (c ≤ 57)
      · cases a5 : (c == 47)
        · refine T.regi hm ?_
          simp only [↓reduceIte, namesOf, List.any, I.names, aopsI, astep, ev, setd, List.set, List.getD, List.getElem?_cons_zero, List.getElem?_cons_succ, then_normal, Option.getD_some, Bool.or_false, Bool.false_eq_true, up_zero, binv, ↓opt_def, eq_self, g1, g2, a1, a3, a4, a5]
          refine h1 _ _ ?_
          try clear h1 K_h1
          exact T.ret (Fin.ret rfl ⟨by simp [pack, oddC, a1, a3, a4, a5], rfl⟩)
        · refine T.regi hm ?_
          simp only [↓reduceIte, namesOf, List.any, I.names, aopsI, astep, ev, setd, List.set, List.getD, List.getElem?_cons_zero, List.getElem?_cons_succ, then_normal, Option.getD_some, Bool.or_false, Bool.false_eq_true, up_zero, binv, ↓opt_def, eq_self, reduceCtorEq, g1, g2, a1, a3, a4, a5, reduceCtorEq]
          refine h1 _ _ ?_
          try clear h1 K_h1
          exact T.ret (Fin.ret rfl ⟨by simp [pack, oddC, a1, a3, a4, a5], rfl⟩)
      · refine T.regi hm ?_
        simp only [↓reduceIte, namesOf, List.any, I.names, aopsI, astep, ev, setd, List.set, List.getD, List.getElem?_cons_zero, List.getElem?_cons_succ, then_normal, Option.getD_some, Bool.or_false, Bool.false_eq_true, up_zero, binv, ↓opt_def, eq_self, reduceCtorEq, g1, g2, a1, a3, a4, reduceCtorEq]
        refine h1 _ _ ?_
        try clear h1 K_h1
        exact T.ret (Fin.ret rfl ⟨by simp [pack, oddC, a1, a3, a4], rfl⟩)
  · cases a2 : decide (c ≤ 122)
    · have h97 : 97 ≤ c := by simpa using a1
      have h122 : ¬ c ≤ 122 := by simpa using a2
      have a4 : decide (48 ≤ c) = true := decide_eq_true (by omega)
      have a6 : decide (c ≤ 57) = false := decide_eq_false (by omega)
      cases a5 : (c == 47)
      · refine T.regi hm ?_
        simp only [↓reduceIte, namesOf, List.any, I.names, aopsI, astep, ev, setd, List.set, List.getD, List.getElem?_cons_zero, List.getElem?_cons_succ, then_normal, Option.getD_some, Bool.or_false, Bool.false_eq_true, up_zero, binv, ↓opt_def, eq_self, g1, g2, a1, a2, a4, a6, a5]
        refine h1 _ _ ?_
        try clear h1 K_h1
        exact T.ret (Fin.ret rfl ⟨by simp [pack, oddC, a1, a2, a4, a6, a5], rfl⟩)
      · refine T.regi hm ?_
        simp only [↓reduceIte, namesOf, List.any, I.names, aopsI, astep, ev, setd, List.set, List.getD, List.getElem?_cons_zero, List.getElem?_cons_succ, then_normal, Option.getD_some, Bool.or_false, Bool.false_eq_true, up_zero, binv, ↓opt_def, eq_self, reduceCtorEq, g1, g2, a1, a2, a4, a6, a5, reduceCtorEq]
        refine h1 _ _ ?_
        try clear h1 K_h1
        exact T.ret (Fin.ret rfl ⟨by simp [pack, oddC, a1, a2, a4, a6, a5], rfl⟩)
    · refine T.regi hm ?_
      simp only [↓reduceIte, namesOf, List.any, I.names, aopsI, astep, ev, setd, List.set, List.getD, List.getElem?_cons_zero, List.getElem?_cons_succ, then_normal, Option.getD_some, Bool.or_false, Bool.false_eq_true, up_zero, binv, ↓opt_def, eq_self, reduceCtorEq, g1, a1, a2, reduceCtorEq]
      refine h1 _ _ ?_
      try clear h1 K_h1
      exact T.ret (Fin.ret rfl ⟨by simp [pack, oddC, a1, a2], rfl⟩)

theorem decode_pos (s : ByteArray) (i : Nat) : 1 ≤ (Utf8.decode s i).2 := by
  unfold Utf8.decode
  simp only
  repeat' split
  all_goals simp

/-- no rune is odd, from a place on -/
def okFrom (s : ByteArray) : Nat → Nat → Bool
  | 0, _ => true
  | f + 1, pos => if pos < s.size then !oddC (Utf8.decode s pos).1 && okFrom s f (pos + (Utf8.decode s pos).2) else true

theorem okFrom_end (s : ByteArray) : ∀ f pos, s.size ≤ pos → okFrom s f pos = true
  | 0, _, _ => rfl
  | f + 1, pos, h => by unfold okFrom; rw [if_neg (by omega)]

set_option maxRecDepth 10000 in
theorem ixf2_ok {s : ByteArray} {σ : St} (hl : s.size ≤ 9223372036854775807) : ACalls Tryd.prog n_ixf2 [.str s, .func n_named1 [] [], .bool true] σ (fun v σ' => (∃ r : Int, v = .int .i64 r ∧ decide (r < 0) = okFrom s s.size 0) ∧ σ' = σ) := by
  refine s_ixf2 (fun wf => ?_)
  unfold c_ixf2
  refine T.seq_k (fun K_h1 h1 => ?_)
  refine T.regi hm ?_
  simp only [↓reduceIte, namesOf, List.any, I.names, aopsI, astep, ev, setd, List.set, List.cons_append, List.nil_append, List.length_cons, List.length_nil, List.replicate, then_normal, Bool.or_false, Bool.false_eq_true, up_zero, Nat.reduceAdd, Nat.reduceSub]
  refine h1 _ _ ?_
  try clear h1 K_h1
  refine T.seq_k (fun K_h1 h1 => ?_)
  refine T.seq_k (fun K_h2 h2 => ?_)
  refine T.regi hm ?_
  simp only [↓reduceIte, namesOf, List.any, I.names, aopsI, astep, ev, setd, List.set, List.getD, List.getElem?_cons_zero, List.getElem?_cons_succ, List.length_cons, List.length_nil, then_normal, Option.getD_some, Bool.or_false, Bool.or_true, Nat.reduceAdd, eq_self]
  have hlt : ∀ n x, σ.res n = some x → n < σ.next := fun n x hr => by
    rcases Nat.lt_or_ge n σ.next with h' | h'
    · exact h'
    · rw [wf n h'] at hr; cases hr
  have q0 : ((σ.up 2).set (σ.next + 1) (.siter s 0)).res (σ.next + 1) = some (.siter s 0) := by simp
  have q1 := set_quiet wf (Nat.le_refl _) (fun _ _ h => h) (k := 2) (.siter s 0) (a := σ.next + 1) (by omega)
  have q3 : σ.next ≤ σ.next + 1 := by omega
  generalize ((σ.up 2).set (σ.next + 1) (.siter s 0)) = σ1 at q0 q1 ⊢
  generalize σ.next + 1 = it at q0 q3 ⊢
  refine h2 _ _ ?_
  try clear h2 K_h2
  refine T.block ?_
  refine T.gh (Gh.keep [1, 2, 10]) ?_
  refine T.loopi (fun i ρ s' => ∃ pos : Nat, i ≤ pos ∧ okFrom s s.size 0 = okFrom s (s.size - i) pos ∧ s'.res it = some (.siter s pos) ∧ (∀ n x, σ.res n = some x → s'.res n = some x) ∧
    ρ = [.any, .func n_named1 [] [], .bool true, .any, .any, .any, .any, .any, .any, .any, .ptr it 0] ++ List.replicate 10 .any)
    s.size 0 (Nat.zero_le _) ⟨0, Nat.le_refl _, rfl, q0, q1, rfl⟩ ?_
  clear q0 q1
  rintro i ρ s' hi ⟨pos, hip, hok, q0, q1, rfl⟩
  refine T.seq_k (fun K_h2 h2 => ?_)
  by_cases hp : pos < s.size
  · refine T.regi hm ?_
    simp only [↓reduceIte, namesOf, List.any, I.names, aopsI, astep, ev, setd, List.set, List.getD, List.getElem?_cons_zero, List.getElem?_cons_succ, List.cons_append, List.nil_append, List.replicate, then_normal, Option.getD_some, Bool.or_false, Bool.false_eq_true, up_zero, ↓opt_def, q0, hp]
    have r0 : (s'.set it (.siter s (pos + (Utf8.decode s pos).2))).res it = some (.siter s (pos + (Utf8.decode s pos).2)) := by simp
    have r1 : ∀ n x, σ.res n = some x → (s'.set it (.siter s (pos + (Utf8.decode s pos).2))).res n = some x := fun n x hr => by
      rw [St.set_other _ _ (by have := hlt n x hr; omega)]; exact q1 n x hr
    generalize (s'.set it (.siter s (pos + (Utf8.decode s pos).2))) = s1 at r0 r1 ⊢
    refine h2 _ _ ?_
    try clear h2 K_h2
    refine T.seq_k (fun K_h3 h3 => ?_)
    refine T.cond rfl (fun _ => T.skip ?_) (fun h => by cases h)
    refine h3 _ _ ?_
    try clear h3 K_h3
    refine T.block ?_
    refine T.seq_k (fun K_h3 h3 => ?_)
    refine T.regi hm ?_
    simp only [↓reduceIte, namesOf, List.any, I.names, aopsI, astep, ev, setd, List.set, List.getD, List.getElem?_cons_zero, List.getElem?_cons_succ, List.cons_append, List.nil_append, List.replicate, then_normal, Option.getD_some, Bool.or_false, Bool.false_eq_true, up_zero, ↓opt_def]
    refine h3 _ _ ?_
    try clear h3 K_h3
    refine T.seq_k (fun K_h3 h3 => ?_)
    refine T.regi hm ?_
    simp only [↓reduceIte, namesOf, List.any, I.names, aopsI, astep, ev, setd, List.set, List.getD, List.getElem?_cons_zero, List.getElem?_cons_succ, List.cons_append, List.nil_append, List.replicate, then_normal, Option.getD_some, Bool.or_false, Bool.false_eq_true, up_zero, List.map_cons, List.map_nil]
    refine named1_ok.mono ?_
    rintro v s2 ⟨rfl, rfl⟩
    have hstep : okFrom s (s.size - i) pos = (!oddC ((Utf8.decode s pos).1 : Int) && okFrom s (s.size - (i + 1)) (pos + (Utf8.decode s pos).2)) := by
      obtain ⟨n, hn⟩ : ∃ n, s.size - i = n + 1 := ⟨s.size - i - 1, by omega⟩
      rw [hn, show s.size - (i + 1) = n by omega]
      conv => lhs; unfold okFrom
      rw [if_pos hp]
    cases ho : oddC ((Utf8.decode s pos).1 : Int) with
    | true =>
      try simp only [beq_self_eq_true, Bool.bne_false]
      refine h3 _ _ ?_
      try clear h3 K_h3
      refine T.cond rfl (fun _ => ?_) (fun h => by cases h)
      refine T.seq_k (fun K_h3 h3 => ?_)
      refine T.regi hm ?_
      simp only [↓reduceIte, namesOf, List.any, I.names, aopsI, astep, ev, setd, List.set, List.getD, List.getElem?_cons_zero, List.getElem?_cons_succ, List.cons_append, List.nil_append, List.replicate, then_normal, Option.getD_some, Bool.or_false, Bool.false_eq_true, up_zero]
      refine h3 _ _ ?_
      try clear h3 K_h3
      refine T.ret (Fin.quiet rfl trivial r1 ⟨⟨_, rfl, ?_⟩, rfl⟩)
      rw [hok, hstep, ho]
      simp
    | false =>
      have eb : ((false == true) != false) = false := rfl
      try simp only [eb]
      refine h3 _ _ ?_
      try clear h3 K_h3
      refine T.cond rfl (fun h => by cases h) (fun _ => T.skip ?_)
      have hdp := decode_pos s pos
      refine ⟨by omega, _, _, Gh.keep [1, 2, 10], pos + (Utf8.decode s pos).2, by omega, ?_, r0, r1, rfl⟩
      rw [hok, hstep, ho]; rfl
  · refine T.regi hm ?_
    simp only [↓reduceIte, namesOf, List.any, I.names, aopsI, astep, ev, setd, List.set, List.getD, List.getElem?_cons_zero, List.getElem?_cons_succ, List.cons_append, List.nil_append, List.replicate, then_normal, Option.getD_some, Bool.or_false, Bool.false_eq_true, up_zero, ↓opt_def, q0, hp]
    refine h2 _ _ ?_
    try clear h2 K_h2
    refine T.seq_k (fun K_h3 h3 => ?_)
    refine T.cond rfl (fun h => by cases h) (fun _ => T.exit ?_)
    try simp only [List.cons_append, List.nil_append, List.replicate, then_normal, inBlock_exit, then_exit]
    refine h1 _ _ ?_
    try clear h1 K_h1
    refine T.seq_k (fun K_h1 h1 => ?_)
    refine T.regi hm ?_
    simp only [↓reduceIte, namesOf, List.any, I.names, aopsI, astep, ev, setd, List.set, then_normal, Bool.or_false, Bool.false_eq_true, up_zero]
    refine h1 _ _ ?_
    try clear h1 K_h1
    refine T.ret (Fin.quiet rfl trivial q1 ⟨⟨-1, rfl, ?_⟩, rfl⟩)
    rw [hok, okFrom_end _ _ _ (by omega)]; rfl

def namedB (s : ByteArray) : Bool := decide (1 ≤ s.size) && decide (s.size ≤ 32) && okFrom s s.size 0

theorem ixf_ok {s : ByteArray} {σ : St} (hl : s.size ≤ 9223372036854775807) : ACalls Tryd.prog n_ixf [.str s, .func n_named1 [] []] σ (fun v σ' => (∃ r : Int, v = .int .i64 r ∧ decide (r < 0) = okFrom s s.size 0) ∧ σ' = σ) := by
  refine s_ixf (fun wf => ?_)
  unfold c_ixf
  refine T.seq_k (fun K_h1 h1 => ?_)
  refine T.regi hm ?_
  simp only [↓reduceIte, namesOf, List.any, I.names, aopsI, astep, ev, setd, List.set, List.cons_append, List.nil_append, List.length_cons, List.length_nil, List.replicate, then_normal, Bool.or_false, Bool.false_eq_true, up_zero, Nat.reduceAdd, Nat.reduceSub]
  refine h1 _ _ ?_
  try clear h1 K_h1
  refine T.seq_k (fun K_h1 h1 => ?_)
  refine T.regi hm ?_
  simp only [↓reduceIte, namesOf, List.any, I.names, aopsI, astep, ev, setd, List.set, List.getD, List.getElem?_cons_zero, List.getElem?_cons_succ, then_normal, Option.getD_some, Bool.or_false, Bool.false_eq_true, up_zero, List.map_cons, List.map_nil]
  refine (ixf2_ok hl).mono ?_
  rintro v s2 ⟨⟨r, rfl, hr⟩, rfl⟩
  try simp only [↓reduceIte, namesOf, List.any, I.names, aops, aopsI, aopsT, qstep, CPt, qget, Tbl.get, astep, ev, setd, List.set, List.getD, List.getElem?_cons_zero, List.getElem?_cons_succ, List.getElem?_nil, List.cons_append, List.nil_append, List.length_cons, List.length_nil, List.replicate, then_normal, inBlock_normal, Option.getD_some, Option.getD_none, Bool.or_false, Bool.or_true, Bool.true_or, Bool.false_or, Bool.false_eq_true, if_false, if_true, up_zero, Nat.reduceAdd, Nat.reduceSub, binv, ↓opt_def, AV.isAny, AV.cells, ldc, List.map_cons, List.map_nil, St.set_next, St.set_same, St.up_next, Int.natCast_nonneg, lt_len, le_len, Int.toNat_natCast, true_and, and_true, eq_self, reduceCtorEq, decide_true, List.length_singleton, er_int, er_bool, er_str, srcR, up_zero]
  refine h1 _ _ ?_
  try clear h1 K_h1
  exact T.ret (Fin.ret rfl ⟨⟨r, rfl, hr⟩, rfl⟩)

theorem named_ok {s : ByteArray} {σ : St} (hl : s.size ≤ 9223372036854775807) : ACalls Tryd.prog n_named [.str s] σ (fun v σ' => v = .bool (namedB s) ∧ σ' = σ) := by
  refine s_named (fun wf => ?_)
  unfold c_named
  refine T.seq_k (fun K_h1 h1 => ?_)
  refine T.regi hm ?_
  simp only [↓reduceIte, namesOf, List.any, I.names, aopsI, astep, ev, setd, List.set, List.cons_append, List.nil_append, List.length_cons, List.length_nil, List.replicate, then_normal, Bool.or_false, Bool.false_eq_true, up_zero, Nat.reduceAdd, Nat.reduceSub]
  refine h1 _ _ ?_
  try clear h1 K_h1
  refine T.seq_k (fun K_h1 h1 => ?_)
  refine T.regi hm ?_
  simp only [↓reduceIte, namesOf, List.any, I.names, aopsI, astep, ev, setd, List.set, then_normal, Bool.or_false, Bool.false_eq_true, up_zero]
  refine h1 _ _ ?_
  try clear h1 K_h1
  refine T.seq_k (fun K_h1 h1 => ?_)
  by_cases c1 : 1 ≤ s.size
  case neg =>
    have e1 : decide ((s.size : Int) ≥ 1) = false := decide_eq_false (by omega)
    refine T.regi hm ?_
    simp only [↓reduceIte, namesOf, List.any, I.names, aopsI, astep, ev, setd, List.set, List.getD, List.getElem?_cons_zero, List.getElem?_cons_succ, then_normal, Option.getD_some, Bool.or_false, Bool.false_eq_true, up_zero, binv, ↓opt_def, eq_self, e1]
    refine h1 _ _ ?_
    try clear h1 K_h1
    exact T.ret (Fin.ret rfl ⟨by unfold namedB; rw [decide_eq_false c1]; rfl, rfl⟩)
  have e1 : decide ((s.size : Int) ≥ 1) = true := decide_eq_true (by omega)
  by_cases c2 : s.size ≤ 32
  case neg =>
    have e2 : decide ((s.size : Int) ≤ 32) = false := decide_eq_false (by omega)
    refine T.regi hm ?_
    simp only [↓reduceIte, namesOf, List.any, I.names, aopsI, astep, ev, setd, List.set, List.getD, List.getElem?_cons_zero, List.getElem?_cons_succ, then_normal, Option.getD_some, Bool.or_false, Bool.false_eq_true, up_zero, binv, ↓opt_def, eq_self, e1, e2]
    refine h1 _ _ ?_
    try clear h1 K_h1
    exact T.ret (Fin.ret rfl ⟨by unfold namedB; rw [decide_eq_false c2, Bool.and_false]; rfl, rfl⟩)
  have e2 : decide ((s.size : Int) ≤ 32) = true := decide_eq_true (by omega)
  refine T.regi hm ?_
  simp only [↓reduceIte, namesOf, List.any, I.names, aopsI, astep, ev, setd, List.set, List.getD, List.getElem?_cons_zero, List.getElem?_cons_succ, then_normal, Option.getD_some, Bool.or_false, Bool.false_eq_true, up_zero, binv, ↓opt_def, List.map_cons, List.map_nil, eq_self, e1, e2]
  refine (ixf_ok hl).mono ?_
  rintro v s2 ⟨⟨r, rfl, hr⟩, rfl⟩
  try simp only [↓reduceIte, eq_self, hr]
  refine h1 _ _ ?_
  try clear h1 K_h1
  exact T.ret (Fin.ret rfl ⟨by unfold namedB; rw [decide_eq_true c1, decide_eq_true c2]; rfl, rfl⟩)

end Go.VL

namespace Go.VL

open Go.Proofs

/-- an owned row that comes back, told to be a value -/
theorem Gv.freeze {σ0 σ : St} {n off len k : Nat} {cs xs : List AV} (hr : σ.res n = some (.obj cs)) (hlen : xs.length = len) (hk : ∀ x ∈ xs, x.cells.length = k)
    (hx : xs.flatMap AV.cells = (cs.drop off).take (len * k)) : Gv σ0 (.ref n off len) σ (.sl xs .none) (σ.del n) := by
  intro κ0 w0 B0 F0 F κ w v h0 hR he hd hn hv
  obtain ⟨hdm, us, rest, ty, fz, h1, h2, h3, h4, _⟩ := hR.own n _ hr
  have e : Ext κ w { κ with I := fun b o => κ.I b o ∨ (b = κ.φ n ∧ o < us.length) } w := ⟨fun _ _ x => .inl x, fun _ _ => rfl, fun _ _ => rfl, fun _ _ => rfl, fun _ _ => rfl, fun _ x => x, fun _ _ _ => rfl⟩
  have hlt := hR.lt hr
  have hR' : R w0.heap.size F { κ with I := fun b o => κ.I b o ∨ (b = κ.φ n ∧ o < us.length) } w (σ.del n) := by
    refine hR.step e (fun m hm => hR.dom m hm) (fun b o hi => ?_) (fun m r hm => ?_)
    · rcases hi with hi | ⟨rfl, _⟩
      · exact hR.imm b o hi
      · exact hlt
    · have hmn : m ≠ n := by intro e; subst e; simp [St.del] at hm
      have hm' : σ.res m = some r := by simpa [St.del, hmn] using hm
      refine .inl ⟨hm', rfl, fun o hi => ?_⟩
      rcases hi with hi | ⟨hx, _⟩
      · exact hi
      · exact absurd (hR.apart _ _ _ _ hm' hr hx) hmn
  obtain ⟨cap, rfl, hcap, _⟩ := hv.ref_inv
  refine ⟨_, hR', he.trans e, hd, hn, ?_⟩
  rw [← hlen]
  refine .sl _ _ cap k xs hk (by rw [hlen]; exact hcap) ?_
  rw [hx]
  refine Vs.mk (us := (us.drop off).take (len * k)) (((h3.mono e).drop off).take _) (fun i u hu => ?_)
  have hu2 : us[off + i]? = some u := by
    rw [List.getElem?_take] at hu
    split at hu
    · simpa using hu
    · cases hu
  have hil : off + i < us.length := (List.getElem?_eq_some_iff.1 hu2).1
  exact ⟨.inr ⟨rfl, hil⟩, by rw [cell_of h1, List.getElem?_append_left hil]; exact hu2⟩

abbrev BytesV (σ : St) (v : AV) (b : List UInt8) : Prop := (∃ g, v = .sl (bytesAV b) g ∧ (g = .nil → b = [])) ∨ ∃ n, v = .ref n 0 b.length ∧ σ.res n = some (.obj (bytesAV b))

theorem clone_q {b : List UInt8} {v : AV} {σ : St} (hb : b.length ≤ 1099511627776) (hv : BytesV σ v b) : ACalls Tryd.prog n_clone [v] σ (fun w σ' => w = .sl (bytesAV b) .none ∧ σ' = σ) := by
  refine (clone_ok hb hv).gv ?_
  rintro wf w σ' (⟨rfl, rfl, ho⟩ | ⟨n, h1, h2, rfl, h3, ho⟩)
  · exact ⟨_, _, Gv.quiet ⟨trivial, trivial⟩ ho, rfl, rfl⟩
  · refine ⟨_, _, (Gv.freeze (k := 1) h3 (xs := bytesAV b) (bytesAV_len b) (fun x hx => ?_) ?_).trans (Gv.quiet ⟨nb_bytes _ _, trivial⟩ (fun m x hm => ?_)), rfl, rfl⟩
    · obtain ⟨y, _, rfl⟩ := List.mem_map.1 hx; rfl
    · rw [bytes_flat, List.drop_zero, Nat.mul_one, List.take_of_length_le (by rw [bytesAV_len]; exact Nat.le_refl _)]
    · have hmn : m ≠ n := by
        rintro rfl
        rw [wf m h1] at hm; cases hm
      simp only [St.del]
      rw [if_neg hmn]; exact ho m x hm

/-- all else is as it was -/
structure Nx (σ σ' : St) (p m : Nat) : Prop where
  next : σ.next ≤ σ'.next
  old : ∀ n x, n ≠ p → n ≠ m → σ.res n = some x → σ'.res n = some x

theorem Nx.refl (σ : St) (p m : Nat) : Nx σ σ p m := ⟨Nat.le_refl _, fun _ _ _ _ h => h⟩

theorem Nx.trans {σ σ1 σ2 : St} {p m : Nat} (h : Nx σ σ1 p m) (k : Nx σ1 σ2 p m) : Nx σ σ2 p m := ⟨Nat.le_trans h.next k.next, fun n x h1 h2 h3 => k.old n x h1 h2 (h.old n x h1 h2 h3)⟩

theorem Nx.set {σ : St} {p m : Nat} (r : Res) : Nx σ (σ.set p r) p m := ⟨Nat.le_refl _, fun n x h1 _ h3 => by rw [St.set_other _ _ h1]; exact h3⟩

theorem Nx.setm {σ : St} {p m : Nat} (r : Res) : Nx σ (σ.set m r) p m := ⟨Nat.le_refl _, fun n x _ h2 h3 => by rw [St.set_other _ _ h2]; exact h3⟩

theorem StS.called {σ : St} {p m : Nat} {room left calls : Int} {L : Objs} (h : StS σ p m room left calls L) (l2 c2 : Int) : StS (σ.set p (.obj [.int .i64 room, .map m, .int .i64 l2, .int .i64 c2])) p m room l2 c2 L := by
  obtain ⟨ts, clk, h1, h2⟩ := h.map
  exact ⟨by simp, ⟨ts, clk, by rw [St.set_other _ _ (Ne.symm h.ne)]; exact h1, h2⟩, h.ne⟩

theorem snew_ok {room : Int} {σ : St} (hr : 1 ≤ room ∧ room ≤ 1048576) : ACalls Tryd.prog n_snew [.int .i64 room] σ (fun v σ' => ∃ p m, v = .tup [.ptr p 0, .nili] ∧ StS σ' p m room (-1) 0 [] ∧ σ.next ≤ p ∧ σ.next ≤ m ∧ p < σ'.next ∧ m < σ'.next ∧ ∀ n x, σ.res n = some x → σ'.res n = some x) := by
  refine s_snew (fun wf => ?_)
  unfold c_snew
  refine T.seq_k (fun K_h1 h1 => ?_)
  refine T.regi hm ?_
  simp only [↓reduceIte, namesOf, List.any, I.names, aopsI, astep, ev, setd, List.set, List.cons_append, List.nil_append, List.length_cons, List.length_nil, List.replicate, then_normal, Bool.or_false, Bool.false_eq_true, up_zero, Nat.reduceAdd, Nat.reduceSub]
  refine h1 _ _ ?_
  try clear h1 K_h1
  refine T.seq_k (fun K_h1 h1 => ?_)
  refine T.seq_k (fun K_h2 h2 => ?_)
  have e1 : decide (room < 1) = false := decide_eq_false (by omega)
  have e2 : decide (room > 1048576) = false := decide_eq_false (by omega)
  refine T.regi hm ?_
  simp only [↓reduceIte, namesOf, List.any, I.names, aopsI, astep, ev, setd, List.set, List.getD, List.getElem?_cons_zero, List.getElem?_cons_succ, then_normal, Option.getD_some, Bool.or_false, Bool.false_eq_true, up_zero, binv, ↓opt_def, eq_self, e1, e2]
  refine h2 _ _ ?_
  try clear h2 K_h2
  refine T.cond rfl (fun h => by cases h) (fun _ => T.skip ?_)
  refine h1 _ _ ?_
  try clear h1 K_h1
  refine T.seq_k (fun K_h1 h1 => ?_)
  refine T.regi hm ?_
  simp only [↓reduceIte, namesOf, List.any, I.names, aopsI, astep, ev, setd, List.set, List.getD, List.getElem?_cons_zero, List.getElem?_cons_succ, List.cons_append, List.nil_append, List.length_cons, List.length_nil, then_normal, Option.getD_some, Bool.or_false, Bool.or_true, Bool.false_eq_true, Nat.reduceAdd, ↓opt_def, AV.isAny, AV.cells, eq_self, fillA, Option.map, AV.fits, AV.one, List.all_cons, List.all_nil, Nat.reduceBEq, Bool.not_false, Bool.and_self, Nat.zero_add, splice, List.take, List.drop, Nat.reduceLeDiff, and_self]
  refine h1 _ _ ?_
  try clear h1 K_h1
  refine T.ret (Fin.ret rfl ⟨σ.next + 3, σ.next + 1, rfl, ⟨by simp, ⟨[], 0, ?_, rfl, .nil, fun _ h => by cases h⟩, by omega⟩, by omega, by omega, by simp, by simp, fun n x hx => ?_⟩)
  · rw [St.set_other _ _ (by omega)]; simp [objsAV]
  · have hn : n < σ.next := by
      rcases Nat.lt_or_ge n σ.next with h' | h'
      · exact h'
      · rw [wf n h'] at hx; cases hx
    rw [St.set_other _ _ (by omega), St.set_other _ _ (by omega)]; exact hx

def sizeO (k : ByteArray) (L : Objs) : Nat := ((getO k L).getD []).length

/-- what putting tells -/
def putC (room left : Int) (L : Objs) (k : ByteArray) (b : List UInt8) : Int :=
  if left = 0 then 8 else if namedB k = false then 1 else if (b.length : Int) > room - usedO L + sizeO k L then 6 else 0

set_option maxRecDepth 10000 in
set_option maxHeartbeats 2000000 in
theorem sput_ok {p m : Nat} {room left calls : Int} {L : Objs} {k : ByteArray} {b : List UInt8} {v : AV} {σ : St} (h : StS σ p m room left calls L) (hl : -1 ≤ left ∧ left ≤ 9223372036854775807) (hc : 0 ≤ calls ∧ calls < 9223372036854775807)
    (hu : usedO L ≤ 1099511627776) (hk : k.size ≤ 9223372036854775807) (hb : b.length ≤ 1099511627776) (hz : sizeO k L ≤ 1099511627776) (hr : 0 ≤ room ∧ room ≤ 1048576) (hv : BytesV σ v b) (hvp : ∀ n, v = .ref n 0 b.length → n ≠ p) :
    ACalls Tryd.prog n_sput [.ptr p 0, .str k, v] σ (fun w σ' => w = errAV (putC room left L k b) ∧ StS σ' p m room (leftB left) (calls + 1) (if putC room left L k b = 0 then putO k b L else L) ∧ Nx σ σ' p m) := by
  refine s_sput (fun wf => ?_)
  unfold c_sput
  have hv1 : BytesV (σ.set p (.obj [.int .i64 room, .map m, .int .i64 (leftB left), .int .i64 (calls + 1)])) v b := by
    rcases hv with hv | ⟨n, hn, hr⟩
    · exact .inl hv
    · exact .inr ⟨n, hn, by rw [St.set_other _ _ (hvp n hn)]; exact hr⟩
  have hS := h.called (leftB left) (calls + 1)
  have hN : Nx σ (σ.set p (.obj [.int .i64 room, .map m, .int .i64 (leftB left), .int .i64 (calls + 1)])) p m := Nx.set _
  refine T.seq_k (fun K_h1 h1 => ?_)
  refine T.regi hm ?_
  simp only [↓reduceIte, namesOf, List.any, I.names, aopsI, astep, ev, setd, List.set, List.cons_append, List.nil_append, List.length_cons, List.length_nil, List.replicate, then_normal, Bool.or_false, Bool.false_eq_true, up_zero, Nat.reduceAdd, Nat.reduceSub]
  refine h1 _ _ ?_
  try clear h1 K_h1
  refine T.seq_k (fun K_h1 h1 => ?_)
  refine T.block ?_
  refine T.seq_k (fun K_h2 h2 => ?_)
  refine T.regi hm ?_
  simp only [↓reduceIte, namesOf, List.any, I.names, aopsI, astep, ev, setd, List.set, List.getD, List.getElem?_cons_zero, List.getElem?_cons_succ, then_normal, Option.getD_some, Bool.or_false, Bool.false_eq_true, up_zero, List.map_cons, List.map_nil]
  refine (scall_ok h hl hc).mono ?_
  rintro w σ1 ⟨rfl, hσ1⟩
  rw [← hσ1] at hv1 hS hN
  clear hσ1
  try simp only []
  refine h2 _ _ ?_
  try clear h2 K_h2
  have bad : ∀ c : Int, c ≠ 0 → putC room left L k b = c → ∀ ρ' : List AV, ρ'.getD 6 .any = .iface tCode (.int .i64 c) → Fin σ [.t 6] (fun w σ' => w = errAV (putC room left L k b) ∧ StS σ' p m room (leftB left) (calls + 1) (if putC room left L k b = 0 then putO k b L else L) ∧ Nx σ σ' p m) .ret ρ' σ1 := by
    intro c hc0 hpc ρ' hρ
    refine Fin.ret (xs := [ρ'.getD 6 .any]) rfl ⟨?_, by rw [hpc, if_neg hc0]; exact hS, hN⟩
    rw [hρ, hpc, errAV_eq c hc0]; rfl
  by_cases c1 : left = 0
  · refine T.cond (b := true) (by simp [ev, c1]) (fun _ => ?_) (fun h => by cases h)
    refine T.seq_k (fun K_h2 h2 => ?_)
    refine T.regi hm ?_
    simp only [↓reduceIte, namesOf, List.any, I.names, aopsI, astep, ev, setd, List.set, List.getD, List.getElem?_cons_zero, List.getElem?_cons_succ, then_normal, Option.getD_some, Bool.or_false, Bool.false_eq_true, up_zero]
    refine h2 _ _ ?_
    try clear h2 K_h2
    exact T.ret (bad 8 (by omega) (by unfold putC; rw [if_pos c1]) _ rfl)
  refine T.cond (b := false) (by simp [ev, c1]) (fun h => by cases h) (fun _ => ?_)
  refine T.seq_k (fun K_h2 h2 => ?_)
  refine T.regi hm ?_
  simp only [↓reduceIte, namesOf, List.any, I.names, aopsI, astep, ev, setd, List.set, List.getD, List.getElem?_cons_zero, List.getElem?_cons_succ, then_normal, Option.getD_some, Bool.or_false, Bool.false_eq_true, up_zero, List.map_cons, List.map_nil]
  refine (named_ok hk).mono ?_
  rintro w σ2 ⟨rfl, rfl⟩
  try simp only []
  refine h2 _ _ ?_
  try clear h2 K_h2
  cases c2 : namedB k with
  | false =>
    refine T.cond (b := true) (by simp [ev]) (fun _ => ?_) (fun h => by cases h)
    refine T.seq_k (fun K_h2 h2 => ?_)
    refine T.regi hm ?_
    simp only [↓reduceIte, namesOf, List.any, I.names, aopsI, astep, ev, setd, List.set, List.getD, List.getElem?_cons_zero, List.getElem?_cons_succ, then_normal, Option.getD_some, Bool.or_false, Bool.false_eq_true, up_zero]
    refine h2 _ _ ?_
    try clear h2 K_h2
    exact T.ret (bad 1 (by omega) (by unfold putC; rw [if_neg c1, if_pos c2]) _ rfl)
  | true =>
  refine T.cond (b := false) (by simp [ev]) (fun h => by cases h) (fun _ => ?_)
  obtain ⟨ts, clk, hm', htl, hnd, hck⟩ := hS.map
  have hf := objs_find k L
  have hw1 : IntKind.i64.wrap (room - (usedO L : Int)) = room - (usedO L : Int) := wrap64 (by omega) (by omega)
  have hw2 : IntKind.i64.wrap (room - (usedO L : Int) + (sizeO k L : Int)) = room - (usedO L : Int) + (sizeO k L : Int) := wrap64 (by omega) (by omega)
  have hv2 := hv1
  refine T.seq_k (fun K_h2 h2 => ?_)
  refine T.regt hm (tbl := []) Tbl.ok_nil ?_
  refine aopsT_cut 2 (fun K_c h_c => ?_)
  try simp only [↓reduceIte, namesOf, List.any, I.names, aopsT, qstep, astep, ev, setd, List.set, List.getD, List.getElem?_cons_zero, List.getElem?_cons_succ, Option.getD_some, Bool.or_false, Bool.false_eq_true, up_zero, List.take_succ_cons, List.take_zero]
  rcases hv1 with ⟨g, rfl, _⟩ | ⟨n, rfl, _⟩
  all_goals
    try simp only [bytesAV_len]
    refine h_c _ _ ?_
    clear h_c K_c
    simp only [List.drop_succ_cons, List.drop_zero, Nat.zero_add]
    refine aopsT_cut 6 (fun K_c h_c => ?_)
    try simp only [aopsT, qstep, qget, Tbl.get, astep, ev, setd, List.set, List.getD, List.getElem?_cons_zero, List.getElem?_cons_succ, Option.getD_some, Nat.reduceAdd, ↓opt_def, ldc, List.map_cons, List.map_nil, List.take_succ_cons, List.take_zero, hS.obj]
    refine ⟨_, sused_ok hS hu, ?_⟩
    refine h_c _ _ ?_
    clear h_c K_c
    simp only [List.drop_succ_cons, List.drop_zero, Nat.reduceAdd]
    cases hg : getO k L
    all_goals
      rw [hg] at hf
      have hsz : sizeO k L = (((getO k L).getD []).length) := rfl
      rw [hg] at hsz
      simp only [Option.getD_none, Option.getD_some, List.length_nil] at hsz
      rw [hsz] at hw2
      try simp only [↓reduceIte, aopsT, qstep, astep, ev, setd, List.set, List.getD, List.getElem?_cons_zero, List.getElem?_cons_succ, List.length_nil, then_normal, Option.getD_some, Bool.false_eq_true, Nat.reduceAdd, binv, ↓opt_def, ldc, eq_self, hS.obj, hm', kshape, hf, Option.map_none, Option.map_some, hw1, hw2, bytesAV_len, List.length_nil]
      refine h2 _ _ ?_
      try clear h2 K_h2
      by_cases c3 : (b.length : Int) > room - usedO L + sizeO k L
      · refine T.cond (b := true) (by rw [hsz] at c3; simp [ev]; omega) (fun _ => ?_) (fun h => by cases h)
        refine T.seq_k (fun K_h2 h2 => ?_)
        refine T.regi hm ?_
        simp only [↓reduceIte, namesOf, List.any, I.names, aopsI, astep, ev, setd, List.set, List.getD, List.getElem?_cons_zero, List.getElem?_cons_succ, then_normal, Option.getD_some, Bool.or_false, Bool.false_eq_true, up_zero]
        refine h2 _ _ ?_
        try clear h2 K_h2
        exact T.ret (bad 6 (by omega) (by unfold putC; rw [if_neg c1, if_neg (by rw [c2]; simp), if_pos c3]) _ rfl)
      · have hpc : putC room left L k b = 0 := by unfold putC; rw [if_neg c1, if_neg (by rw [c2]; simp), if_neg c3]
        refine T.cond (b := false) (by rw [hsz] at c3; simp [ev]; omega) (fun h => by cases h) (fun _ => T.skip ?_)
        try simp only [then_normal, inBlock_normal, inBlock_normal]
        refine h1 _ _ ?_
        try clear h1 K_h1
        refine T.seq_k (fun K_h1 h1 => ?_)
        refine T.regt hm (tbl := []) Tbl.ok_nil ?_
        refine aopsT_cut 7 (fun K_c h_c => ?_)
        try simp only [↓reduceIte, namesOf, List.any, I.names, aopsT, qstep, qget, Tbl.get, astep, ev, setd, List.set, List.getD, List.getElem?_cons_zero, List.getElem?_cons_succ, Option.getD_some, Bool.or_false, Bool.false_eq_true, up_zero, Nat.reduceAdd, ↓opt_def, ldc, List.map_cons, List.map_nil, List.take_succ_cons, List.take_zero, hS.obj, up_zero]
        refine ⟨_, clone_q hb hv2, ?_⟩
        refine h_c _ _ ?_
        clear h_c K_c
        simp only [List.drop_succ_cons, List.drop_zero, Nat.zero_add]
        try simp only [↓reduceIte, aopsT, qstep, astep, ev, setd, List.getD, List.getElem?_cons_zero, List.getElem?_cons_succ, then_normal, Option.getD_some, eq_self, hm', kshape, hf, Option.map_none, Option.map_some, objs_put]
        refine h1 _ _ ?_
        try clear h1 K_h1
        refine T.seq_k (fun K_h1 h1 => ?_)
        refine T.regi hm ?_
        simp only [↓reduceIte, namesOf, List.any, I.names, aopsI, astep, ev, setd, List.set, then_normal, Bool.or_false, Bool.false_eq_true, up_zero]
        refine h1 _ _ ?_
        try clear h1 K_h1
        refine T.ret (Fin.ret rfl ⟨by rw [hpc]; rfl, ?_, hN.trans (Nx.setm _)⟩)
        rw [if_pos hpc]
        refine ⟨by rw [St.set_other _ _ hS.ne]; exact hS.obj, ⟨_, _, by rw [St.set_same], ?_⟩, hS.ne⟩
        have hpl := put_len k b L
        rw [hg] at hpl
        simp only [Option.isSome_none, Option.isSome_some, Bool.false_eq_true, if_true, if_false] at hpl
        first
          | exact ⟨by rw [hpl]; exact htl, hnd, hck⟩
          | exact ⟨by rw [hpl, List.length_append, htl]; rfl, List.nodup_append.2 ⟨hnd, by simp, fun t ht u hu => by simp only [List.mem_singleton] at hu; subst hu; exact Nat.ne_of_lt (hck t ht)⟩,
              fun t ht => by rcases List.mem_append.1 ht with ht | ht; exact Nat.lt_succ_of_lt (hck t ht); simp only [List.mem_singleton] at ht; subst ht; exact Nat.lt_succ_self _⟩

/-- what getting tells -/
def getC (left : Int) (L : Objs) (k : ByteArray) : Int := if left = 0 then 8 else if (getO k L).isNone then 4 else 0

set_option maxRecDepth 10000 in
set_option maxHeartbeats 2000000 in
theorem sget_ok {p m : Nat} {room left calls : Int} {L : Objs} {k : ByteArray} {σ : St} (h : StS σ p m room left calls L) (hl : -1 ≤ left ∧ left ≤ 9223372036854775807) (hc : 0 ≤ calls ∧ calls < 9223372036854775807)
    (hz : ∀ b, getO k L = some b → b.length ≤ 1099511627776) :
    ACalls Tryd.prog n_sget [.ptr p 0, .str k] σ (fun w σ' => w = .tup [.sl (bytesAV (if getC left L k = 0 then (getO k L).getD [] else [])) .none, errAV (getC left L k)] ∧ StS σ' p m room (leftB left) (calls + 1) L ∧ Nx σ σ' p m) := by
  refine s_sget (fun wf => ?_)
  unfold c_sget
  have hS := h.called (leftB left) (calls + 1)
  have hN : Nx σ (σ.set p (.obj [.int .i64 room, .map m, .int .i64 (leftB left), .int .i64 (calls + 1)])) p m := Nx.set _
  obtain ⟨ts, clk, hm', htl, hnd, hck⟩ := h.map
  have hf := objs_find k L
  refine T.seq_k (fun K_h1 h1 => ?_)
  refine T.regi hm ?_
  simp only [↓reduceIte, namesOf, List.any, I.names, aopsI, astep, ev, setd, List.set, List.cons_append, List.nil_append, List.length_cons, List.length_nil, List.replicate, then_normal, Bool.or_false, Bool.false_eq_true, up_zero, Nat.reduceAdd, Nat.reduceSub]
  refine h1 _ _ ?_
  try clear h1 K_h1
  refine T.seq_k (fun K_h1 h1 => ?_)
  cases hg : getO k L with
  | none =>
    rw [hg] at hf
    refine T.regi hm ?_
    simp only [↓reduceIte, namesOf, List.any, I.names, aopsI, astep, ev, setd, List.set, List.getD, List.getElem?_cons_zero, List.getElem?_cons_succ, then_normal, Option.getD_some, Option.getD_none, Bool.or_false, Bool.false_eq_true, up_zero, Nat.reduceAdd, ↓opt_def, ldc, eq_self, h.obj, hm', kshape, hf, Option.map_none]
    refine h1 _ _ ?_
    try clear h1 K_h1
    refine T.seq_k (fun K_h1 h1 => ?_)
    refine T.block ?_
    refine T.seq_k (fun K_h2 h2 => ?_)
    refine T.regi hm ?_
    simp only [↓reduceIte, namesOf, List.any, I.names, aopsI, astep, ev, setd, List.set, List.getD, List.getElem?_cons_zero, List.getElem?_cons_succ, then_normal, Option.getD_some, Bool.or_false, Bool.false_eq_true, up_zero, List.map_cons, List.map_nil]
    refine (scall_ok h hl hc).mono ?_
    rintro w σ1 ⟨rfl, hσ1⟩
    rw [← hσ1] at hS hN
    clear hσ1
    try simp only []
    refine h2 _ _ ?_
    try clear h2 K_h2
    by_cases c1 : left = 0
    · have hgc : getC left L k = 8 := by unfold getC; rw [if_pos c1]
      refine T.cond (b := true) (by simp [ev, c1]) (fun _ => ?_) (fun h => by cases h)
      refine T.seq_k (fun K_h2 h2 => ?_)
      refine T.regi hm ?_
      simp only [↓reduceIte, namesOf, List.any, I.names, aopsI, astep, ev, setd, List.set, List.getD, List.getElem?_cons_zero, List.getElem?_cons_succ, then_normal, Option.getD_some, Bool.or_false, Bool.false_eq_true, up_zero]
      refine h2 _ _ ?_
      try clear h2 K_h2
      exact T.ret (Fin.retw rfl (Wk.tup2 (Wk.sl _ _)) ⟨by rw [hgc]; rfl, hS, hN⟩)
    · have hgc : getC left L k = 4 := by unfold getC; rw [if_neg c1, hg]; rfl
      refine T.cond (b := false) (by simp [ev, c1]) (fun h => by cases h) (fun _ => ?_)
      refine T.seq_k (fun K_h2 h2 => ?_)
      refine T.regi hm ?_
      simp only [↓reduceIte, namesOf, List.any, I.names, aopsI, astep, ev, setd, List.set, List.getD, List.getElem?_cons_zero, List.getElem?_cons_succ, then_normal, Option.getD_some, Bool.or_false, Bool.false_eq_true, up_zero]
      refine h2 _ _ ?_
      try clear h2 K_h2
      refine T.cond rfl (fun _ => ?_) (fun h => by cases h)
      refine T.seq_k (fun K_h2 h2 => ?_)
      refine T.regi hm ?_
      simp only [↓reduceIte, namesOf, List.any, I.names, aopsI, astep, ev, setd, List.set, List.getD, List.getElem?_cons_zero, List.getElem?_cons_succ, then_normal, Option.getD_some, Bool.or_false, Bool.false_eq_true, up_zero]
      refine h2 _ _ ?_
      try clear h2 K_h2
      exact T.ret (Fin.retw rfl (Wk.tup2 (Wk.sl _ _)) ⟨by rw [hgc]; rfl, hS, hN⟩)
  | some b =>
    rw [hg] at hf
    have hbl := hz b hg
    refine T.regi hm ?_
    simp only [↓reduceIte, namesOf, List.any, I.names, aopsI, astep, ev, setd, List.set, List.getD, List.getElem?_cons_zero, List.getElem?_cons_succ, then_normal, Option.getD_some, Bool.or_false, Bool.false_eq_true, up_zero, Nat.reduceAdd, ↓opt_def, ldc, eq_self, h.obj, hm', kshape, hf, Option.map_some]
    refine h1 _ _ ?_
    try clear h1 K_h1
    refine T.seq_k (fun K_h1 h1 => ?_)
    refine T.block ?_
    refine T.seq_k (fun K_h2 h2 => ?_)
    refine T.regi hm ?_
    simp only [↓reduceIte, namesOf, List.any, I.names, aopsI, astep, ev, setd, List.set, List.getD, List.getElem?_cons_zero, List.getElem?_cons_succ, then_normal, Option.getD_some, Bool.or_false, Bool.false_eq_true, up_zero, List.map_cons, List.map_nil]
    refine (scall_ok h hl hc).mono ?_
    rintro w σ1 ⟨rfl, hσ1⟩
    rw [← hσ1] at hS hN
    clear hσ1
    try simp only []
    refine h2 _ _ ?_
    try clear h2 K_h2
    by_cases c1 : left = 0
    · have hgc : getC left L k = 8 := by unfold getC; rw [if_pos c1]
      refine T.cond (b := true) (by simp [ev, c1]) (fun _ => ?_) (fun h => by cases h)
      refine T.seq_k (fun K_h2 h2 => ?_)
      refine T.regi hm ?_
      simp only [↓reduceIte, namesOf, List.any, I.names, aopsI, astep, ev, setd, List.set, List.getD, List.getElem?_cons_zero, List.getElem?_cons_succ, then_normal, Option.getD_some, Bool.or_false, Bool.false_eq_true, up_zero]
      refine h2 _ _ ?_
      try clear h2 K_h2
      exact T.ret (Fin.retw rfl (Wk.tup2 (Wk.sl _ _)) ⟨by rw [hgc]; rfl, hS, hN⟩)
    · have hgc : getC left L k = 0 := by unfold getC; rw [if_neg c1, hg]; rfl
      refine T.cond (b := false) (by simp [ev, c1]) (fun h => by cases h) (fun _ => ?_)
      refine T.seq_k (fun K_h2 h2 => ?_)
      refine T.regi hm ?_
      simp only [↓reduceIte, namesOf, List.any, I.names, aopsI, astep, ev, setd, List.set, List.getD, List.getElem?_cons_zero, List.getElem?_cons_succ, then_normal, Option.getD_some, Bool.or_false, Bool.false_eq_true, up_zero]
      refine h2 _ _ ?_
      try clear h2 K_h2
      refine T.cond rfl (fun h => by cases h) (fun _ => T.skip ?_)
      try simp only [then_normal, inBlock_normal, inBlock_normal]
      refine h1 _ _ ?_
      try clear h1 K_h1
      refine T.seq_k (fun K_h1 h1 => ?_)
      refine T.regi hm ?_
      simp only [↓reduceIte, namesOf, List.any, I.names, aopsI, astep, ev, setd, List.set, List.getD, List.getElem?_cons_zero, List.getElem?_cons_succ, then_normal, Option.getD_some, Bool.or_false, Bool.false_eq_true, up_zero, List.map_cons, List.map_nil]
      refine (clone_q hbl (.inl ⟨_, rfl, by simp⟩)).mono ?_
      rintro w σ2 ⟨rfl, rfl⟩
      try simp only [↓reduceIte, namesOf, List.any, I.names, aops, aopsI, aopsT, qstep, CPt, qget, Tbl.get, astep, ev, setd, List.set, List.getD, List.getElem?_cons_zero, List.getElem?_cons_succ, List.getElem?_nil, List.cons_append, List.nil_append, List.length_cons, List.length_nil, List.replicate, then_normal, inBlock_normal, Option.getD_some, Option.getD_none, Bool.or_false, Bool.or_true, Bool.true_or, Bool.false_or, Bool.false_eq_true, if_false, if_true, up_zero, Nat.reduceAdd, Nat.reduceSub, binv, ↓opt_def, AV.isAny, AV.cells, ldc, List.map_cons, List.map_nil, St.set_next, St.set_same, St.up_next, Int.natCast_nonneg, lt_len, le_len, Int.toNat_natCast, true_and, and_true, eq_self, reduceCtorEq, decide_true, List.length_singleton, er_int, er_bool, er_str, srcR, up_zero]
      refine h1 _ _ ?_
      try clear h1 K_h1
      exact T.ret (Fin.ret rfl ⟨by simp only [hgc, hg, if_true, Option.getD_some]; rfl, hS, hN⟩)

end Go.VL

namespace Go.VL

open Go.Proofs

theorem get_put_same (k : ByteArray) (v : List UInt8) : ∀ L : Objs, getO k (putO k v L) = some v
  | [] => by simp [putO, getO]
  | e :: r => by
    unfold putO
    by_cases h : k = e.1
    · rw [if_pos h]; simp [getO]
    · rw [if_neg h, getO, if_neg h]; exact get_put_same k v r

theorem get_put_ne {k k' : ByteArray} (v : List UInt8) (hk : k ≠ k') : ∀ L : Objs, getO k (putO k' v L) = getO k L
  | [] => by simp [putO, getO, hk]
  | e :: r => by
    unfold putO
    by_cases h : k' = e.1
    · rw [if_pos h, getO, getO, if_neg hk, if_neg (h ▸ hk)]
    · rw [if_neg h, getO, getO]
      by_cases h2 : k = e.1
      · rw [if_pos h2, if_pos h2]
      · rw [if_neg h2, if_neg h2]; exact get_put_ne v hk r

theorem used_cons (e : ByteArray × List UInt8) (r : Objs) : usedO (e :: r) = e.2.length + usedO r := by simp [usedO]

theorem used_put (k : ByteArray) (v : List UInt8) : ∀ L : Objs, usedO (putO k v L) + sizeO k L = usedO L + v.length
  | [] => by simp [putO, usedO, sizeO, getO]
  | e :: r => by
    have ih := used_put k v r
    unfold putO; unfold sizeO at ih ⊢
    by_cases h : k = e.1
    · rw [if_pos h, getO, if_pos h, used_cons, used_cons]; simp only [Option.getD_some]; omega
    · rw [if_neg h, getO, if_neg h, used_cons, used_cons]; omega

theorem size_le (k : ByteArray) : ∀ L : Objs, sizeO k L ≤ usedO L
  | [] => by simp [sizeO, getO]
  | e :: r => by
    have ih := size_le k r
    unfold sizeO at *
    rw [used_cons]
    by_cases h : k = e.1
    · rw [getO, if_pos h]; simp
    · rw [getO, if_neg h]; omega

theorem get_le {k : ByteArray} {L : Objs} {b : List UInt8} (h : getO k L = some b) : b.length ≤ usedO L := by
  have := size_le k L
  unfold sizeO at this
  rw [h] at this; exact this

/-- a deed -/
structure Dd where
  what : Int
  name : ByteArray
  n : Int
  x : Int
  b : List UInt8

def Dd.av (d : Dd) : AV := .agg [.int .i64 d.what, .str d.name, .int .i64 d.n, .int .u8 d.x, .sl (bytesAV d.b) .none]

def Dd.ok (d : Dd) : Prop := (-9223372036854775808 ≤ d.what ∧ d.what ≤ 9223372036854775807) ∧ (-9223372036854775808 ≤ d.n ∧ d.n ≤ 9223372036854775807) ∧ (0 ≤ d.x ∧ d.x ≤ 255) ∧ d.name.size ≤ 9223372036854775807 ∧ d.b.length ≤ 9223372036854775807

end Go.VL

namespace Go.VL

open Go.Proofs

abbrev outBad (now ret : Int) : Prop := now < 0 ∨ now > 1099511627776 ∨ ret < 0 ∨ ret > 1099511627776

def outM (l : List Mt) (x : Int) : List Mt := l.filter fun m => decide (m.en ≤ x)

theorem out_len (l : List Mt) (x : Int) : (outM l x).length ≤ l.length := List.length_filter_le _ _

set_option maxRecDepth 10000 in
set_option maxHeartbeats 1000000 in
theorem plOut_ok {l : List Mt} {g : Ver} {now ret : Int} {σ : St} (hl : l.length ≤ 1000000) :
    ACalls Tryd.prog n_plOut [.sl (mtsAV l) g, .int .i64 now, .int .i64 ret] σ (fun v σ' => σ' = σ ∧ ((outBad now ret ∧ v = .tup [.sl [] .nil, .iface tCode (.int .i64 1)]) ∨ (¬ outBad now ret ∧ v = .tup [.sl (mtsAV (outM l (now - ret))) .none, .nili]))) := by
  refine s_plOut (fun wf => ?_)
  unfold c_plOut
  refine T.seq_k (fun K_h0 h0 => ?_)
  refine T.regi hm ?_
  simp only [↓reduceIte, namesOf, List.any, I.names, aopsI, astep, ev, setd, List.set, List.cons_append, List.nil_append, List.length_cons, List.length_nil, List.replicate, then_normal, Bool.or_false, Bool.false_eq_true, up_zero, Nat.reduceAdd, Nat.reduceSub]
  refine h0 _ _ ?_
  try clear h0 K_h0
  refine T.seq_k (fun K_h1 h1 => ?_)
  by_cases c1 : now < 0
  · have e1 : decide (now < 0) = true := decide_eq_true c1
    refine T.seq_k (fun K_h0 h0 => ?_)
    refine T.regi hm ?_
    simp only [↓reduceIte, namesOf, List.any, I.names, aopsI, astep, ev, setd, List.set, List.getD, List.getElem?_cons_zero, List.getElem?_cons_succ, then_normal, Option.getD_some, Bool.or_false, Bool.false_eq_true, up_zero, binv, ↓opt_def, eq_self, reduceCtorEq, e1]
    refine h0 _ _ ?_
    try clear h0 K_h0
    refine T.cond rfl (fun _ => ?_) (fun h => by cases h)
    refine T.seq_k (fun K_h0 h0 => ?_)
    refine T.regi hm ?_
    simp only [↓reduceIte, namesOf, List.any, I.names, aopsI, astep, ev, setd, List.set, List.getD, List.getElem?_cons_zero, List.getElem?_cons_succ, then_normal, Option.getD_some, Bool.or_false, Bool.false_eq_true, up_zero]
    refine h0 _ _ ?_
    try clear h0 K_h0
    exact T.ret (Fin.ret rfl ⟨rfl, .inl ⟨.inl c1, rfl⟩⟩)
  have e1 : decide (now < 0) = false := decide_eq_false c1
  by_cases c2 : now > 1099511627776
  · have e2 : decide (now > 1099511627776) = true := decide_eq_true c2
    refine T.seq_k (fun K_h0 h0 => ?_)
    refine T.regi hm ?_
    simp only [↓reduceIte, namesOf, List.any, I.names, aopsI, astep, ev, setd, List.set, List.getD, List.getElem?_cons_zero, List.getElem?_cons_succ, then_normal, Option.getD_some, Bool.or_false, Bool.false_eq_true, up_zero, binv, ↓opt_def, eq_self, reduceCtorEq, e1, e2]
    refine h0 _ _ ?_
    try clear h0 K_h0
    refine T.cond rfl (fun _ => ?_) (fun h => by cases h)
    refine T.seq_k (fun K_h0 h0 => ?_)
    refine T.regi hm ?_
    simp only [↓reduceIte, namesOf, List.any, I.names, aopsI, astep, ev, setd, List.set, List.getD, List.getElem?_cons_zero, List.getElem?_cons_succ, then_normal, Option.getD_some, Bool.or_false, Bool.false_eq_true, up_zero]
    refine h0 _ _ ?_
    try clear h0 K_h0
    exact T.ret (Fin.ret rfl ⟨rfl, .inl ⟨.inr (.inl c2), rfl⟩⟩)
  have e2 : decide (now > 1099511627776) = false := decide_eq_false c2
  by_cases c3 : ret < 0
  · have e3 : decide (ret < 0) = true := decide_eq_true c3
    refine T.seq_k (fun K_h0 h0 => ?_)
    refine T.regi hm ?_
    simp only [↓reduceIte, namesOf, List.any, I.names, aopsI, astep, ev, setd, List.set, List.getD, List.getElem?_cons_zero, List.getElem?_cons_succ, then_normal, Option.getD_some, Bool.or_false, Bool.false_eq_true, up_zero, binv, ↓opt_def, eq_self, reduceCtorEq, e1, e2, e3]
    refine h0 _ _ ?_
    try clear h0 K_h0
    refine T.cond rfl (fun _ => ?_) (fun h => by cases h)
    refine T.seq_k (fun K_h0 h0 => ?_)
    refine T.regi hm ?_
    simp only [↓reduceIte, namesOf, List.any, I.names, aopsI, astep, ev, setd, List.set, List.getD, List.getElem?_cons_zero, List.getElem?_cons_succ, then_normal, Option.getD_some, Bool.or_false, Bool.false_eq_true, up_zero]
    refine h0 _ _ ?_
    try clear h0 K_h0
    exact T.ret (Fin.ret rfl ⟨rfl, .inl ⟨.inr (.inr (.inl c3)), rfl⟩⟩)
  have e3 : decide (ret < 0) = false := decide_eq_false c3
  by_cases c4 : ret > 1099511627776
  · have e4 : decide (ret > 1099511627776) = true := decide_eq_true c4
    refine T.seq_k (fun K_h0 h0 => ?_)
    refine T.regi hm ?_
    simp only [↓reduceIte, namesOf, List.any, I.names, aopsI, astep, ev, setd, List.set, List.getD, List.getElem?_cons_zero, List.getElem?_cons_succ, then_normal, Option.getD_some, Bool.or_false, Bool.false_eq_true, up_zero, binv, ↓opt_def, eq_self, e1, e2, e3, e4]
    refine h0 _ _ ?_
    try clear h0 K_h0
    refine T.cond rfl (fun _ => ?_) (fun h => by cases h)
    refine T.seq_k (fun K_h0 h0 => ?_)
    refine T.regi hm ?_
    simp only [↓reduceIte, namesOf, List.any, I.names, aopsI, astep, ev, setd, List.set, List.getD, List.getElem?_cons_zero, List.getElem?_cons_succ, then_normal, Option.getD_some, Bool.or_false, Bool.false_eq_true, up_zero]
    refine h0 _ _ ?_
    try clear h0 K_h0
    exact T.ret (Fin.ret rfl ⟨rfl, .inl ⟨.inr (.inr (.inr c4)), rfl⟩⟩)
  have e4 : decide (ret > 1099511627776) = false := decide_eq_false c4
  have hbad : ¬ outBad now ret := by rintro (h | h | h | h) <;> omega
  refine T.seq_k (fun K_h0 h0 => ?_)
  refine T.regi hm ?_
  simp only [↓reduceIte, namesOf, List.any, I.names, aopsI, astep, ev, setd, List.set, List.getD, List.getElem?_cons_zero, List.getElem?_cons_succ, then_normal, Option.getD_some, Bool.or_false, Bool.false_eq_true, up_zero, binv, ↓opt_def, eq_self, e1, e2, e3, e4]
  refine h0 _ _ ?_
  try clear h0 K_h0
  refine T.cond rfl (fun h => by cases h) (fun _ => T.skip ?_)
  refine h1 _ _ ?_
  try clear h1 K_h1
  refine T.seq_k (fun K_h0 h0 => ?_)
  refine T.regi hm ?_
  simp only [↓reduceIte, namesOf, List.any, I.names, aopsI, astep, ev, setd, List.set, then_normal, Bool.or_false, Bool.false_eq_true, up_zero]
  refine h0 _ _ ?_
  try clear h0 K_h0
  refine T.seq_k (fun K_h1 h1 => ?_)
  refine T.seq_k (fun K_h0 h0 => ?_)
  refine T.regi hm ?_
  simp only [↓reduceIte, namesOf, List.any, I.names, aopsI, astep, ev, setd, List.set, List.getD, List.getElem?_cons_zero, List.getElem?_cons_succ, then_normal, Option.getD_some, Bool.or_false, Bool.false_eq_true, up_zero, mts_len]
  refine h0 _ _ ?_
  try clear h0 K_h0
  refine T.block ?_
  refine T.gh (Gh.keep [1, 2, 8, 26, 27, 28]) ?_
  refine T.loopi (fun i ρ t => ∃ v G, AccG σ t 6 (mtsAV (outM (l.take i) (now - ret))) (.sl (mtsAV (outM (l.take i) (now - ret))) v) G ∧
      ρ = [.any, .int .i64 now, .int .i64 ret, .any, .any, .any, .any, .any, .sl (mtsAV (outM (l.take i) (now - ret))) v] ++ List.replicate 17 .any ++ [.sl (mtsAV l) g, .int .i64 (l.length : Int), .int .i64 (i : Int)] ++ List.replicate 15 .any)
    l.length 0 (Nat.zero_le _) ⟨.nil, none, .nil (.refl _), rfl⟩ ?_
  rintro i ρ t hi ⟨v, G, hA, rfl⟩
  refine T.seq_k (fun K_h0 h0 => ?_)
  refine T.regi hm ?_
  simp only [↓reduceIte, namesOf, List.any, I.names, aopsI, astep, ev, setd, List.set, List.getD, List.getElem?_cons_zero, List.getElem?_cons_succ, List.cons_append, List.nil_append, List.replicate, then_normal, Option.getD_some, Bool.or_false, Bool.false_eq_true, up_zero, binv, ↓opt_def, lt_len, eq_self]
  refine h0 _ _ ?_
  try clear h0 K_h0
  refine T.seq_k (fun K_h2 h2 => ?_)
  by_cases hil : i < l.length
  case neg =>
    refine T.cond (b := false) (by simp [ev]; omega) (fun h => by cases h) (fun _ => T.exit ?_)
    have hie : i = l.length := by omega
    subst hie
    rw [List.take_length] at hA ⊢
    try simp only [List.cons_append, List.nil_append, List.replicate, then_normal, inBlock_exit, then_exit]
    refine h1 _ _ ?_
    try clear h1 K_h1
    refine T.seq_k (fun K_h0 h0 => ?_)
    refine T.regi hm ?_
    simp only [↓reduceIte, namesOf, List.any, I.names, aopsI, astep, ev, setd, List.set, List.getD, List.getElem?_cons_zero, List.getElem?_cons_succ, then_normal, Option.getD_some, Bool.or_false, Bool.false_eq_true, up_zero]
    refine h0 _ _ ?_
    try clear h0 K_h0
    exact T.ret (Fin.quietw rfl (Wk.tup2 (Wk.sl _ _)) ⟨⟨mts_nb _ _, trivial⟩, trivial, trivial⟩ (hA.quiet wf) ⟨rfl, .inr ⟨hbad, rfl⟩⟩)
  refine T.cond (b := true) (by simp [ev]; omega) (fun _ => T.skip ?_) (fun h => by cases h)
  refine h2 _ _ ?_
  try clear h2 K_h2
  obtain ⟨x, hx⟩ : ∃ x, l[i]? = some x := ⟨_, List.getElem?_eq_getElem hil⟩
  have hgx := mts_get hx
  have hw := inc64' hil (by omega)
  have hts : outM (l.take (i + 1)) (now - ret) = outM (l.take i) (now - ret) ++ if x.en ≤ now - ret then [x] else [] := by
    unfold outM
    rw [List.take_succ_eq_append_getElem hil, List.filter_append]
    have : l[i] = x := by rw [List.getElem?_eq_getElem hil] at hx; cases hx; rfl
    rw [this]
    by_cases h9 : x.en ≤ now - ret
    · rw [if_pos h9, List.filter_cons_of_pos (p := fun (m : Mt) => decide (m.en ≤ now - ret)) (decide_eq_true h9)]; rfl
    · rw [if_neg h9, List.filter_cons_of_neg (p := fun (m : Mt) => decide (m.en ≤ now - ret)) (by simpa using h9)]; rfl
  have hol : (outM (l.take i) (now - ret)).length ≤ 1000000 := Nat.le_trans (out_len _ _) (Nat.le_trans (List.length_take_le' _ _) hl)
  generalize hO : outM (l.take i) (now - ret) = out at hA hts hol ⊢
  refine T.seq_k (fun K_h3 h3 => ?_)
  refine T.block ?_
  refine T.seq_k (fun K_h0 h0 => ?_)
  refine T.regi hm ?_
  simp only [↓reduceIte, namesOf, List.any, I.names, aopsI, astep, ev, setd, List.set, List.getD, List.getElem?_cons_zero, List.getElem?_cons_succ, List.cons_append, List.nil_append, List.length_cons, List.length_nil, List.replicate, then_normal, Option.getD_some, Bool.or_false, Bool.or_true, Nat.reduceAdd, ↓opt_def, AV.isAny, AV.cells, ldc, St.set_same, Int.natCast_nonneg, lt_len, Int.toNat_natCast, true_and, and_true, eq_self, decide_true, hil, mts_len, hgx, AV.fits, AV.one, List.all_cons, List.all_nil, Nat.reduceBEq, Bool.not_false, Bool.and_self, Nat.zero_add, splice, List.take, List.drop, Nat.reduceLeDiff, St.set_set]
  refine h0 _ _ ?_
  try clear h0 K_h0
  have hA1 : AccG σ ((t.up 4).set (t.next + 2) (.obj (mtC x))) 6 (mtsAV out) (.sl (mtsAV out) v) G := hA.box (n := 4) (i := 2) (by omega) _
  have hb : ((t.up 4).set (t.next + 2) (.obj (mtC x))).res (t.next + 2) = some (.obj (mtC x)) := St.set_same _ _ _
  generalize ((t.up 4).set (t.next + 2) (.obj (mtC x))) = u at hA1 hb ⊢
  generalize t.next + 2 = b at hb ⊢
  clear hA
  have ws : IntKind.i64.wrap (now - ret) = now - ret := wrap64 (by omega) (by omega)
  refine T.seq_k (fun K_h4 h4 => ?_)
  by_cases hle : x.en ≤ now - ret
  case neg =>
    have f1 : decide (x.en ≤ now - ret) = false := decide_eq_false hle
    refine T.regi hm ?_
    simp only [↓reduceIte, namesOf, List.any, I.names, aopsI, astep, ev, setd, List.set, List.getD, List.getElem?_cons_zero, List.getElem?_cons_succ, List.cons_append, List.nil_append, List.replicate, then_normal, Option.getD_some, Bool.or_false, Bool.false_eq_true, up_zero, binv, ↓opt_def, ldc, eq_self, hb, Nat.zero_add, ws, f1]
    refine h4 _ _ ?_
    try clear h4 K_h4
    refine T.cond rfl (fun h => by cases h) (fun _ => T.skip ?_)
    try simp only [List.cons_append, List.nil_append, List.replicate, then_normal, inBlock_normal, inBlock_normal]
    refine h3 _ _ ?_
    try clear h3 K_h3
    refine T.regi hm ?_
    simp only [↓reduceIte, namesOf, List.any, I.names, aopsI, astep, ev, setd, List.set, List.getD, List.getElem?_cons_zero, List.getElem?_cons_succ, List.cons_append, List.nil_append, List.replicate, then_normal, Option.getD_some, Bool.or_false, Bool.false_eq_true, up_zero, binv, ↓opt_def, eq_self, hw]
    exact ⟨hil, _, _, Gh.keep [1, 2, 8, 26, 27, 28], v, G, by rw [hts, if_neg hle, List.append_nil]; exact hA1, by rw [hts, if_neg hle, List.append_nil]; rfl⟩
  have f1 : decide (x.en ≤ now - ret) = true := decide_eq_true hle
  rw [if_pos hle] at hts
  refine T.regi hm ?_
  simp only [↓reduceIte, namesOf, List.any, I.names, aopsI, astep, ev, setd, List.set, List.getD, List.getElem?_cons_zero, List.getElem?_cons_succ, List.cons_append, List.nil_append, List.replicate, then_normal, Option.getD_some, Bool.or_false, Bool.false_eq_true, up_zero, binv, ↓opt_def, ldc, eq_self, hb, Nat.zero_add, ws, f1]
  refine h4 _ _ ?_
  try clear h4 K_h4
  refine T.cond rfl (fun _ => ?_) (fun h => by cases h)
  have hend : ∀ t' g', AccG σ t' 6 (mtsAV (out ++ [x])) (.sl (mtsAV (out ++ [x])) (.tip g')) (some g') → ∀ ρ', keep [1, 2, 8, 26, 27, 28] 0 ρ' = [.any, .int .i64 now, .int .i64 ret, .any, .any, .any, .any, .any, .sl (mtsAV (out ++ [x])) (.tip g')] ++ List.replicate 17 .any ++ [.sl (mtsAV l) g, .int .i64 (l.length : Int), .int .i64 (i : Int)] ++ List.replicate 15 .any → K_h3 ρ' t' := by
    intro t' g' hA' ρ' hk
    refine h3 _ _ ?_
    refine T.gh (Gh.keep [1, 2, 8, 26, 27, 28]) ?_
    rw [hk]
    refine T.regi hm ?_
    simp only [↓reduceIte, namesOf, List.any, I.names, aopsI, astep, ev, setd, List.set, List.getD, List.getElem?_cons_zero, List.getElem?_cons_succ, List.cons_append, List.nil_append, List.replicate, then_normal, Option.getD_some, Bool.or_false, Bool.false_eq_true, up_zero, binv, ↓opt_def, eq_self, hw]
    exact ⟨hil, _, _, Gh.keep [1, 2, 8, 26, 27, 28], .tip g', some g', by rw [hts]; exact hA', by rw [hts]; rfl⟩
  have happ : mtsAV out ++ [.agg [.int .u64 (x.id : Int), .int .i64 x.level, .int .i64 x.st, .int .i64 x.en, .int .i64 x.pages, .int .i64 x.traces]] = mtsAV (out ++ [x]) := by simp [mtsAV]
  have hbu : ∀ k, (u.up k).res b = some (.obj (mtC x)) := fun _ => hb
  have hb2 : (out.length + 1) * 48 ≤ 70368744177664 := by omega
  have hb3 : out.length + 1 ≤ 4611686018427387904 := by omega
  cases G with
  | none =>
    obtain ⟨hx1, hx2, hLi⟩ := hA1
    obtain rfl : out = [] := by cases out with
      | nil => rfl
      | cons a r => simp [mtsAV] at hx2
    obtain rfl : v = .nil := by cases hx1; rfl
    have hm0 : mtsAV ([] : List Mt) = [] := rfl
    refine T.regi hm ?_
    simp only [↓reduceIte, namesOf, List.any, I.names, aopsI, astep, ev, setd, List.set, List.getD, List.getElem?_cons_zero, List.getElem?_cons_succ, List.cons_append, List.nil_append, List.length_cons, List.length_nil, List.replicate, then_normal, inBlock_normal, Option.getD_some, Bool.or_false, Bool.or_true, Bool.false_eq_true, Nat.reduceAdd, ↓opt_def, AV.isAny, AV.cells, ldc, List.map_cons, List.map_nil, eq_self, decide_true, hm0, hbu, held, srcOf, AV.er, AV.er1, AV.fits, AV.one, List.all_cons, List.all_nil, Nat.reduceBEq, Bool.not_false, Bool.and_self, Nat.zero_add, List.take, List.drop, Nat.reduceLeDiff, Nat.one_mul, and_self, List.isEmpty]
    try simp only [↓reduceIte, namesOf, List.any, I.names, aops, aopsI, aopsT, qstep, CPt, qget, Tbl.get, astep, ev, setd, List.set, List.getD, List.getElem?_cons_zero, List.getElem?_cons_succ, List.getElem?_nil, List.cons_append, List.nil_append, List.length_cons, List.length_nil, List.replicate, then_normal, inBlock_normal, Option.getD_some, Option.getD_none, Bool.or_false, Bool.or_true, Bool.true_or, Bool.false_or, Bool.false_eq_true, if_false, if_true, up_zero, Nat.reduceAdd, Nat.reduceSub, binv, ↓opt_def, AV.isAny, AV.cells, ldc, List.map_cons, List.map_nil, St.set_next, St.set_same, St.up_next, Int.natCast_nonneg, lt_len, le_len, Int.toNat_natCast, true_and, and_true, eq_self, reduceCtorEq, decide_true, List.length_singleton, er_int, er_bool, er_str, srcR, inBlock_normal]
    exact hend _ (u.next + 3) (.of_tip ⟨hLi.box (n := 5) (i := 3) _, St.set_same _ _ _, by have := hLi.next; omega, by simp⟩) _ rfl
  | some g0 =>
    obtain ⟨hx1, hTq⟩ := hA1
    obtain rfl : v = .tip g0 := by cases hx1; rfl
    have hru : ∀ k, (u.up k).res g0 = some (.tip 6) := fun _ => hTq.at_
    have hfit := mts_fits (out ++ [x])
    refine T.regi hm ?_
    simp only [↓reduceIte, namesOf, List.any, I.names, aopsI, astep, ev, setd, List.set, List.getD, List.getElem?_cons_zero, List.getElem?_cons_succ, List.cons_append, List.nil_append, List.length_cons, List.length_nil, List.replicate, then_normal, inBlock_normal, Option.getD_some, Bool.or_false, Bool.or_true, Nat.reduceAdd, ↓opt_def, AV.isAny, AV.cells, ldc, List.map_cons, List.map_nil, eq_self, decide_true, hbu, mts_len, held, srcOf, AV.er, AV.er1, hru, happ, hfit, hb2, hb3, AV.fits, AV.one, List.all_cons, List.all_nil, Nat.reduceBEq, Bool.not_false, Bool.and_self, Nat.zero_add, List.take, List.drop, Nat.reduceLeDiff, and_self]
    try simp only [↓reduceIte, namesOf, List.any, I.names, aops, aopsI, aopsT, qstep, CPt, qget, Tbl.get, astep, ev, setd, List.set, List.getD, List.getElem?_cons_zero, List.getElem?_cons_succ, List.getElem?_nil, List.cons_append, List.nil_append, List.length_cons, List.length_nil, List.replicate, then_normal, inBlock_normal, Option.getD_some, Option.getD_none, Bool.or_false, Bool.or_true, Bool.true_or, Bool.false_or, Bool.false_eq_true, if_false, if_true, up_zero, Nat.reduceAdd, Nat.reduceSub, binv, ↓opt_def, AV.isAny, AV.cells, ldc, List.map_cons, List.map_nil, St.set_next, St.set_same, St.up_next, Int.natCast_nonneg, lt_len, le_len, Int.toNat_natCast, true_and, and_true, eq_self, reduceCtorEq, decide_true, List.length_singleton, er_int, er_bool, er_str, srcR, inBlock_normal]
    exact hend _ (u.next + 3) (.of_tip ⟨((hTq.like.up 5).del hTq.lo).set _ (by have := hTq.like.next; omega), St.set_same _ _ _, by have := hTq.like.next; omega, by simp⟩) _ rfl

theorem exMark1_ok {m : Mt} {σ : St} : ACalls Tryd.prog n_exMark1 [.agg [.int .u64 (m.id : Int), .int .i64 m.level, .int .i64 m.st, .int .i64 m.en, .int .i64 m.pages, .int .i64 m.traces]] σ (fun v σ' => v = .bool (!decide (mayM m)) ∧ σ' = σ) := by
  refine s_exMark1 (fun wf => ?_)
  unfold c_exMark1
  refine T.seq_k (fun K_h0 h0 => ?_)
  refine T.regi hm ?_
  simp only [↓reduceIte, namesOf, List.any, I.names, aopsI, astep, ev, setd, List.set, List.getD, List.getElem?_cons_zero, List.cons_append, List.nil_append, List.length_cons, List.length_nil, List.replicate, then_normal, Option.getD_some, Bool.or_false, Bool.false_eq_true, Nat.reduceAdd, Nat.reduceSub, AV.isAny, AV.cells, eq_self]
  refine h0 _ _ ?_
  try clear h0 K_h0
  have hb : ((σ.up 2).set (σ.next + 0) (.obj (mtC m))).res (σ.next + 0) = some (.obj (mtC m)) := St.set_same _ _ _
  have hL : Like σ ((σ.up 2).set (σ.next + 0) (.obj (mtC m))) := (Like.refl σ).box (n := 2) (i := 0) _
  generalize ((σ.up 2).set (σ.next + 0) (.obj (mtC m))) = t at hb hL ⊢
  generalize σ.next + 0 = b at hb ⊢
  refine T.seq_k (fun K_h1 h1 => ?_)
  refine T.regi hm ?_
  simp only [↓reduceIte, namesOf, List.any, I.names, aopsI, astep, ev, setd, List.set, List.getD, List.getElem?_cons_zero, List.getElem?_cons_succ, List.length_cons, List.length_nil, then_normal, Option.getD_some, Bool.or_false, Bool.false_eq_true, up_zero, Nat.reduceAdd, ↓opt_def, ldc, List.map_cons, List.map_nil, hb, Nat.zero_add, Nat.zero_add, List.take, List.drop, Nat.reduceLeDiff]
  refine mMay_ok.mono ?_
  rintro v σ1 ⟨rfl, rfl⟩
  try simp only []
  refine h1 _ _ ?_
  try clear h1 K_h1
  exact T.ret (Fin.quiet rfl trivial (hL.quiet wf) ⟨rfl, rfl⟩)

set_option maxRecDepth 10000 in
theorem midxF_ok {l : List Mt} {g : Ver} {σ : St} (hl : l.length ≤ 1000000) : ACalls Tryd.prog n_midxF [.sl (mtsAV l) g, .func n_exMark1 [] []] σ
    (fun v σ' => (∃ r : Int, v = .int .i64 r ∧ decide (r ≥ 0) = !decide (∀ m ∈ l, mayM m)) ∧ σ' = σ) := by
  refine s_midxF (fun wf => ?_)
  unfold c_midxF
  refine T.seq_k (fun K_h0 h0 => ?_)
  refine T.regi hm ?_
  simp only [↓reduceIte, namesOf, List.any, I.names, aopsI, astep, ev, setd, List.set, List.cons_append, List.nil_append, List.length_cons, List.length_nil, List.replicate, then_normal, Bool.or_false, Bool.false_eq_true, up_zero, Nat.reduceAdd, Nat.reduceSub]
  refine h0 _ _ ?_
  try clear h0 K_h0
  refine T.seq_k (fun K_h1 h1 => ?_)
  refine T.seq_k (fun K_h0 h0 => ?_)
  refine T.regi hm ?_
  simp only [↓reduceIte, namesOf, List.any, I.names, aopsI, astep, ev, setd, List.set, List.getD, List.getElem?_cons_zero, List.getElem?_cons_succ, then_normal, Option.getD_some, Bool.or_false, Bool.false_eq_true, up_zero, mts_len]
  refine h0 _ _ ?_
  try clear h0 K_h0
  refine T.block ?_
  refine T.gh (Gh.keep [0, 1, 7, 8]) ?_
  refine T.loopi (fun i ρ t => t = σ ∧ (∀ m ∈ l.take i, mayM m) ∧ ρ = [.sl (mtsAV l) g, .func n_exMark1 [] [], .any, .any, .any, .any, .any, .int .i64 (l.length : Int), .int .i64 (i : Int)] ++ List.replicate 10 .any)
    l.length 0 (Nat.zero_le _) ⟨rfl, by simp, rfl⟩ ?_
  rintro i ρ t hi ⟨rfl, hpre, rfl⟩
  refine T.seq_k (fun K_h0 h0 => ?_)
  refine T.regi hm ?_
  simp only [↓reduceIte, namesOf, List.any, I.names, aopsI, astep, ev, setd, List.set, List.getD, List.getElem?_cons_zero, List.getElem?_cons_succ, List.cons_append, List.nil_append, List.replicate, then_normal, Option.getD_some, Bool.or_false, Bool.false_eq_true, up_zero, binv, ↓opt_def, lt_len, eq_self]
  refine h0 _ _ ?_
  try clear h0 K_h0
  refine T.seq_k (fun K_h2 h2 => ?_)
  by_cases hil : i < l.length
  case neg =>
    refine T.cond (b := false) (by simp [ev]; omega) (fun h => by cases h) (fun _ => T.exit ?_)
    have hie : i = l.length := by omega
    subst hie
    rw [List.take_length] at hpre
    try simp only [List.cons_append, List.nil_append, List.replicate, then_normal, inBlock_exit, then_exit]
    refine h1 _ _ ?_
    try clear h1 K_h1
    refine T.seq_k (fun K_h0 h0 => ?_)
    refine T.regi hm ?_
    simp only [↓reduceIte, namesOf, List.any, I.names, aopsI, astep, ev, setd, List.set, then_normal, Bool.or_false, Bool.false_eq_true, up_zero]
    refine h0 _ _ ?_
    try clear h0 K_h0
    exact T.ret (Fin.ret rfl ⟨⟨-1, rfl, by rw [decide_eq_true hpre]; rfl⟩, rfl⟩)
  refine T.cond (b := true) (by simp [ev]; omega) (fun _ => T.skip ?_) (fun h => by cases h)
  refine h2 _ _ ?_
  try clear h2 K_h2
  obtain ⟨x, hx⟩ : ∃ x, l[i]? = some x := ⟨_, List.getElem?_eq_getElem hil⟩
  have hgx := mts_get hx
  have hw := inc64' hil (by omega)
  refine T.seq_k (fun K_h3 h3 => ?_)
  refine T.block ?_
  refine T.seq_k (fun K_h0 h0 => ?_)
  refine T.regi hm ?_
  simp only [↓reduceIte, namesOf, List.any, I.names, aopsI, astep, ev, setd, List.set, List.getD, List.getElem?_cons_zero, List.getElem?_cons_succ, List.cons_append, List.nil_append, List.replicate, then_normal, Option.getD_some, Bool.or_false, Bool.false_eq_true, up_zero]
  refine h0 _ _ ?_
  try clear h0 K_h0
  refine T.seq_k (fun K_h4 h4 => ?_)
  refine T.regi hm ?_
  simp only [↓reduceIte, namesOf, List.any, I.names, aopsI, astep, ev, setd, List.set, List.getD, List.getElem?_cons_zero, List.getElem?_cons_succ, List.cons_append, List.nil_append, List.length_cons, List.length_nil, List.replicate, then_normal, Option.getD_some, Bool.or_false, Bool.false_eq_true, up_zero, Nat.reduceAdd, ↓opt_def, AV.cells, ldc, List.map_cons, List.map_nil, Int.natCast_nonneg, lt_len, Int.toNat_natCast, true_and, and_true, eq_self, decide_true, hil, mts_len, hgx, Nat.zero_add, List.take, List.drop, Nat.reduceLeDiff]
  refine exMark1_ok.mono ?_
  rintro v σ1 ⟨rfl, rfl⟩
  try simp only [↓reduceIte, namesOf, List.any, I.names, aops, aopsI, aopsT, qstep, CPt, qget, Tbl.get, astep, ev, setd, List.set, List.getD, List.getElem?_cons_zero, List.getElem?_cons_succ, List.getElem?_nil, List.cons_append, List.nil_append, List.length_cons, List.length_nil, List.replicate, then_normal, inBlock_normal, Option.getD_some, Option.getD_none, Bool.or_false, Bool.or_true, Bool.true_or, Bool.false_or, Bool.false_eq_true, if_false, if_true, up_zero, Nat.reduceAdd, Nat.reduceSub, binv, ↓opt_def, AV.isAny, AV.cells, ldc, List.map_cons, List.map_nil, St.set_next, St.set_same, St.up_next, Int.natCast_nonneg, lt_len, le_len, Int.toNat_natCast, true_and, and_true, eq_self, reduceCtorEq, decide_true, List.length_singleton, er_int, er_bool, er_str, srcR, up_zero]
  refine h4 _ _ ?_
  try clear h4 K_h4
  by_cases hmx : mayM x
  · have e1 : (!decide (mayM x)) = false := by rw [decide_eq_true hmx]; rfl
    rw [e1]
    refine T.cond rfl (fun h => by cases h) (fun _ => T.skip ?_)
    try simp only [List.cons_append, List.nil_append, List.replicate, then_normal, inBlock_normal, inBlock_normal]
    refine h3 _ _ ?_
    try clear h3 K_h3
    refine T.regi hm ?_
    simp only [↓reduceIte, namesOf, List.any, I.names, aopsI, astep, ev, setd, List.set, List.getD, List.getElem?_cons_zero, List.getElem?_cons_succ, List.cons_append, List.nil_append, List.replicate, then_normal, Option.getD_some, Bool.or_false, Bool.false_eq_true, up_zero, binv, ↓opt_def, eq_self, hw]
    refine ⟨hil, _, _, Gh.keep [0, 1, 7, 8], rfl, fun m hmm => ?_, rfl⟩
    rw [List.take_succ_eq_append_getElem hil, List.mem_append] at hmm
    rcases hmm with h | h
    · exact hpre m h
    · rw [List.mem_singleton] at h
      rw [List.getElem?_eq_getElem hil] at hx
      cases hx
      subst h; exact hmx
  · have e1 : (!decide (mayM x)) = true := by rw [decide_eq_false hmx]; rfl
    rw [e1]
    refine T.cond rfl (fun _ => ?_) (fun h => by cases h)
    refine T.seq_k (fun K_h0 h0 => ?_)
    refine T.regi hm ?_
    simp only [↓reduceIte, namesOf, List.any, I.names, aopsI, astep, ev, setd, List.set, List.getD, List.getElem?_cons_zero, List.getElem?_cons_succ, List.cons_append, List.nil_append, List.replicate, then_normal, Option.getD_some, Bool.or_false, Bool.false_eq_true, up_zero]
    refine h0 _ _ ?_
    try clear h0 K_h0
    have hno : ¬ ∀ m ∈ l, mayM m := fun h => hmx (h x (List.mem_of_getElem? hx))
    exact T.ret (Fin.ret rfl ⟨⟨(i : Int), rfl, by rw [decide_eq_false hno]; simp⟩, rfl⟩)

theorem mcontF_ok {l : List Mt} {g : Ver} {σ : St} (hl : l.length ≤ 1000000) : ACalls Tryd.prog n_mcontF [.sl (mtsAV l) g, .func n_exMark1 [] []] σ
    (fun v σ' => v = .bool (!decide (∀ m ∈ l, mayM m)) ∧ σ' = σ) := by
  refine s_mcontF (fun wf => ?_)
  unfold c_mcontF
  refine T.seq_k (fun K_h0 h0 => ?_)
  refine T.regi hm ?_
  simp only [↓reduceIte, namesOf, List.any, I.names, aopsI, astep, ev, setd, List.set, List.cons_append, List.nil_append, List.length_cons, List.length_nil, List.replicate, then_normal, Bool.or_false, Bool.false_eq_true, up_zero, Nat.reduceAdd, Nat.reduceSub]
  refine h0 _ _ ?_
  try clear h0 K_h0
  refine T.seq_k (fun K_h1 h1 => ?_)
  refine T.regi hm ?_
  simp only [↓reduceIte, namesOf, List.any, I.names, aopsI, astep, ev, setd, List.set, List.getD, List.getElem?_cons_zero, List.getElem?_cons_succ, then_normal, Option.getD_some, Bool.or_false, Bool.false_eq_true, up_zero, binv, ↓opt_def, List.map_cons, List.map_nil]
  refine (midxF_ok hl).mono ?_
  rintro v σ1 ⟨⟨r, rfl, hr⟩, rfl⟩
  try simp only [↓reduceIte, eq_self, hr]
  refine h1 _ _ ?_
  try clear h1 K_h1
  exact T.ret (Fin.ret rfl ⟨rfl, rfl⟩)

end Go.VL

namespace Go.VL

open Go.Proofs

def nmX (id : Nat) : ByteArray := ⟨(nmF id [120] 0).toArray⟩

/-- how many are marked, an error's number, and what comes of the store -/
def exF (room now : Int) : List Mt → Int → Int → Objs → Nat × Int × Int × Int × Objs
  | [], left, calls, L => (0, 0, left, calls, L)
  | m :: r, left, calls, L =>
    if putC room left L (nmX m.id) (markB ⟨m.id, now, 0⟩) = 0 then
      let q := exF room now r (leftB left) (calls + 1) (putO (nmX m.id) (markB ⟨m.id, now, 0⟩) L)
      (q.1 + 1, q.2)
    else (0, putC room left L (nmX m.id) (markB ⟨m.id, now, 0⟩), leftB left, calls + 1, L)

theorem exF_app {room now : Int} {b : List Mt} : ∀ {a : List Mt} {left calls left' calls' : Int} {L L' : Objs}, exF room now a left calls L = (a.length, 0, left', calls', L') →
    exF room now (a ++ b) left calls L = (a.length + (exF room now b left' calls' L').1, (exF room now b left' calls' L').2)
  | [], left, calls, left', calls', L, L', h => by
    simp only [exF, Prod.mk.injEq] at h
    obtain ⟨_, _, rfl, rfl, rfl⟩ := h
    simp
  | m :: a, left, calls, left', calls', L, L', h => by
    rw [exF] at h
    split at h
    · rename_i hc
      have h1 := Prod.mk.inj h
      have e : exF room now a (leftB left) (calls + 1) (putO (nmX m.id) (markB ⟨m.id, now, 0⟩) L) = (a.length, 0, left', calls', L') :=
        Prod.ext (by have := h1.1; rw [List.length_cons] at this; show _ = a.length; omega) h1.2
      rw [List.cons_append, exF, if_pos hc, exF_app e]
      exact Prod.ext (by rw [List.length_cons]; show a.length + _ + 1 = a.length + 1 + _; omega) rfl
    · have h1 := (Prod.mk.inj h).1
      rw [List.length_cons] at h1
      omega

theorem mark_len (k : Mk) : (markB k).length = 28 := by
  unfold markB sealB
  rw [List.length_append, w8s_len, beB_len]; rfl

theorem sz_nmX (id : Nat) : (nmX id).size = 20 := by
  unfold nmX nmF
  rw [sz_mk, if_neg (by decide), if_pos (by simp)]
  simp [head_len]

theorem putC_used {room left : Int} {L : Objs} {k : ByteArray} {b : List UInt8} (hr : 0 ≤ room) (h : putC room left L k b = 0) (hu : (usedO L : Int) ≤ room) : (usedO (putO k b L) : Int) ≤ room := by
  have h1 := used_put k b L
  have h2 := size_le k L
  unfold putC at h
  split at h
  · omega
  · split at h
    · omega
    · split at h
      · omega
      · omega

theorem Nx.tabs {σ t : St} {p m : Nat} {room left calls : Int} {L : Objs} (hN : Nx σ t p m) (hT : Tabs σ) (h : StS σ p m room left calls L) : Tabs t := by
  refine ⟨hN.old _ _ ?_ ?_ hT.p10, hN.old _ _ ?_ ?_ hT.d64⟩
  · rintro rfl; have := h.obj; rw [hT.p10] at this; cases this
  · rintro rfl; obtain ⟨ts, clk, h1, _⟩ := h.map; rw [hT.p10] at h1; cases h1
  · rintro rfl; have := h.obj; rw [hT.d64] at this; cases this
  · rintro rfl; obtain ⟨ts, clk, h1, _⟩ := h.map; rw [hT.d64] at h1; cases h1

set_option maxRecDepth 10000 in
set_option maxHeartbeats 2000000 in
theorem exMark_ok {p m : Nat} {room left calls now ret : Int} {L : Objs} {l : List Mt} {g : Ver} {σ : St} (hT : Tabs σ) (h : StS σ p m room left calls L) (hlt : p < σ.next ∧ m < σ.next) (hlf : -1 ≤ left ∧ left ≤ 9223372036854775807) (hc : 0 ≤ calls ∧ calls ≤ 1000000000)
    (hr : 0 ≤ room ∧ room ≤ 1048576) (hu : (usedO L : Int) ≤ room) (hl : l.length ≤ 1000000) (hid : ∀ x ∈ l, x.id < 18446744073709551616) :
    ACalls Tryd.prog n_exMark [.ptr p 0, .sl (mtsAV l) g, .int .i64 now, .int .i64 ret] σ (fun v σ' =>
      ((¬ (∀ x ∈ l, mayM x) ∨ outBad now ret) ∧ v = .tup [.int .i64 0, .iface tCode (.int .i64 1)] ∧ σ' = σ) ∨
      ((∀ x ∈ l, mayM x) ∧ ¬ outBad now ret ∧ ∃ n c left' calls' L', exF room now (outM l (now - ret)) left calls L = (n, c, left', calls', L') ∧ v = .tup [.int .i64 (n : Int), errAV c] ∧
        StS σ' p m room left' calls' L' ∧ Nx σ σ' p m ∧ (-1 ≤ left' ∧ left' ≤ 9223372036854775807) ∧ (0 ≤ calls' ∧ calls' ≤ calls + l.length) ∧ (usedO L' : Int) ≤ room)) := by
  refine s_exMark (fun wf => ?_)
  unfold c_exMark
  refine T.seq_k (fun K_h0 h0 => ?_)
  refine T.regi hm ?_
  simp only [↓reduceIte, namesOf, List.any, I.names, aopsI, astep, ev, setd, List.set, List.cons_append, List.nil_append, List.length_cons, List.length_nil, List.replicate, then_normal, Bool.or_false, Bool.false_eq_true, up_zero, Nat.reduceAdd, Nat.reduceSub]
  refine h0 _ _ ?_
  try clear h0 K_h0
  refine T.seq_k (fun K_h0 h0 => ?_)
  refine T.regi hm ?_
  simp only [↓reduceIte, namesOf, List.any, I.names, aopsI, astep, ev, setd, List.set, then_normal, Bool.or_false, Bool.false_eq_true, up_zero]
  refine h0 _ _ ?_
  try clear h0 K_h0
  refine T.seq_k (fun K_h1 h1 => ?_)
  have hnp : eqPv (.ptr p 0) .nilp = some false := rfl
  refine T.seq_k (fun K_h2 h2 => ?_)
  refine T.regi hm ?_
  simp only [↓reduceIte, namesOf, List.any, I.names, aopsI, astep, ev, setd, List.set, List.getD, List.getElem?_cons_zero, List.getElem?_cons_succ, then_normal, Option.getD_some, Bool.or_false, Bool.false_eq_true, up_zero, List.map_cons, List.map_nil, eq_self, hnp, Bool.bne_false]
  refine (mcontF_ok hl).mono ?_
  rintro v σ1 ⟨rfl, rfl⟩
  try simp only [↓reduceIte, namesOf, List.any, I.names, aops, aopsI, aopsT, qstep, CPt, qget, Tbl.get, astep, ev, setd, List.set, List.getD, List.getElem?_cons_zero, List.getElem?_cons_succ, List.getElem?_nil, List.cons_append, List.nil_append, List.length_cons, List.length_nil, List.replicate, then_normal, inBlock_normal, Option.getD_some, Option.getD_none, Bool.or_false, Bool.or_true, Bool.true_or, Bool.false_or, Bool.false_eq_true, if_false, if_true, up_zero, Nat.reduceAdd, Nat.reduceSub, binv, ↓opt_def, AV.isAny, AV.cells, ldc, List.map_cons, List.map_nil, St.set_next, St.set_same, St.up_next, Int.natCast_nonneg, lt_len, le_len, Int.toNat_natCast, true_and, and_true, eq_self, reduceCtorEq, decide_true, List.length_singleton, er_int, er_bool, er_str, srcR, up_zero]
  refine h2 _ _ ?_
  try clear h2 K_h2
  by_cases hmay : ∀ x ∈ l, mayM x
  case neg =>
    have e1 : (!decide (∀ x ∈ l, mayM x)) = true := by rw [decide_eq_false hmay]; rfl
    rw [e1]
    refine T.cond rfl (fun _ => ?_) (fun h => by cases h)
    refine T.seq_k (fun K_h0 h0 => ?_)
    refine T.regi hm ?_
    simp only [↓reduceIte, namesOf, List.any, I.names, aopsI, astep, ev, setd, List.set, List.getD, List.getElem?_cons_zero, List.getElem?_cons_succ, then_normal, Option.getD_some, Bool.or_false, Bool.false_eq_true, up_zero]
    refine h0 _ _ ?_
    try clear h0 K_h0
    exact T.ret (Fin.ret rfl (.inl ⟨.inl hmay, rfl, rfl⟩))
  have e1 : (!decide (∀ x ∈ l, mayM x)) = false := by rw [decide_eq_true hmay]; rfl
  rw [e1]
  refine T.cond rfl (fun h => by cases h) (fun _ => T.skip ?_)
  refine h1 _ _ ?_
  try clear h1 K_h1
  refine T.seq_k (fun K_h1 h1 => ?_)
  refine T.regi hm ?_
  simp only [↓reduceIte, namesOf, List.any, I.names, aopsI, astep, ev, setd, List.set, List.getD, List.getElem?_cons_zero, List.getElem?_cons_succ, then_normal, Option.getD_some, Bool.or_false, Bool.false_eq_true, up_zero, ↓opt_def, List.map_cons, List.map_nil]
  refine (plOut_ok hl).mono ?_
  rintro v σ1 ⟨rfl, hv⟩
  rcases hv with ⟨hbad, rfl⟩ | ⟨hbad, rfl⟩
  · try simp only [List.getElem?_cons_zero, List.getElem?_cons_succ]
    refine h1 _ _ ?_
    try clear h1 K_h1
    refine T.seq_k (fun K_h1 h1 => ?_)
    refine T.seq_k (fun K_h0 h0 => ?_)
    refine T.regi hm ?_
    simp only [↓reduceIte, namesOf, List.any, I.names, aopsI, astep, ev, setd, List.set, List.getD, List.getElem?_cons_zero, List.getElem?_cons_succ, then_normal, Option.getD_some, Bool.or_false, Bool.false_eq_true, up_zero, eqIv, Bool.bne_true, Bool.not_false]
    refine h0 _ _ ?_
    try clear h0 K_h0
    refine T.cond rfl (fun _ => ?_) (fun h => by cases h)
    refine T.seq_k (fun K_h0 h0 => ?_)
    refine T.regi hm ?_
    simp only [↓reduceIte, namesOf, List.any, I.names, aopsI, astep, ev, setd, List.set, List.getD, List.getElem?_cons_zero, List.getElem?_cons_succ, then_normal, Option.getD_some, Bool.or_false, Bool.false_eq_true, up_zero]
    refine h0 _ _ ?_
    try clear h0 K_h0
    exact T.ret (Fin.ret rfl (.inl ⟨.inr hbad, rfl, rfl⟩))
  have hol : (outM l (now - ret)).length ≤ l.length := out_len _ _
  have hoid : ∀ x ∈ outM l (now - ret), x.id < 18446744073709551616 := fun x hx => hid x (List.mem_filter.1 hx).1
  have homay : ∀ x ∈ outM l (now - ret), mayM x := fun x hx => hmay x (List.mem_filter.1 hx).1
  generalize hO : outM l (now - ret) = out at hol hoid homay ⊢
  try simp only [List.getElem?_cons_zero, List.getElem?_cons_succ]
  refine h1 _ _ ?_
  try clear h1 K_h1
  refine T.seq_k (fun K_h1 h1 => ?_)
  refine T.seq_k (fun K_h0 h0 => ?_)
  refine T.regi hm ?_
  simp only [↓reduceIte, namesOf, List.any, I.names, aopsI, astep, ev, setd, List.set, List.getD, List.getElem?_cons_zero, List.getElem?_cons_succ, then_normal, Option.getD_some, Bool.or_false, Bool.false_eq_true, up_zero, eq_self, eqIv, bne_self_eq_false]
  refine h0 _ _ ?_
  try clear h0 K_h0
  refine T.cond rfl (fun h => by cases h) (fun _ => T.skip ?_)
  refine h1 _ _ ?_
  try clear h1 K_h1
  refine T.seq_k (fun K_h1 h1 => ?_)
  refine T.seq_k (fun K_h0 h0 => ?_)
  refine T.regi hm ?_
  simp only [↓reduceIte, namesOf, List.any, I.names, aopsI, astep, ev, setd, List.set, List.getD, List.getElem?_cons_zero, List.getElem?_cons_succ, then_normal, Option.getD_some, Bool.or_false, Bool.false_eq_true, up_zero, mts_len]
  refine h0 _ _ ?_
  try clear h0 K_h0
  refine T.block ?_
  refine T.gh (Gh.keep [0, 2, 11, 36, 37, 38]) ?_
  refine T.loopi (fun i ρ t => ∃ left' calls' L', exF room now (out.take i) left calls L = (i, 0, left', calls', L') ∧ StS t p m room left' calls' L' ∧ Nx σ1 t p m ∧ (-1 ≤ left' ∧ left' ≤ 9223372036854775807) ∧ (0 ≤ calls' ∧ calls' = calls + i) ∧ (usedO L' : Int) ≤ room ∧
      ρ = [.ptr p 0, .any, .int .i64 now, .any, .any, .any, .any, .any, .any, .any, .any, .sl (mtsAV out) .none] ++ List.replicate 24 .any ++ [.sl (mtsAV out) .none, .int .i64 (out.length : Int), .int .i64 (i : Int)] ++ List.replicate 29 .any)
    out.length 0 (Nat.zero_le _) ⟨left, calls, L, rfl, h, .refl _ _ _, hlf, ⟨hc.1, by simp⟩, hu, rfl⟩ ?_
  rintro i ρ t hi ⟨left', calls', L', hF, hS, hN, hlf', ⟨hc1, hc2⟩, hu', rfl⟩
  refine T.seq_k (fun K_h0 h0 => ?_)
  refine T.regi hm ?_
  simp only [↓reduceIte, namesOf, List.any, I.names, aopsI, astep, ev, setd, List.set, List.getD, List.getElem?_cons_zero, List.getElem?_cons_succ, List.cons_append, List.nil_append, List.replicate, then_normal, Option.getD_some, Bool.or_false, Bool.false_eq_true, up_zero, binv, ↓opt_def, lt_len, eq_self]
  refine h0 _ _ ?_
  try clear h0 K_h0
  refine T.seq_k (fun K_h2 h2 => ?_)
  by_cases hil : i < out.length
  case neg =>
    refine T.cond (b := false) (by simp [ev]; omega) (fun h => by cases h) (fun _ => T.exit ?_)
    have hie : i = out.length := by omega
    subst hie
    rw [List.take_length] at hF
    try simp only [List.cons_append, List.nil_append, List.replicate, then_normal, inBlock_exit, then_exit]
    refine h1 _ _ ?_
    try clear h1 K_h1
    refine T.seq_k (fun K_h0 h0 => ?_)
    refine T.regi hm ?_
    simp only [↓reduceIte, namesOf, List.any, I.names, aopsI, astep, ev, setd, List.set, List.getD, List.getElem?_cons_zero, List.getElem?_cons_succ, then_normal, Option.getD_some, Bool.or_false, Bool.false_eq_true, up_zero, mts_len]
    refine h0 _ _ ?_
    try clear h0 K_h0
    exact T.ret (Fin.ret rfl (.inr ⟨hmay, hbad, out.length, 0, left', calls', L', by rw [hO]; exact hF, rfl, hS, hN, hlf', ⟨hc1, by omega⟩, hu'⟩))
  refine T.cond (b := true) (by simp [ev]; omega) (fun _ => T.skip ?_) (fun h => by cases h)
  refine h2 _ _ ?_
  try clear h2 K_h2
  obtain ⟨x, hx⟩ : ∃ x, out[i]? = some x := ⟨_, List.getElem?_eq_getElem hil⟩
  have hgx := mts_get hx
  have hw := inc64' hil (by omega)
  have hts : out.take (i + 1) = out.take i ++ [x] := by
    rw [List.take_succ_eq_append_getElem hil]
    rw [List.getElem?_eq_getElem hil] at hx
    cases hx; rfl
  have hxl := hoid x (List.mem_of_getElem? hx)
  have hxm := homay x (List.mem_of_getElem? hx)
  have hn1 : now ≥ 0 := Int.not_lt.1 fun h => hbad (.inl h)
  have hn2 : now ≤ 1099511627776 := Int.not_lt.1 fun h => hbad (.inr (.inl h))
  have hx1 := hxm.1
  have hfair : fairM ⟨x.id, now, 0⟩ := ⟨hx1, hn1, hn2, by show (0 : Nat) ≠ x.id; omega⟩
  have hFx := exF_app (b := [x]) (show exF room now (out.take i) left calls L = ((out.take i).length, 0, left', calls', L') by rw [hF, List.length_take, Nat.min_eq_left (by omega)])
  rw [← hts, List.length_take, Nat.min_eq_left (by omega : i ≤ out.length)] at hFx
  have hFo := exF_app (b := out.drop i) (show exF room now (out.take i) left calls L = ((out.take i).length, 0, left', calls', L') by rw [hF, List.length_take, Nat.min_eq_left (by omega)])
  rw [List.take_append_drop, List.length_take, Nat.min_eq_left (by omega : i ≤ out.length)] at hFo
  have hdrop : out.drop i = x :: out.drop (i + 1) := by
    rw [List.drop_eq_getElem_cons hil]
    rw [List.getElem?_eq_getElem hil] at hx
    cases hx; rfl
  rw [hdrop] at hFo
  have hpm : p < t.next ∧ m < t.next := by have := hN.next; omega
  refine T.seq_k (fun K_h3 h3 => ?_)
  refine T.block ?_
  refine T.seq_k (fun K_h0 h0 => ?_)
  refine T.regi hm ?_
  simp only [↓reduceIte, namesOf, List.any, I.names, aopsI, astep, ev, setd, List.set, List.getD, List.getElem?_cons_zero, List.getElem?_cons_succ, List.cons_append, List.nil_append, List.length_cons, List.length_nil, List.replicate, then_normal, Option.getD_some, Bool.or_false, Bool.or_true, Nat.reduceAdd, ↓opt_def, AV.isAny, AV.cells, ldc, St.set_same, Int.natCast_nonneg, lt_len, Int.toNat_natCast, true_and, and_true, eq_self, decide_true, hil, mts_len, hgx, AV.fits, AV.one, List.all_cons, List.all_nil, Nat.reduceBEq, Bool.not_false, Bool.and_self, Nat.zero_add, splice, List.take, List.drop, Nat.reduceLeDiff, St.set_set]
  refine h0 _ _ ?_
  try clear h0 K_h0
  have hS1 : StS ((t.up 6).set (t.next + 3) (.obj (mtC x))) p m room left' calls' L' := by
    obtain ⟨ts, clk, h1, h2⟩ := hS.map
    exact ⟨by rw [St.set_other _ _ (by omega)]; exact hS.obj, ⟨ts, clk, by rw [St.set_other _ _ (by omega)]; exact h1, h2⟩, hS.ne⟩
  have hN1 : Nx σ1 ((t.up 6).set (t.next + 3) (.obj (mtC x))) p m := ⟨by have := hN.next; simp; omega, fun n y h1 h2 hy => by
    rw [St.set_other _ _ (by have := wf.lt hy; have := hN.next; omega)]
    exact hN.old n y h1 h2 hy⟩
  have hT1 : Tabs ((t.up 6).set (t.next + 3) (.obj (mtC x))) := hN1.tabs hT h
  have hb : ((t.up 6).set (t.next + 3) (.obj (mtC x))).res (t.next + 3) = some (.obj (mtC x)) := St.set_same _ _ _
  have hbn : t.next + 3 ≠ p ∧ t.next + 3 ≠ m := by omega
  generalize ((t.up 6).set (t.next + 3) (.obj (mtC x))) = u at hS1 hN1 hT1 hb ⊢
  generalize t.next + 3 = b at hb hbn ⊢
  clear hS hN
  have hlb : -1 ≤ leftB left' ∧ leftB left' ≤ 9223372036854775807 := by unfold leftB; split <;> omega
  have hcall := sput_ok (k := nmX x.id) (b := markB ⟨x.id, now, 0⟩) (v := .sl (bytesAV (markB ⟨x.id, now, 0⟩)) .none) hS1 hlf' ⟨hc1, by omega⟩ (by omega) (by rw [sz_nmX]; omega) (by rw [mark_len]; omega) (by have := size_le (nmX x.id) L'; omega) hr (.inl ⟨.none, rfl, fun h => by cases h⟩) (fun n h => by cases h)
  generalize hcode : putC room left' L' (nmX x.id) (markB ⟨x.id, now, 0⟩) = code at hcall
  have hnm : (⟨(nmF x.id [120] 0).toArray⟩ : ByteArray) = nmX x.id := rfl
  generalize hmb : markB ⟨x.id, now, 0⟩ = mb at hcall hcode
  refine T.seq_k (fun K_h4 h4 => ?_)
  refine T.regi hm ?_
  simp only [↓reduceIte, namesOf, List.any, I.names, aopsI, astep, ev, setd, List.set, List.getD, List.getElem?_cons_zero, List.getElem?_cons_succ, List.cons_append, List.nil_append, List.length_cons, List.length_nil, List.replicate, then_normal, Option.getD_some, Bool.or_false, Bool.false_eq_true, up_zero, Nat.reduceAdd, ↓opt_def, AV.isAny, AV.cells, ldc, List.map_cons, List.map_nil, and_true, eq_self, hb, Nat.zero_add, fillA, ↓Option.map_some, AV.fits, AV.one, List.all_cons, List.all_nil, Nat.reduceBEq, Bool.not_false, Bool.and_self, Nat.zero_add, splice, List.take, List.drop, Nat.reduceLeDiff]
  refine (mMark_ok (k := ⟨x.id, now, 0⟩) hfair).mono ?_
  rintro v σ2 ⟨rfl, rfl⟩
  rw [hmb]
  try simp only [List.getElem?_cons_zero, List.getElem?_cons_succ]
  refine h4 _ _ ?_
  try clear h4 K_h4
  refine T.seq_k (fun K_h4 h4 => ?_)
  refine T.seq_k (fun K_h0 h0 => ?_)
  refine T.regi hm ?_
  simp only [↓reduceIte, namesOf, List.any, I.names, aopsI, astep, ev, setd, List.set, List.getD, List.getElem?_cons_zero, List.getElem?_cons_succ, List.cons_append, List.nil_append, List.replicate, then_normal, Option.getD_some, Bool.or_false, Bool.false_eq_true, up_zero, eq_self, eqIv, bne_self_eq_false]
  refine h0 _ _ ?_
  try clear h0 K_h0
  refine T.cond rfl (fun h => by cases h) (fun _ => T.skip ?_)
  refine h4 _ _ ?_
  try clear h4 K_h4
  refine T.seq_k (fun K_h4 h4 => ?_)
  refine T.regi hm ?_
  simp only [↓reduceIte, namesOf, List.any, I.names, aopsI, astep, ev, setd, List.set, List.getD, List.getElem?_cons_zero, List.getElem?_cons_succ, List.cons_append, List.nil_append, List.replicate, then_normal, Option.getD_some, Bool.or_false, Bool.false_eq_true, up_zero, ↓opt_def, ldc, List.map_cons, List.map_nil, hb, Nat.zero_add]
  refine (mName_ok (what := [120]) (page := 0) hT1 hxl (by omega) (by simp)).mono ?_
  rintro v σ3 ⟨rfl, rfl⟩
  rw [hnm]
  try simp only [↓reduceIte, namesOf, List.any, I.names, aops, aopsI, aopsT, qstep, CPt, qget, Tbl.get, astep, ev, setd, List.set, List.getD, List.getElem?_cons_zero, List.getElem?_cons_succ, List.getElem?_nil, List.cons_append, List.nil_append, List.length_cons, List.length_nil, List.replicate, then_normal, inBlock_normal, Option.getD_some, Option.getD_none, Bool.or_false, Bool.or_true, Bool.true_or, Bool.false_or, Bool.false_eq_true, if_false, if_true, up_zero, Nat.reduceAdd, Nat.reduceSub, binv, ↓opt_def, AV.isAny, AV.cells, ldc, List.map_cons, List.map_nil, St.set_next, St.set_same, St.up_next, Int.natCast_nonneg, lt_len, le_len, Int.toNat_natCast, true_and, and_true, eq_self, reduceCtorEq, decide_true, List.length_singleton, er_int, er_bool, er_str, srcR, up_zero]
  refine hcall.mono ?_
  rintro v σ4 ⟨rfl, hS4, hN4⟩
  try simp only [↓reduceIte, namesOf, List.any, I.names, aops, aopsI, aopsT, qstep, CPt, qget, Tbl.get, astep, ev, setd, List.set, List.getD, List.getElem?_cons_zero, List.getElem?_cons_succ, List.getElem?_nil, List.cons_append, List.nil_append, List.length_cons, List.length_nil, List.replicate, then_normal, inBlock_normal, Option.getD_some, Option.getD_none, Bool.or_false, Bool.or_true, Bool.true_or, Bool.false_or, Bool.false_eq_true, if_false, if_true, up_zero, Nat.reduceAdd, Nat.reduceSub, binv, ↓opt_def, AV.isAny, AV.cells, ldc, List.map_cons, List.map_nil, St.set_next, St.set_same, St.up_next, Int.natCast_nonneg, lt_len, le_len, Int.toNat_natCast, true_and, and_true, eq_self, reduceCtorEq, decide_true, List.length_singleton, er_int, er_bool, er_str, srcR, up_zero]
  refine h4 _ _ ?_
  try clear h4 K_h4
  by_cases hc0 : code = 0
  · subst hc0
    have er : errAV 0 = .nili := rfl
    rw [er]
    refine T.seq_k (fun K_h0 h0 => ?_)
    refine T.regi hm ?_
    simp only [↓reduceIte, namesOf, List.any, I.names, aopsI, astep, ev, setd, List.set, List.getD, List.getElem?_cons_zero, List.getElem?_cons_succ, List.cons_append, List.nil_append, List.replicate, then_normal, Option.getD_some, Bool.or_false, Bool.false_eq_true, up_zero, eq_self, eqIv, bne_self_eq_false]
    refine h0 _ _ ?_
    try clear h0 K_h0
    refine T.cond rfl (fun h => by cases h) (fun _ => T.skip ?_)
    try simp only [List.cons_append, List.nil_append, List.replicate, then_normal, inBlock_normal, inBlock_normal]
    refine h3 _ _ ?_
    try clear h3 K_h3
    refine T.regi hm ?_
    simp only [↓reduceIte, namesOf, List.any, I.names, aopsI, astep, ev, setd, List.set, List.getD, List.getElem?_cons_zero, List.getElem?_cons_succ, List.cons_append, List.nil_append, List.replicate, then_normal, Option.getD_some, Bool.or_false, Bool.false_eq_true, up_zero, binv, ↓opt_def, eq_self, hw]
    refine ⟨hil, _, _, Gh.keep [0, 2, 11, 36, 37, 38], leftB left', calls' + 1, putO (nmX x.id) mb L', ?_, by simpa using hS4, hN1.trans hN4, hlb, ⟨by omega, by omega⟩, ?_, rfl⟩
    · rw [hFx]; simp only [exF, hmb, hcode, if_true]
    · exact putC_used hr.1 hcode hu'
  · have er : errAV code = .iface tCode (.int .i64 code) := if_neg hc0
    rw [er]
    refine T.seq_k (fun K_h0 h0 => ?_)
    refine T.regi hm ?_
    simp only [↓reduceIte, namesOf, List.any, I.names, aopsI, astep, ev, setd, List.set, List.getD, List.getElem?_cons_zero, List.getElem?_cons_succ, List.cons_append, List.nil_append, List.replicate, then_normal, Option.getD_some, Bool.or_false, Bool.false_eq_true, up_zero, eqIv, Bool.bne_true, Bool.not_false]
    refine h0 _ _ ?_
    try clear h0 K_h0
    refine T.cond rfl (fun _ => ?_) (fun h => by cases h)
    refine T.seq_k (fun K_h0 h0 => ?_)
    refine T.regi hm ?_
    simp only [↓reduceIte, namesOf, List.any, I.names, aopsI, astep, ev, setd, List.set, List.getD, List.getElem?_cons_zero, List.getElem?_cons_succ, List.cons_append, List.nil_append, List.replicate, then_normal, Option.getD_some, Bool.or_false, Bool.false_eq_true, up_zero]
    refine h0 _ _ ?_
    try clear h0 K_h0
    rw [if_neg hc0] at hS4
    refine T.ret (Fin.ret rfl (.inr ⟨hmay, hbad, i, code, leftB left', calls' + 1, L', ?_, by rw [er]; rfl, hS4, hN1.trans hN4, hlb, ⟨by omega, by omega⟩, hu'⟩))
    rw [hO, hFo]; simp only [exF, hmb, hcode, if_neg hc0]; rfl

end Go.VL

namespace Go.VL

open Go.Proofs

/-- an owned thing nm, and a row that grows -/
structure RS (σ σ' : St) (nm : Nat) (r : Res) (k : Nat) (v : Ver) : Prop where
  old : ∀ m, m < σ.next → σ'.res m = σ.res m
  lo : σ.next ≤ nm
  hi : nm < σ'.next
  at_ : σ'.res nm = some r
  ver : v = .nil ∨ ∃ g, v = .tip g ∧ g ≠ nm ∧ σ.next ≤ g ∧ g < σ'.next ∧ σ'.res g = some (.tip k)

theorem RS.set {σ σ' : St} {nm k : Nat} {r : Res} {v : Ver} (h : RS σ σ' nm r k v) (r' : Res) : RS σ (σ'.set nm r') nm r' k v where
  old := fun m hm => by rw [St.set_other _ _ (by have := h.lo; omega)]; exact h.old m hm
  lo := h.lo
  hi := h.hi
  at_ := by simp
  ver := h.ver.imp id fun ⟨g, h1, h2, h3, h4, h5⟩ => ⟨g, h1, h2, h3, h4, by rw [St.set_other _ _ h2]; exact h5⟩

theorem RS.up {σ σ' : St} {nm k : Nat} {r : Res} {v : Ver} (h : RS σ σ' nm r k v) (n : Nat) : RS σ (σ'.up n) nm r k v :=
  ⟨h.old, h.lo, Nat.lt_of_lt_of_le h.hi (Nat.le_add_right _ _), h.at_, h.ver.imp id fun ⟨g, h1, h2, h3, h4, h5⟩ => ⟨g, h1, h2, h3, Nat.lt_of_lt_of_le h4 (Nat.le_add_right _ _), h5⟩⟩

theorem RS.nil {σ σ' : St} {nm k g2 : Nat} {r : Res} (h : RS σ σ' nm r k .nil) (h1 : nm < g2) (h2 : g2 < σ'.next) : RS σ (σ'.set g2 (.tip k)) nm r k (.tip g2) where
  old := fun m hm => by rw [St.set_other _ _ (by have := h.lo; omega)]; exact h.old m hm
  lo := h.lo
  hi := h.hi
  at_ := by rw [St.set_other _ _ (by omega)]; exact h.at_
  ver := .inr ⟨g2, rfl, by omega, by have := h.lo; omega, h2, by simp⟩

theorem RS.tip {σ σ' : St} {nm k g g2 : Nat} {r : Res} (h : RS σ σ' nm r k (.tip g)) (h1 : nm < g2) (h2 : g2 < σ'.next) : RS σ ((σ'.del g).set g2 (.tip k)) nm r k (.tip g2) := by
  obtain ⟨g', e, a1, a2, a3, a4⟩ := h.ver.resolve_left (by simp)
  cases e
  refine ⟨fun m hm => ?_, h.lo, h.hi, ?_, .inr ⟨g2, rfl, by omega, by have := h.lo; omega, h2, by simp⟩⟩
  · rw [St.set_other _ _ (by have := h.lo; omega)]
    simp only [St.del]
    rw [if_neg (by omega)]; exact h.old m hm
  · rw [St.set_other _ _ (by omega)]
    simp only [St.del]
    rw [if_neg (fun e => a1 e.symm)]; exact h.at_

theorem RS.quiet {σ σ' : St} {nm k : Nat} {r : Res} {v : Ver} (wf : WF σ) (h : RS σ σ' nm r k v) : ∀ m s, σ.res m = some s → σ'.res m = some s := by
  intro m s hm
  have : m < σ.next := by
    rcases Nat.lt_or_ge m σ.next with h | h
    · exact h
    · rw [wf m h] at hm; cases hm
  rw [h.old m this]; exact hm

end Go.VL

namespace Go.VL

open Go.Proofs

theorem numB_app (a b : List UInt8) : numB (a ++ b) = b.foldl (fun n b => 256 * n + b.toNat) (numB a) := by unfold numB; rw [List.foldl_append]

theorem numB_beB : ∀ (w n : Nat), n < 256 ^ w → numB (beB w n) = n
  | 0, n, h => by simp at h; subst h; rfl
  | w + 1, n, h => by
    have h1 : n / 256 < 256 ^ w := by rw [Nat.pow_succ] at h; omega
    simp only [beB, numB_app, numB_beB w (n / 256) h1, List.foldl_cons, List.foldl_nil]
    rw [UInt8.toNat_ofNat']
    omega

theorem open_seal (b : List UInt8) : openB (sealB b) = (0, b) := by
  unfold openB
  have h1 : (sealB b).take ((sealB b).length - 4) = b := by
    rw [sealB_len, Nat.add_sub_cancel]; unfold sealB; exact List.take_left
  rw [if_neg (by rw [sealB_len]; omega), h1, if_pos rfl]

end Go.VL

namespace Go.VL

open Go.Proofs

def mkZ : Mk := ⟨0, 0, 0⟩

/-- the marker of bytes without a sum -/
def stoodF (b : List UInt8) : Mk × Bool :=
  if b.length = 24 then
    (⟨numB (b.take 8), IntKind.i64.wrap (numB ((b.drop 8).take 8) : Int), numB ((b.drop 16).take 8)⟩,
      decide (fairM ⟨numB (b.take 8), IntKind.i64.wrap (numB ((b.drop 8).take 8) : Int), numB ((b.drop 16).take 8)⟩))
  else (mkZ, false)

def markerF (x : List UInt8) : Mk × Int :=
  if (openB x).1 ≠ 0 then (mkZ, (openB x).1) else if (stoodF (openB x).2).2 then ((stoodF (openB x).2).1, 0) else (mkZ, 2)

set_option maxRecDepth 10000 in
set_option maxHeartbeats 1000000 in
theorem rStood_ok {b : List UInt8} {g : Ver} {σ : St} (hb : b.length ≤ 1099511627776) : ACalls Tryd.prog n_rStood [.sl (bytesAV b) g] σ
    (fun v σ' => v = .tup [.agg (mkC (stoodF b).1), .bool (stoodF b).2] ∧ σ' = σ) := by
  refine s_rStood (fun wf => ?_)
  unfold c_rStood
  refine T.seq_k (fun K_h0 h0 => ?_)
  refine T.regi hm ?_
  simp only [↓reduceIte, namesOf, List.any, I.names, aopsI, astep, ev, setd, List.set, List.cons_append, List.nil_append, List.length_cons, List.length_nil, List.replicate, then_normal, Bool.or_false, Nat.reduceAdd, Nat.reduceSub, eq_self]
  refine h0 _ _ ?_
  try clear h0 K_h0
  have hq : ((σ.up 2).set (σ.next + 0) (.obj [.int .u64 0, .int .i64 0, .int .u64 0])).res (σ.next + 0) = some (.obj [.int .u64 0, .int .i64 0, .int .u64 0]) := St.set_same _ _ _
  have hL : Like σ ((σ.up 2).set (σ.next + 0) (.obj [.int .u64 0, .int .i64 0, .int .u64 0])) := (Like.refl σ).box (n := 2) (i := 0) _
  have hlo : σ.next ≤ σ.next + 0 := by omega
  have hlt : σ.next + 0 < ((σ.up 2).set (σ.next + 0) (.obj [.int .u64 0, .int .i64 0, .int .u64 0])).next := by simp
  generalize ((σ.up 2).set (σ.next + 0) (.obj [.int .u64 0, .int .i64 0, .int .u64 0])) = t at hq hL hlt ⊢
  generalize σ.next + 0 = q at hq hlo hlt ⊢
  refine T.seq_k (fun K_h1 h1 => ?_)
  by_cases h24 : b.length = 24
  case neg =>
    have e1 : ((b.length : Int) != 24) = true := by simp; omega
    have hst : stoodF b = (mkZ, false) := if_neg h24
    refine T.seq_k (fun K_h0 h0 => ?_)
    refine T.regi hm ?_
    simp only [↓reduceIte, namesOf, List.any, I.names, aopsI, astep, ev, setd, List.set, List.getD, List.getElem?_cons_zero, List.getElem?_cons_succ, then_normal, Option.getD_some, Bool.or_false, Bool.false_eq_true, up_zero, binv, ↓opt_def, eq_self, bytesAV_len, e1]
    refine h0 _ _ ?_
    try clear h0 K_h0
    refine T.cond rfl (fun _ => ?_) (fun h => by cases h)
    refine T.seq_k (fun K_h0 h0 => ?_)
    refine T.regi hm ?_
    simp only [↓reduceIte, namesOf, List.any, I.names, aopsI, astep, ev, setd, List.set, List.getD, List.getElem?_cons_zero, List.getElem?_cons_succ, List.cons_append, List.nil_append, List.length_cons, List.length_nil, then_normal, Option.getD_some, Bool.or_false, Bool.false_eq_true, up_zero, Nat.reduceAdd, ↓opt_def, AV.isAny, AV.cells, eq_self, decide_true, fillA, ↓Option.map_some, hq, AV.fits, AV.one, List.all_cons, List.all_nil, Nat.reduceBEq, Bool.not_false, Bool.and_self, Nat.zero_add, splice, List.take, List.drop, Nat.reduceLeDiff]
    refine h0 _ _ ?_
    try clear h0 K_h0
    have hq2 : (t.set q (.obj [.int .u64 0, .int .i64 0, .int .u64 0])).res q = some (.obj [.int .u64 0, .int .i64 0, .int .u64 0]) := St.set_same _ _ _
    have hL9 : Like σ (t.set q (.obj [.int .u64 0, .int .i64 0, .int .u64 0])) := hL.set _ hlo
    generalize (t.set q (.obj [.int .u64 0, .int .i64 0, .int .u64 0])) = t9 at hq2 hL9 ⊢
    exact T.ret (Fin.quiet (xs := [.agg (mkC mkZ), .bool false]) (by simp [rvals, rval, hq2, ldc, mkZ]) ⟨⟨trivial, trivial, trivial, trivial⟩, trivial, trivial⟩ (hL9.quiet wf) ⟨by rw [hst]; rfl, rfl⟩)
  have e1 : ((b.length : Int) != 24) = false := by simp; omega
  refine T.seq_k (fun K_h0 h0 => ?_)
  refine T.regi hm ?_
  simp only [↓reduceIte, namesOf, List.any, I.names, aopsI, astep, ev, setd, List.set, List.getD, List.getElem?_cons_zero, List.getElem?_cons_succ, then_normal, Option.getD_some, Bool.or_false, Bool.false_eq_true, up_zero, binv, ↓opt_def, eq_self, bytesAV_len, e1]
  refine h0 _ _ ?_
  try clear h0 K_h0
  refine T.cond rfl (fun h => by cases h) (fun _ => T.skip ?_)
  refine h1 _ _ ?_
  try clear h1 K_h1
  refine T.seq_k (fun K_h0 h0 => ?_)
  refine T.regi hm ?_
  simp only [↓reduceIte, namesOf, List.any, I.names, aopsI, astep, ev, setd, List.set, List.getD, List.getElem?_cons_zero, List.getElem?_cons_succ, List.cons_append, List.nil_append, List.length_cons, List.length_nil, then_normal, Option.getD_some, Bool.or_false, Bool.or_true, Bool.false_eq_true, Nat.reduceAdd, ↓opt_def, AV.isAny, AV.cells, and_true, eq_self, fillA, ↓Option.map_some, AV.fits, AV.one, List.all_cons, List.all_nil, Nat.reduceBEq, Bool.not_false, Bool.and_self, Nat.zero_add, splice, List.take, List.drop, Nat.reduceLeDiff]
  refine h0 _ _ ?_
  try clear h0 K_h0
  have hr0 : ((t.up 4).set (t.next + 2) (.obj [.sl (bytesAV b) g, .int .i64 0, .int .i64 (-1)])).res (t.next + 2) = some (rd b g 0 (-1)) := St.set_same _ _ _
  have hq1 : ((t.up 4).set (t.next + 2) (.obj [.sl (bytesAV b) g, .int .i64 0, .int .i64 (-1)])).res q = some (.obj [.int .u64 0, .int .i64 0, .int .u64 0]) := by rw [St.set_other _ _ (by omega)]; exact hq
  have hL1 : Like σ ((t.up 4).set (t.next + 2) (.obj [.sl (bytesAV b) g, .int .i64 0, .int .i64 (-1)])) := hL.box (n := 4) (i := 2) _
  have hpq : t.next + 2 ≠ q := by omega
  have hpl : σ.next ≤ t.next + 2 := by have := hL.next; omega
  have hlt1 : q < ((t.up 4).set (t.next + 2) (.obj [.sl (bytesAV b) g, .int .i64 0, .int .i64 (-1)])).next := by simp; omega
  generalize ((t.up 4).set (t.next + 2) (.obj [.sl (bytesAV b) g, .int .i64 0, .int .i64 (-1)])) = u at hr0 hq1 hL1 hlt1 ⊢
  generalize t.next + 2 = p at hr0 hpq hpl ⊢
  clear hq hL hlt
  have rdk : ∀ a : Int, 0 ≤ a → a ≤ 24 → Rd b a (-1) := fun a h1 h2 => ⟨by omega, by omega, by omega⟩
  refine T.seq_k (fun K_h1 h1 => ?_)
  refine T.regi hm ?_
  simp only [↓reduceIte, namesOf, List.any, I.names, aopsI, astep, ev, setd, List.set, List.getD, List.getElem?_cons_zero, List.getElem?_cons_succ, then_normal, Option.getD_some, Bool.or_false, Bool.false_eq_true, up_zero, List.map_cons, List.map_nil]
  refine (rword_ok (l := b) (g := g) (at_ := 0) (bad := -1) (w := 8) (rdk 0 (by omega) (by omega)) (.inl rfl) rfl hr0).mono ?_
  rintro v σ1 (⟨_, rfl, rfl⟩ | ⟨hn, _, _⟩)
  case inr => exact absurd ⟨rfl, by omega⟩ hn
  try simp only [↓reduceIte, namesOf, List.any, I.names, aops, aopsI, aopsT, qstep, CPt, qget, Tbl.get, astep, ev, setd, List.set, List.getD, List.getElem?_cons_zero, List.getElem?_cons_succ, List.getElem?_nil, List.cons_append, List.nil_append, List.length_cons, List.length_nil, List.replicate, then_normal, inBlock_normal, Option.getD_some, Option.getD_none, Bool.or_false, Bool.or_true, Bool.true_or, Bool.false_or, Bool.false_eq_true, if_false, if_true, up_zero, Nat.reduceAdd, Nat.reduceSub, binv, ↓opt_def, AV.isAny, AV.cells, ldc, List.map_cons, List.map_nil, St.set_next, St.set_same, St.up_next, Int.natCast_nonneg, lt_len, le_len, Int.toNat_natCast, true_and, and_true, eq_self, reduceCtorEq, decide_true, List.length_singleton, er_int, er_bool, er_str, srcR, up_zero]
  refine h1 _ _ ?_
  try clear h1 K_h1
  have hr1 : (u.set p (rd b g (0 + ((8 : Nat) : Int)) (-1))).res p = some (rd b g 8 (-1)) := St.set_same _ _ _
  refine T.seq_k (fun K_h1 h1 => ?_)
  refine T.regi hm ?_
  simp only [↓reduceIte, namesOf, List.any, I.names, aopsI, astep, ev, setd, List.set, List.getD, List.getElem?_cons_zero, List.getElem?_cons_succ, then_normal, Option.getD_some, Bool.or_false, Bool.false_eq_true, up_zero, List.map_cons, List.map_nil]
  refine (rword_ok (l := b) (g := g) (at_ := 8) (bad := -1) (w := 8) (rdk 8 (by omega) (by omega)) (.inl rfl) rfl hr1).mono ?_
  rintro v σ1 (⟨_, rfl, rfl⟩ | ⟨hn, _, _⟩)
  case inr => exact absurd ⟨rfl, by omega⟩ hn
  try simp only [St.set_set]
  refine h1 _ _ ?_
  try clear h1 K_h1
  have hr2 : (u.set p (rd b g (8 + ((8 : Nat) : Int)) (-1))).res p = some (rd b g 16 (-1)) := St.set_same _ _ _
  refine T.seq_k (fun K_h1 h1 => ?_)
  refine T.regi hm ?_
  simp only [↓reduceIte, namesOf, List.any, I.names, aopsI, astep, ev, setd, List.set, List.getD, List.getElem?_cons_zero, List.getElem?_cons_succ, then_normal, Option.getD_some, Bool.or_false, Bool.false_eq_true, up_zero, List.map_cons, List.map_nil]
  refine (rword_ok (l := b) (g := g) (at_ := 16) (bad := -1) (w := 8) (rdk 16 (by omega) (by omega)) (.inl rfl) rfl hr2).mono ?_
  rintro v σ1 (⟨_, rfl, rfl⟩ | ⟨hn, _, _⟩)
  case inr => exact absurd ⟨rfl, by omega⟩ hn
  try simp only [St.set_set]
  refine h1 _ _ ?_
  try clear h1 K_h1
  have hL2 : Like σ (u.set p (rd b g (16 + ((8 : Nat) : Int)) (-1))) := hL1.set _ hpl
  have hq2 : (u.set p (rd b g (16 + ((8 : Nat) : Int)) (-1))).res q = some (.obj [.int .u64 0, .int .i64 0, .int .u64 0]) := by rw [St.set_other _ _ hpq.symm]; exact hq1
  have hlt2 : q < (u.set p (rd b g (16 + ((8 : Nat) : Int)) (-1))).next := hlt1
  generalize (u.set p (rd b g (16 + ((8 : Nat) : Int)) (-1))) = u2 at hL2 hq2 hlt2 ⊢
  have hst : stoodF b = (⟨numB (b.take 8), IntKind.i64.wrap (numB ((b.drop 8).take 8) : Int), numB ((b.drop 16).take 8)⟩, decide (fairM ⟨numB (b.take 8), IntKind.i64.wrap (numB ((b.drop 8).take 8) : Int), numB ((b.drop 16).take 8)⟩)) := if_pos h24
  have n0 : (b.drop (0 : Int).toNat).take 8 = b.take 8 := rfl
  have n8 : (b.drop (8 : Int).toNat).take 8 = (b.drop 8).take 8 := rfl
  have n16 : (b.drop (16 : Int).toNat).take 8 = (b.drop 16).take 8 := rfl
  rw [n0, n8, n16]
  generalize numB (b.take 8) = x1 at hst ⊢
  generalize numB ((b.drop 8).take 8) = x2 at hst ⊢
  generalize numB ((b.drop 16).take 8) = x3 at hst ⊢
  generalize hx2 : IntKind.i64.wrap (x2 : Int) = y2 at hst
  refine T.seq_k (fun K_h0 h0 => ?_)
  refine T.regi hm ?_
  simp only [↓reduceIte, namesOf, List.any, I.names, aopsI, astep, ev, setd, List.set, List.getD, List.getElem?_cons_zero, List.getElem?_cons_succ, List.cons_append, List.nil_append, List.length_cons, List.length_nil, then_normal, Option.getD_some, Bool.or_false, Bool.or_true, Nat.reduceAdd, ↓opt_def, AV.isAny, AV.cells, St.set_same, and_true, eq_self, decide_true, hx2, fillA, ↓Option.map_some, AV.fits, AV.one, List.all_cons, List.all_nil, Nat.reduceBEq, Bool.not_false, Bool.and_self, Nat.zero_add, splice, List.take, List.drop, Nat.reduceLeDiff, St.set_set]
  refine h0 _ _ ?_
  try clear h0 K_h0
  have hb3 : ((u2.up 7).set (u2.next + 5) (.obj (mkC ⟨x1, y2, x3⟩))).res (u2.next + 5) = some (.obj (mkC ⟨x1, y2, x3⟩)) := St.set_same _ _ _
  have hq3 : ((u2.up 7).set (u2.next + 5) (.obj (mkC ⟨x1, y2, x3⟩))).res q = some (.obj [.int .u64 0, .int .i64 0, .int .u64 0]) := by rw [St.set_other _ _ (by omega)]; exact hq2
  have hL3 : Like σ ((u2.up 7).set (u2.next + 5) (.obj (mkC ⟨x1, y2, x3⟩))) := hL2.box (n := 7) (i := 5) _
  generalize ((u2.up 7).set (u2.next + 5) (.obj (mkC ⟨x1, y2, x3⟩))) = u3 at hb3 hq3 hL3 ⊢
  generalize u2.next + 5 = b3 at hb3 ⊢
  refine T.seq_k (fun K_h1 h1 => ?_)
  refine T.regi hm ?_
  simp only [↓reduceIte, namesOf, List.any, I.names, aopsI, astep, ev, setd, List.set, List.getD, List.getElem?_cons_zero, List.getElem?_cons_succ, List.length_cons, List.length_nil, then_normal, Option.getD_some, Bool.or_false, Bool.false_eq_true, up_zero, Nat.reduceAdd, ↓opt_def, ldc, List.map_cons, List.map_nil, hb3, Nat.zero_add, List.take, List.drop, Nat.reduceLeDiff]
  refine (rFair_ok (k := ⟨x1, y2, x3⟩)).mono ?_
  rintro v σ1 ⟨rfl, rfl⟩
  try simp only [↓reduceIte, namesOf, List.any, I.names, aops, aopsI, aopsT, qstep, CPt, qget, Tbl.get, astep, ev, setd, List.set, List.getD, List.getElem?_cons_zero, List.getElem?_cons_succ, List.getElem?_nil, List.cons_append, List.nil_append, List.length_cons, List.length_nil, List.replicate, then_normal, inBlock_normal, Option.getD_some, Option.getD_none, Bool.or_false, Bool.or_true, Bool.true_or, Bool.false_or, Bool.false_eq_true, if_false, if_true, up_zero, Nat.reduceAdd, Nat.reduceSub, binv, ↓opt_def, AV.isAny, AV.cells, ldc, List.map_cons, List.map_nil, St.set_next, St.set_same, St.up_next, Int.natCast_nonneg, lt_len, le_len, Int.toNat_natCast, true_and, and_true, eq_self, reduceCtorEq, decide_true, List.length_singleton, er_int, er_bool, er_str, srcR, up_zero]
  refine h1 _ _ ?_
  try clear h1 K_h1
  refine T.seq_k (fun K_h0 h0 => ?_)
  refine T.regi hm ?_
  simp only [↓reduceIte, namesOf, List.any, I.names, aopsI, astep, ev, setd, List.set, List.getD, List.getElem?_cons_zero, List.getElem?_cons_succ, List.cons_append, List.nil_append, List.length_cons, List.length_nil, then_normal, Option.getD_some, Bool.or_false, Bool.false_eq_true, up_zero, Nat.reduceAdd, ↓opt_def, AV.isAny, AV.cells, ldc, eq_self, decide_true, hb3, hq3, AV.fits, AV.one, List.all_cons, List.all_nil, Nat.reduceBEq, Bool.not_false, Bool.and_self, Nat.zero_add, splice, List.take, List.drop, Nat.reduceLeDiff]
  refine h0 _ _ ?_
  try clear h0 K_h0
  have hq4 : (σ1.set q (.obj (mkC ⟨x1, y2, x3⟩))).res q = some (.obj (mkC ⟨x1, y2, x3⟩)) := St.set_same _ _ _
  have hL4 : Like σ (σ1.set q (.obj (mkC ⟨x1, y2, x3⟩))) := hL3.set _ hlo
  generalize (σ1.set q (.obj (mkC ⟨x1, y2, x3⟩))) = u4 at hq4 hL4 ⊢
  exact T.ret (Fin.quiet (xs := [.agg (mkC ⟨x1, y2, x3⟩), .bool (decide (fairM ⟨x1, y2, x3⟩))]) (by simp [rvals, rval, hq4, ldc]) ⟨⟨trivial, trivial, trivial, trivial⟩, trivial, trivial⟩ (hL4.quiet wf) ⟨by rw [hst]; rfl, rfl⟩)

set_option maxRecDepth 10000 in
theorem rMarker_ok {x : List UInt8} {g : Ver} {σ : St} (hx : x.length ≤ 1099511627776) : ACalls Tryd.prog n_rMarker [.sl (bytesAV x) g] σ
    (fun v σ' => v = .tup [.agg (mkC (markerF x).1), .int .i64 (markerF x).2] ∧ σ' = σ) := by
  refine s_rMarker (fun wf => ?_)
  unfold c_rMarker
  refine T.seq_k (fun K_h0 h0 => ?_)
  refine T.regi hm ?_
  simp only [↓reduceIte, namesOf, List.any, I.names, aopsI, astep, ev, setd, List.set, List.cons_append, List.nil_append, List.length_cons, List.length_nil, List.replicate, then_normal, Bool.or_false, Nat.reduceAdd, Nat.reduceSub, eq_self]
  refine h0 _ _ ?_
  try clear h0 K_h0
  have hq : ((σ.up 2).set (σ.next + 0) (.obj [.int .u64 0, .int .i64 0, .int .u64 0])).res (σ.next + 0) = some (.obj [.int .u64 0, .int .i64 0, .int .u64 0]) := St.set_same _ _ _
  have hL : Like σ ((σ.up 2).set (σ.next + 0) (.obj [.int .u64 0, .int .i64 0, .int .u64 0])) := (Like.refl σ).box (n := 2) (i := 0) _
  have hlo : σ.next ≤ σ.next + 0 := by omega
  have hlt : σ.next + 0 < ((σ.up 2).set (σ.next + 0) (.obj [.int .u64 0, .int .i64 0, .int .u64 0])).next := by simp
  generalize ((σ.up 2).set (σ.next + 0) (.obj [.int .u64 0, .int .i64 0, .int .u64 0])) = t at hq hL hlt ⊢
  generalize σ.next + 0 = q at hq hlo hlt ⊢
  have hq9 : (t.set q (.obj [.int .u64 0, .int .i64 0, .int .u64 0])).res q = some (.obj [.int .u64 0, .int .i64 0, .int .u64 0]) := St.set_same _ _ _
  have hL9 : Like σ (t.set q (.obj [.int .u64 0, .int .i64 0, .int .u64 0])) := hL.set _ hlo
  have hol : (openB x).2.length ≤ 1099511627776 := by
    unfold openB; split
    · simp
    · split
      · rw [List.length_take]; omega
      · simp
  refine T.seq_k (fun K_h1 h1 => ?_)
  refine T.regi hm ?_
  simp only [↓reduceIte, namesOf, List.any, I.names, aopsI, astep, ev, setd, List.set, List.getD, List.getElem?_cons_zero, List.getElem?_cons_succ, then_normal, Option.getD_some, Bool.or_false, Bool.false_eq_true, up_zero, ↓opt_def, List.map_cons, List.map_nil]
  refine (ropen_ok hx).mono ?_
  rintro v σ1 ⟨rfl, rfl⟩
  generalize hob : openB x = ob at hol
  obtain ⟨oc, ol⟩ := ob
  try simp only [List.getElem?_cons_zero, List.getElem?_cons_succ]
  refine h1 _ _ ?_
  try clear h1 K_h1
  refine T.seq_k (fun K_h1 h1 => ?_)
  by_cases hc : oc = 0
  case neg =>
    have e1 : (oc != 0) = true := by simpa using hc
    have hmk : markerF x = (mkZ, oc) := by unfold markerF; rw [hob]; exact if_pos hc
    refine T.seq_k (fun K_h0 h0 => ?_)
    refine T.regi hm ?_
    simp only [↓reduceIte, namesOf, List.any, I.names, aopsI, astep, ev, setd, List.set, List.getD, List.getElem?_cons_zero, List.getElem?_cons_succ, then_normal, Option.getD_some, Bool.or_false, Bool.false_eq_true, up_zero, binv, ↓opt_def, eq_self, e1]
    refine h0 _ _ ?_
    try clear h0 K_h0
    refine T.cond rfl (fun _ => ?_) (fun h => by cases h)
    refine T.seq_k (fun K_h0 h0 => ?_)
    refine T.regi hm ?_
    simp only [↓reduceIte, namesOf, List.any, I.names, aopsI, astep, ev, setd, List.set, List.getD, List.getElem?_cons_zero, List.getElem?_cons_succ, List.cons_append, List.nil_append, List.length_cons, List.length_nil, then_normal, Option.getD_some, Bool.or_false, Bool.false_eq_true, up_zero, Nat.reduceAdd, ↓opt_def, AV.isAny, AV.cells, eq_self, decide_true, fillA, ↓Option.map_some, hq, AV.fits, AV.one, List.all_cons, List.all_nil, Nat.reduceBEq, Bool.not_false, Bool.and_self, Nat.zero_add, splice, List.take, List.drop, Nat.reduceLeDiff]
    refine h0 _ _ ?_
    try clear h0 K_h0
    generalize (σ1.set q (.obj [.int .u64 0, .int .i64 0, .int .u64 0])) = t9 at hq9 hL9 ⊢
    exact T.ret (Fin.quiet (xs := [.agg (mkC mkZ), .int .i64 oc]) (by simp [rvals, rval, hq9, ldc, mkZ]) ⟨⟨trivial, trivial, trivial, trivial⟩, trivial, trivial⟩ (hL9.quiet wf) ⟨by rw [hmk]; rfl, rfl⟩)
  subst hc
  have e1 : ((0 : Int) != 0) = false := rfl
  refine T.seq_k (fun K_h0 h0 => ?_)
  refine T.regi hm ?_
  simp only [↓reduceIte, namesOf, List.any, I.names, aopsI, astep, ev, setd, List.set, List.getD, List.getElem?_cons_zero, List.getElem?_cons_succ, then_normal, Option.getD_some, Bool.or_false, Bool.false_eq_true, up_zero, binv, ↓opt_def, eq_self, e1]
  refine h0 _ _ ?_
  try clear h0 K_h0
  refine T.cond rfl (fun h => by cases h) (fun _ => T.skip ?_)
  refine h1 _ _ ?_
  try clear h1 K_h1
  have hmk : markerF x = if (stoodF ol).2 then ((stoodF ol).1, 0) else (mkZ, 2) := by unfold markerF; rw [hob]; exact if_neg (by simp)
  obtain ⟨k, ok, hso⟩ : ∃ k ok, stoodF ol = (k, ok) := ⟨_, _, rfl⟩
  rw [hso] at hmk
  refine T.seq_k (fun K_h1 h1 => ?_)
  refine T.regi hm ?_
  simp only [↓reduceIte, namesOf, List.any, I.names, aopsI, astep, ev, setd, List.set, List.getD, List.getElem?_cons_zero, List.getElem?_cons_succ, List.length_cons, List.length_nil, then_normal, Option.getD_some, Bool.or_false, Bool.or_true, Nat.reduceAdd, ↓opt_def, AV.cells, List.map_cons, List.map_nil, St.set_same, eq_self]
  refine (rStood_ok hol).mono ?_
  rintro v σ2 ⟨rfl, rfl⟩
  rw [hso]
  try simp only [↓reduceIte, List.getElem?_cons_zero, List.getElem?_cons_succ, List.cons_append, List.nil_append, List.length_cons, List.length_nil, Nat.reduceAdd, AV.isAny, AV.cells, eq_self, decide_true, AV.fits, AV.one, List.all_cons, List.all_nil, Nat.reduceBEq, Bool.not_false, Bool.and_self, Nat.zero_add, splice, List.take, List.drop, Nat.reduceLeDiff, St.set_set]
  refine h1 _ _ ?_
  try clear h1 K_h1
  have hb3 : ((σ1.up 8).set (σ1.next + 5) (.obj (mkC k))).res (σ1.next + 5) = some (.obj (mkC k)) := St.set_same _ _ _
  have hq3 : ((σ1.up 8).set (σ1.next + 5) (.obj (mkC k))).res q = some (.obj [.int .u64 0, .int .i64 0, .int .u64 0]) := by rw [St.set_other _ _ (by omega)]; exact hq
  have hL3 : Like σ ((σ1.up 8).set (σ1.next + 5) (.obj (mkC k))) := hL.box (n := 8) (i := 5) _
  generalize ((σ1.up 8).set (σ1.next + 5) (.obj (mkC k))) = u at hb3 hq3 hL3 ⊢
  generalize σ1.next + 5 = b3 at hb3 ⊢
  refine T.seq_k (fun K_h1 h1 => ?_)
  cases ok with
  | false =>
    have hmk : markerF x = (mkZ, 2) := by rw [hmk]; rfl
    refine T.seq_k (fun K_h0 h0 => ?_)
    refine T.regi hm ?_
    simp only [↓reduceIte, namesOf, List.any, I.names, aopsI, astep, ev, setd, List.set, List.getD, List.getElem?_cons_zero, List.getElem?_cons_succ, then_normal, Option.getD_some, Bool.or_false, Bool.false_eq_true, up_zero, Bool.not_false]
    refine h0 _ _ ?_
    try clear h0 K_h0
    refine T.cond rfl (fun _ => ?_) (fun h => by cases h)
    refine T.seq_k (fun K_h0 h0 => ?_)
    refine T.regi hm ?_
    simp only [↓reduceIte, namesOf, List.any, I.names, aopsI, astep, ev, setd, List.set, List.getD, List.getElem?_cons_zero, List.getElem?_cons_succ, List.cons_append, List.nil_append, List.length_cons, List.length_nil, then_normal, Option.getD_some, Bool.or_false, Bool.false_eq_true, up_zero, Nat.reduceAdd, ↓opt_def, AV.isAny, AV.cells, eq_self, decide_true, fillA, ↓Option.map_some, hq3, AV.fits, AV.one, List.all_cons, List.all_nil, Nat.reduceBEq, Bool.not_false, Bool.and_self, Nat.zero_add, splice, List.take, List.drop, Nat.reduceLeDiff]
    refine h0 _ _ ?_
    try clear h0 K_h0
    have hq4 : (u.set q (.obj [.int .u64 0, .int .i64 0, .int .u64 0])).res q = some (.obj [.int .u64 0, .int .i64 0, .int .u64 0]) := St.set_same _ _ _
    have hL4 : Like σ (u.set q (.obj [.int .u64 0, .int .i64 0, .int .u64 0])) := hL3.set _ hlo
    generalize (u.set q (.obj [.int .u64 0, .int .i64 0, .int .u64 0])) = t9 at hq4 hL4 ⊢
    exact T.ret (Fin.quiet (xs := [.agg (mkC mkZ), .int .i64 2]) (by simp [rvals, rval, hq4, ldc, mkZ]) ⟨⟨trivial, trivial, trivial, trivial⟩, trivial, trivial⟩ (hL4.quiet wf) ⟨by rw [hmk]; rfl, rfl⟩)
  | true =>
    have hmk : markerF x = (k, 0) := by rw [hmk]; rfl
    refine T.seq_k (fun K_h0 h0 => ?_)
    refine T.regi hm ?_
    simp only [↓reduceIte, namesOf, List.any, I.names, aopsI, astep, ev, setd, List.set, List.getD, List.getElem?_cons_zero, List.getElem?_cons_succ, then_normal, Option.getD_some, Bool.or_false, Bool.false_eq_true, up_zero, Bool.not_true]
    refine h0 _ _ ?_
    try clear h0 K_h0
    refine T.cond rfl (fun h => by cases h) (fun _ => T.skip ?_)
    refine h1 _ _ ?_
    try clear h1 K_h1
    refine T.seq_k (fun K_h0 h0 => ?_)
    refine T.regi hm ?_
    simp only [↓reduceIte, namesOf, List.any, I.names, aopsI, astep, ev, setd, List.set, List.getD, List.getElem?_cons_zero, List.getElem?_cons_succ, List.cons_append, List.nil_append, List.length_cons, List.length_nil, then_normal, Option.getD_some, Bool.or_false, Bool.false_eq_true, up_zero, Nat.reduceAdd, ↓opt_def, AV.isAny, AV.cells, ldc, eq_self, decide_true, hb3, hq3, AV.fits, AV.one, List.all_cons, List.all_nil, Nat.reduceBEq, Bool.not_false, Bool.and_self, Nat.zero_add, splice, List.take, List.drop, Nat.reduceLeDiff]
    refine h0 _ _ ?_
    try clear h0 K_h0
    have hq4 : (u.set q (.obj (mkC k))).res q = some (.obj (mkC k)) := St.set_same _ _ _
    have hL4 : Like σ (u.set q (.obj (mkC k))) := hL3.set _ hlo
    generalize (u.set q (.obj (mkC k))) = t9 at hq4 hL4 ⊢
    exact T.ret (Fin.quiet (xs := [.agg (mkC k), .int .i64 0]) (by simp [rvals, rval, hq4, ldc]) ⟨⟨trivial, trivial, trivial, trivial⟩, trivial, trivial⟩ (hL4.quiet wf) ⟨by rw [hmk]; rfl, rfl⟩)

end Go.VL

namespace Go.VL

open Go.Proofs

theorem marker_back {k : Mk} (hf : fairM k) (hi : k.id < 18446744073709551616) (hb : k.by_ < 18446744073709551616) : markerF (markB k) = (k, 0) := by
  have ho : openB (markB k) = (0, w8s [k.id, k.at_.toNat, k.by_]) := open_seal _
  have ha : ((k.at_.toNat : Nat) : Int) = k.at_ := by have := hf.2.1; omega
  have hat : k.at_.toNat < 18446744073709551616 := by have := hf.2.2.1; omega
  have hw : w8s [k.id, k.at_.toNat, k.by_] = beB 8 k.id ++ (beB 8 k.at_.toNat ++ beB 8 k.by_) := by simp [w8s]
  have hl : (w8s [k.id, k.at_.toNat, k.by_]).length = 24 := by rw [w8s_len]; rfl
  have t1 : (w8s [k.id, k.at_.toNat, k.by_]).take 8 = beB 8 k.id := by
    rw [hw, List.take_append_of_le_length (by rw [beB_len]; omega), List.take_of_length_le (by rw [beB_len]; omega)]
  have t2 : ((w8s [k.id, k.at_.toNat, k.by_]).drop 8).take 8 = beB 8 k.at_.toNat := by
    rw [hw, List.drop_append_of_le_length (by rw [beB_len]; omega), List.drop_of_length_le (by rw [beB_len]; omega), List.nil_append, List.take_append_of_le_length (by rw [beB_len]; omega), List.take_of_length_le (by rw [beB_len]; omega)]
  have t3 : ((w8s [k.id, k.at_.toNat, k.by_]).drop 16).take 8 = beB 8 k.by_ := by
    rw [hw, ← List.append_assoc, List.drop_append_of_le_length (by rw [List.length_append, beB_len, beB_len]; omega), List.drop_of_length_le (by rw [List.length_append, beB_len, beB_len]; omega), List.nil_append, List.take_of_length_le (by rw [beB_len]; omega)]
  have hs : stoodF (w8s [k.id, k.at_.toNat, k.by_]) = (k, true) := by
    unfold stoodF
    rw [if_pos hl, t1, t2, t3, numB_beB 8 _ hi, numB_beB 8 _ hat, numB_beB 8 _ hb, ha, wrap64 (by have := hf.2.1; omega) (by have := hf.2.2.1; omega)]
    exact Prod.ext rfl (decide_eq_true hf)
  unfold markerF
  rw [ho]
  simp only [hs]
  rfl

theorem nmX_inj {a b : Nat} (ha : a < 18446744073709551616) (hb : b < 18446744073709551616) (h : nmX a = nmX b) : a = b := by
  have e : ∀ n, nmF n [120] 0 = nmHead n ++ [120] := fun n => by unfold nmF; rw [if_neg (by decide), if_pos (by simp)]
  have h1 : nmF a [120] 0 = nmF b [120] 0 := by
    have := congrArg (fun x : ByteArray => x.data.toList) h
    simpa [nmX] using this
  rw [e, e] at h1
  have h2 := List.append_cancel_right h1
  unfold nmHead at h2
  have h3 := List.append_cancel_left (List.append_cancel_right h2)
  exact dg_inj (by omega) (by omega) 16 ha hb h3

theorem exF_facts {room now : Int} : ∀ {out : List Mt} {left calls left' calls' : Int} {L L' : Objs} {n : Nat} {c : Int}, (∀ x ∈ out, x.id < 18446744073709551616) → exF room now out left calls L = (n, c, left', calls', L') →
    (∀ x ∈ out.take n, getO (nmX x.id) L' = some (markB ⟨x.id, now, 0⟩)) ∧ (∀ k, (∀ x ∈ out.take n, k ≠ nmX x.id) → getO k L' = getO k L) ∧ (c = 0 → n = out.length)
  | [], left, calls, left', calls', L, L', n, c, _, h => by
    simp only [exF, Prod.mk.injEq] at h
    obtain ⟨rfl, rfl, rfl, rfl, rfl⟩ := h
    exact ⟨fun x hx => by simp at hx, fun k _ => rfl, fun _ => rfl⟩
  | m :: r, left, calls, left', calls', L, L', n, c, hid, h => by
    rw [exF] at h
    split at h
    · obtain ⟨n1, c1, l1, k1, L1, hq⟩ : ∃ n1 c1 l1 k1 L1, exF room now r (leftB left) (calls + 1) (putO (nmX m.id) (markB ⟨m.id, now, 0⟩) L) = (n1, c1, l1, k1, L1) := ⟨_, _, _, _, _, rfl⟩
      rw [hq] at h
      simp only [Prod.mk.injEq] at h
      obtain ⟨rfl, rfl, rfl, rfl, rfl⟩ := h
      obtain ⟨i1, i2, i3⟩ := exF_facts (fun x hx => hid x (List.mem_cons_of_mem _ hx)) hq
      refine ⟨fun x hx => ?_, fun k hk => ?_, fun hc => by rw [i3 hc]; rfl⟩
      · rw [List.take_succ_cons, List.mem_cons] at hx
        rcases hx with rfl | hx
        · by_cases hy : ∃ y ∈ r.take n1, nmX x.id = nmX y.id
          · obtain ⟨y, hy, he⟩ := hy
            have hxy := nmX_inj (hid x (by simp)) (hid y (List.mem_cons_of_mem _ (List.mem_of_mem_take hy))) he
            rw [hxy]; exact i1 y hy
          · rw [i2 (nmX x.id) (fun y hy' he => hy ⟨y, hy', he⟩)]
            exact get_put_same _ _ _
        · exact i1 x hx
      · rw [i2 k (fun x hx => hk x (by rw [List.take_succ_cons]; exact List.mem_cons_of_mem _ hx))]
        exact get_put_ne _ (hk m (by rw [List.take_succ_cons]; simp)) _
    · rename_i hc
      simp only [Prod.mk.injEq] at h
      obtain ⟨rfl, rfl, rfl, rfl, rfl⟩ := h
      exact ⟨fun x hx => by simp at hx, fun k _ => rfl, fun h0 => absurd h0 hc⟩

/-- what is marked of metas, in an empty store -/
theorem marked_facts {room now ret left left' calls' : Int} {l : List Mt} {L' : Objs} {n : Nat} {c : Int} (hid : ∀ x ∈ l, x.id < 18446744073709551616) (hap : l.Pairwise fun x y => x.id ≠ y.id)
    (h : exF room now (outM l (now - ret)) left 0 [] = (n, c, left', calls', L')) :
    (∀ x ∈ l, ∀ b, getO (nmX x.id) L' = some b → x.en ≤ now - ret ∧ b = markB ⟨x.id, now, 0⟩) ∧ (c = 0 → ∀ x ∈ l, x.en ≤ now - ret → getO (nmX x.id) L' ≠ none) := by
  obtain ⟨i1, i2, i3⟩ := exF_facts (fun x hx => hid x (List.mem_filter.1 hx).1) h
  refine ⟨fun x hx b hb => ?_, fun hc x hx hle => ?_⟩
  · by_cases hy : ∃ y ∈ (outM l (now - ret)).take n, nmX x.id = nmX y.id
    · obtain ⟨y, hy, he⟩ := hy
      have hyl := List.mem_filter.1 (List.mem_of_mem_take hy)
      have hxy := nmX_inj (hid x hx) (hid y hyl.1) he
      have hyx : y = x := by
        obtain ⟨i, hi, rfl⟩ := List.getElem_of_mem hx
        obtain ⟨j, hj, rfl⟩ := List.getElem_of_mem hyl.1
        rcases Nat.lt_trichotomy i j with h1 | h1 | h1
        · exact absurd hxy (List.pairwise_iff_getElem.1 hap i j hi hj h1)
        · subst h1; rfl
        · exact absurd hxy.symm (List.pairwise_iff_getElem.1 hap j i hj hi h1)
      subst hyx
      have := i1 y hy
      rw [this] at hb
      exact ⟨of_decide_eq_true hyl.2, (Option.some.inj hb).symm⟩
    · rw [i2 (nmX x.id) (fun y hy' he => hy ⟨y, hy', he⟩)] at hb
      simp [getO] at hb
  · have hn : n = (outM l (now - ret)).length := i3 hc
    have hxo : x ∈ (outM l (now - ret)).take n := by
      rw [hn, List.take_length]
      exact List.mem_filter.2 ⟨hx, decide_eq_true hle⟩
    rw [i1 x hxo]; simp

theorem exMark_nil {now ret : Int} {l : List Mt} {g : Ver} {σ : St} : ACalls Tryd.prog n_exMark [.nilp, .sl (mtsAV l) g, .int .i64 now, .int .i64 ret] σ (fun v σ' => v = .tup [.int .i64 0, .iface tCode (.int .i64 1)] ∧ σ' = σ) := by
  refine s_exMark (fun wf => ?_)
  unfold c_exMark
  have hnp : eqPv .nilp .nilp = some true := rfl
  refine T.seq_k (fun K_h0 h0 => ?_)
  refine T.regi hm ?_
  simp only [↓reduceIte, namesOf, List.any, I.names, aopsI, astep, ev, setd, List.set, List.cons_append, List.nil_append, List.length_cons, List.length_nil, List.replicate, then_normal, Bool.or_false, Bool.false_eq_true, up_zero, Nat.reduceAdd, Nat.reduceSub]
  refine h0 _ _ ?_
  try clear h0 K_h0
  refine T.seq_k (fun K_h0 h0 => ?_)
  refine T.regi hm ?_
  simp only [↓reduceIte, namesOf, List.any, I.names, aopsI, astep, ev, setd, List.set, then_normal, Bool.or_false, Bool.false_eq_true, up_zero]
  refine h0 _ _ ?_
  try clear h0 K_h0
  refine T.seq_k (fun K_h1 h1 => ?_)
  refine T.seq_k (fun K_h0 h0 => ?_)
  refine T.regi hm ?_
  simp only [↓reduceIte, namesOf, List.any, I.names, aopsI, astep, ev, setd, List.set, List.getD, List.getElem?_cons_zero, List.getElem?_cons_succ, then_normal, Option.getD_some, Bool.or_false, Bool.false_eq_true, up_zero, eq_self, reduceCtorEq, hnp, Bool.bne_false]
  refine h0 _ _ ?_
  try clear h0 K_h0
  refine T.cond rfl (fun _ => ?_) (fun h => by cases h)
  refine T.seq_k (fun K_h0 h0 => ?_)
  refine T.regi hm ?_
  simp only [↓reduceIte, namesOf, List.any, I.names, aopsI, astep, ev, setd, List.set, List.getD, List.getElem?_cons_zero, List.getElem?_cons_succ, then_normal, Option.getD_some, Bool.or_false, Bool.false_eq_true, up_zero]
  refine h0 _ _ ?_
  try clear h0 K_h0
  exact T.ret (Fin.ret rfl ⟨rfl, rfl⟩)

abbrev m21 : Mt := ⟨1, 0, 0, 3, 1, 1⟩

theorem named21 : namedB (nmX 1) = true := by decide +kernel

theorem ex21 : ∃ left' calls' L', exF 1000 5 (outM [m21] (5 - 2)) (-1) 0 [] = (1, 0, left', calls', L') := by
  have ho : outM [m21] (5 - 2) = [m21] := by decide
  have hc : putC 1000 (-1) [] (nmX 1) (markB ⟨1, 5, 0⟩) = 0 := by
    unfold putC
    rw [if_neg (by decide), if_neg (by rw [named21]; simp), if_neg ?_]
    rw [mark_len]; simp [usedO, sizeO, getO]
  rw [ho]
  simp only [exF, hc, if_true]
  exact ⟨_, _, _, rfl⟩

set_option maxRecDepth 10000 in
theorem up21_ok {σ : St} (hT : Tabs σ) : ACalls Tryd.prog n_up21 [] σ (fun v σ' => v = .bool true ∧ σ' = σ) := by
  refine s_up21 (fun wf => ?_)
  unfold c_up21
  refine T.seq_k (fun K_h0 h0 => ?_)
  refine T.regi hm ?_
  simp only [↓reduceIte, namesOf, List.any, I.names, aopsI, astep, ev, setd, List.set, List.nil_append, List.length_nil, List.replicate, then_normal, Bool.or_false, Bool.false_eq_true, up_zero, Nat.reduceSub]
  refine h0 _ _ ?_
  try clear h0 K_h0
  refine T.seq_k (fun K_h1 h1 => ?_)
  refine T.regi hm ?_
  simp only [↓reduceIte, namesOf, List.any, I.names, aopsI, astep, ev, setd, List.set, List.getD, List.getElem?_cons_zero, List.getElem?_cons_succ, then_normal, Option.getD_some, Bool.or_false, Bool.false_eq_true, up_zero, ↓opt_def, List.map_cons, List.map_nil]
  refine (snew_ok (room := 1000) (by omega)).mono ?_
  rintro v σ1 ⟨p, m, rfl, hS, hp, hm2, hpl, hml, hq⟩
  try simp only [List.getElem?_cons_zero, List.getElem?_cons_succ]
  refine h1 _ _ ?_
  try clear h1 K_h1
  have hnp : eqPv (.ptr p 0) .nilp = some false := rfl
  have hT1 : Tabs σ1 := hT.mono hq
  refine T.seq_k (fun K_h1 h1 => ?_)
  refine T.seq_k (fun K_h0 h0 => ?_)
  refine T.regi hm ?_
  simp only [↓reduceIte, namesOf, List.any, I.names, aopsI, astep, ev, setd, List.set, List.getD, List.getElem?_cons_zero, List.getElem?_cons_succ, then_normal, Option.getD_some, Bool.or_false, Bool.false_eq_true, up_zero, eq_self, hnp, eqIv, bne_self_eq_false]
  refine h0 _ _ ?_
  try clear h0 K_h0
  refine T.cond rfl (fun h => by cases h) (fun _ => T.skip ?_)
  refine h1 _ _ ?_
  try clear h1 K_h1
  have hmf : [AV.agg [.int .u64 1, .int .i64 0, .int .i64 0, .int .i64 3, .int .i64 1, .int .i64 1]] = mtsAV [m21] := rfl
  obtain ⟨l9, k9, L9, hex⟩ := ex21
  have hcall := exMark_ok (now := 5) (ret := 2) (l := [m21]) (g := .none) hT1 hS ⟨hpl, hml⟩ (by omega) (by omega) (by omega) (by simp [usedO]) (by simp) (by simp)
  have hmay : ∀ x ∈ [m21], mayM x := by
    intro x hx
    rw [List.mem_singleton] at hx
    subst hx
    decide
  have hbad : ¬ outBad 5 2 := by decide
  refine T.seq_k (fun K_h1 h1 => ?_)
  refine T.regi hm ?_
  simp only [↓reduceIte, namesOf, List.any, I.names, aopsI, astep, ev, setd, List.set, List.getD, List.getElem?_cons_zero, List.getElem?_cons_succ, List.cons_append, List.nil_append, List.length_cons, List.length_nil, then_normal, Option.getD_some, Bool.or_false, Bool.false_eq_true, up_zero, Nat.reduceAdd, ↓opt_def, AV.isAny, AV.cells, List.map_cons, List.map_nil, and_true, eq_self, fillA, ↓Option.map_some, held, hmf, AV.fits, AV.one, List.all_cons, List.all_nil, Nat.reduceBEq, Bool.not_false, Bool.and_self, Nat.zero_add, splice, List.take, List.drop, Nat.reduceLeDiff]
  refine hcall.mono ?_
  rintro v σ2 (⟨hno, _, _⟩ | ⟨_, _, n, c, l2, k2, L2, hF, rfl, hS2, hN2, _⟩)
  · rcases hno with h | h
    · exact absurd hmay h
    · exact absurd h hbad
  rw [hex] at hF
  simp only [Prod.mk.injEq] at hF
  obtain ⟨rfl, rfl, _⟩ := hF
  try simp only [List.getElem?_cons_zero, List.getElem?_cons_succ]
  refine h1 _ _ ?_
  try clear h1 K_h1
  have hnil : AV.sl ([] : List AV) .nil = .sl (mtsAV []) .nil := rfl
  refine T.seq_k (fun K_h1 h1 => ?_)
  refine T.regi hm ?_
  simp only [↓reduceIte, namesOf, List.any, I.names, aopsI, astep, ev, setd, List.set, List.getD, List.getElem?_cons_zero, List.getElem?_cons_succ, then_normal, Option.getD_some, Bool.or_false, Bool.false_eq_true, up_zero, ↓opt_def, List.map_cons, List.map_nil]
  rw [hnil]
  refine exMark_nil.mono ?_
  rintro v σ3 ⟨rfl, rfl⟩
  try simp only [List.getElem?_cons_zero, List.getElem?_cons_succ]
  refine h1 _ _ ?_
  try clear h1 K_h1
  have er0 : errAV 0 = .nili := rfl
  have e11 : (((1 : Nat) : Int) == 1) = true := rfl
  rw [er0]
  refine T.seq_k (fun K_h0 h0 => ?_)
  refine T.regi hm ?_
  simp only [↓reduceIte, namesOf, List.any, I.names, aopsI, astep, ev, setd, List.set, List.getD, List.getElem?_cons_zero, List.getElem?_cons_succ, then_normal, Option.getD_some, Bool.or_false, Bool.false_eq_true, up_zero, binv, ↓opt_def, eq_self, decide_true, e11, eqIv, beq_self_eq_true, Bool.and_self, Bool.bne_false]
  refine h0 _ _ ?_
  try clear h0 K_h0
  exact T.ret (Fin.quiet rfl trivial (fun n r hr => hN2.old n r (by have := wf.lt hr; omega) (by have := wf.lt hr; omega) (hq n r hr)) ⟨rfl, rfl⟩)

end Go.VL
