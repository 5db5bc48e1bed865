/- Texts put together, of these what the theorem needs: Contracts: the heap of fronts of rows (kway), at On. MADE BY PROGRAM (gen_heap.py, out of heap.tmpl). Plain: rows merged by a heap of their fronts: what was taken, and what is left. Contracts: kway.Sorted, at On. MADE BY PROGRAM (gen_heap.py, out of ksort.tmpl). The compiled code of functions of this seat. MADE BY PROGRAM (mkc.py). -/
import Derived.Test.YtmbbeldgfhnkbaaKKwaySortsUpto3
import Derived.Test.YtmbbeldgfhnkbaaChecked

set_option linter.unusedSimpArgs false
set_option linter.unusedVariables false

namespace Go.VL

open Go.Proofs

/-- a number, its row, and its place there -/
structure On where
  n : Int
  row : Int
  at_ : Int
  deriving DecidableEq

abbrev keyO : On → Int := fun t => t.n

abbrev fCO (e : En On) : List AV := [.int .i64 e.x.n, .int .i64 e.x.row, .int .i64 e.x.at_, .int .i64 (e.row : Int)]

abbrev eCO (e : En On) : List AV := [.int .i64 e.x.n, .int .i64 e.x.row, .int .i64 e.x.at_, .int .i64 (e.row : Int), .int .i64 (e.turn : Int)]

theorem eCO_len (e : En On) : (eCO e).length = 5 := rfl

def hslO : Option Nat → Nat → AV
  | none, _ => .sl [] .nil
  | some nm, n => .refr nm 5 n

/-- a heap, at h; its row, at G; what it compares with -/
structure HpO (σ : St) (h pl : Nat) (G : Option Nat) (l : List (En On)) (turn : Nat) : Prop where
  obj : σ.res h = some (.obj [.func n_klessO [] [.ptr pl 0], hslO G l.length, .int .i64 (turn : Int)])
  less : σ.res pl = some (.obj [.func n_oless [] []])
  no : G = none → l = []
  row : ∀ nm, G = some nm → (nm ≠ h ∧ nm ≠ pl) ∧ ∃ cs, σ.res nm = some (.obj cs) ∧ l.length * 5 ≤ cs.length ∧ cs.take (l.length * 5) = l.flatMap eCO
  ne : pl ≠ h

theorem HpO.named {σ : St} {h pl : Nat} {G : Option Nat} {l : List (En On)} {turn : Nat} (H : HpO σ h pl G l turn) {i : Nat} {a : En On} (ha : l[i]? = some a) : ∃ nm, G = some nm := by
  cases G with
  | none => rw [H.no rfl] at ha; simp at ha
  | some nm => exact ⟨nm, rfl⟩

theorem HpO.keep {σ t : St} {h pl : Nat} {G : Option Nat} {l : List (En On)} {turn : Nat} (H : HpO σ h pl G l turn) (hk : ∀ n r, σ.res n = some r → t.res n = some r) : HpO t h pl G l turn :=
  ⟨hk _ _ H.obj, hk _ _ H.less, H.no, fun nm e => by
    obtain ⟨h1, cs, h2, h3⟩ := H.row nm e
    exact ⟨h1, cs, hk _ _ h2, h3⟩, H.ne⟩

theorem xlessO_ok {a b : On} {σ : St} : ACalls Try.prog n_oless [.agg [.int .i64 a.n, .int .i64 a.row, .int .i64 a.at_], .agg [.int .i64 b.n, .int .i64 b.row, .int .i64 b.at_]] σ (fun v σ' => v = .bool (decide (keyO a < keyO b)) ∧ σ' = σ) := by
  refine s_oless (fun wf => ?_)
  unfold c_oless
  refine T.seq_k (fun K_h1 h1 => ?_)
  refine T.regi hm ?_
  simp only [↓reduceIte, namesOf, List.any, I.names, aopsI, astep, ev, setd, List.set, List.getD, List.getElem?_cons_zero, List.getElem?_cons_succ, List.cons_append, List.nil_append, List.length_cons, List.length_nil, List.replicate, then_normal, Option.getD_some, Bool.or_false, Bool.or_true, Bool.false_eq_true, Nat.reduceAdd, Nat.reduceSub, AV.isAny, AV.cells, eq_self]
  obtain ⟨h0, h0', hq⟩ := box2 wf 3 (.obj [.int .i64 a.n, .int .i64 a.row, .int .i64 a.at_]) (.obj [.int .i64 b.n, .int .i64 b.row, .int .i64 b.at_])
  generalize (((σ.up 3).set (σ.next + 0) (.obj [.int .i64 a.n, .int .i64 a.row, .int .i64 a.at_])).set (σ.next + 1) (.obj [.int .i64 b.n, .int .i64 b.row, .int .i64 b.at_])) = σ1 at h0 h0' hq ⊢
  refine h1 _ _ ?_
  try clear h1 K_h1
  refine T.seq_k (fun K_h1 h1 => ?_)
  refine T.regi hm ?_
  simp only [↓reduceIte, namesOf, List.any, I.names, aopsI, astep, ev, setd, List.set, List.getD, List.getElem?_cons_zero, List.getElem?_cons_succ, then_normal, Option.getD_some, Bool.or_false, Bool.false_eq_true, up_zero, Nat.reduceAdd, binv, ↓opt_def, ldc, eq_self, h0, h0']
  refine h1 _ _ ?_
  try clear h1 K_h1
  exact T.ret (Fin.quiet rfl trivial hq ⟨rfl, rfl⟩)

theorem klessO_ok {a b : En On} {pl : Nat} {σ : St} (hp : σ.res pl = some (.obj [.func n_oless [] []])) : ACalls Try.prog n_klessO [.agg (fCO a), .agg (fCO b), .ptr pl 0] σ (fun v σ' => v = .bool (flessE keyO a b) ∧ σ' = σ) := by
  refine s_klessO (fun wf => ?_)
  unfold c_klessO
  refine T.seq_k (fun K_h1 h1 => ?_)
  refine T.regi hm ?_
  simp only [↓reduceIte, namesOf, List.any, I.names, aopsI, astep, ev, setd, List.set, List.getD, List.getElem?_cons_zero, List.getElem?_cons_succ, List.cons_append, List.nil_append, List.length_cons, List.length_nil, List.replicate, then_normal, Option.getD_some, Bool.or_false, Bool.or_true, Bool.false_eq_true, Nat.reduceAdd, Nat.reduceSub, AV.isAny, AV.cells, eq_self]
  obtain ⟨h0, h0', hq⟩ := box2 wf 3 (.obj (fCO a)) (.obj (fCO b))
  have hp' := hq _ _ hp
  generalize (((σ.up 3).set (σ.next + 0) (.obj (fCO a))).set (σ.next + 1) (.obj (fCO b))) = σ1 at h0 h0' hq hp' ⊢
  generalize σ.next + 0 = p at h0
  generalize σ.next + 1 = q at h0'
  refine h1 _ _ ?_
  try clear h1 K_h1
  refine T.seq_k (fun K_h1 h1 => ?_)
  refine T.regt hm (tbl := []) Tbl.ok_nil ?_
  refine aopsT_cut 6 (fun K_c h_c => ?_)
  try simp only [↓reduceIte, namesOf, List.any, I.names, aopsT, qstep, CPt, Tbl.get, astep, ev, setd, List.set, List.getD, List.getElem?_cons_zero, List.getElem?_cons_succ, List.cons_append, List.nil_append, List.length_cons, List.length_nil, Option.getD_some, Bool.or_false, Bool.false_eq_true, up_zero, Nat.reduceAdd, ↓opt_def, ldc, List.map_cons, List.map_nil, List.take_succ_cons, hp', h0, h0', Nat.zero_add, List.take, List.drop, Nat.reduceLeDiff]
  refine (xlessO_ok (a := a.x) (b := b.x)).mono ?_
  rintro _ _ ⟨rfl, rfl⟩
  refine h_c _ _ ?_
  clear h_c K_c
  simp only [List.drop_succ_cons, List.drop_zero, Nat.zero_add]
  cases e1 : decide (keyO a.x < keyO b.x) with
  | true =>
    try simp only [↓reduceIte, aopsT, qstep, astep, ev, setd, List.set, List.getD, List.getElem?_cons_zero, List.getElem?_cons_succ, then_normal, Option.getD_some, eq_self, reduceCtorEq]
    refine h1 _ _ ?_
    try clear h1 K_h1
    exact T.ret (Fin.quiet rfl trivial hq ⟨by show AV.bool _ = _; unfold flessE; rw [e1]; rfl, rfl⟩)
  | false =>
    refine aopsT_cut 7 (fun K_c h_c => ?_)
    try simp only [↓reduceIte, aopsT, qstep, CPt, Tbl.get, astep, ev, setd, List.set, List.getD, List.getElem?_cons_zero, List.getElem?_cons_succ, List.cons_append, List.nil_append, List.length_cons, List.length_nil, Option.getD_some, Nat.reduceAdd, ↓opt_def, ldc, List.map_cons, List.map_nil, eq_self, List.take_succ_cons, hp', h0, h0', Nat.zero_add, List.take, List.drop, Nat.reduceLeDiff]
    refine (xlessO_ok (a := b.x) (b := a.x)).mono ?_
    rintro _ _ ⟨rfl, rfl⟩
    refine h_c _ _ ?_
    clear h_c K_c
    simp only [List.drop_succ_cons, List.drop_zero, Nat.reduceAdd]
    cases e2 : decide (keyO b.x < keyO a.x) with
    | true =>
      try simp only [↓reduceIte, aopsT, qstep, astep, ev, setd, List.set, List.getD, List.getElem?_cons_zero, List.getElem?_cons_succ, then_normal, Option.getD_some, Bool.false_eq_true, Nat.reduceAdd, binv, ↓opt_def, ldc, eq_self]
      refine h1 _ _ ?_
      try clear h1 K_h1
      exact T.ret (Fin.quiet rfl trivial hq ⟨by show AV.bool _ = _; unfold flessE; rw [e1, e2]; rfl, rfl⟩)
    | false =>
      try simp only [↓reduceIte, aopsT, qstep, astep, ev, setd, List.set, List.getD, List.getElem?_cons_zero, List.getElem?_cons_succ, then_normal, Option.getD_some, Bool.false_eq_true, binv, ↓opt_def, ldc, eq_self, h0, h0', Bool.not_false, Nat.zero_add]
      refine h1 _ _ ?_
      try clear h1 K_h1
      exact T.ret (Fin.quiet rfl trivial hq ⟨by show AV.bool _ = _; unfold flessE; rw [e1, e2]; rfl, rfl⟩)

set_option maxRecDepth 10000 in
theorem haheadO_ok {h pl : Nat} {G : Option Nat} {l : List (En On)} {turn i k : Nat} {a b : En On} {σ : St} (H : HpO σ h pl G l turn) (ha : l[i]? = some a) (hb : l[k]? = some b) :
    ACalls Try.prog n_haheadO [.ptr h 0, .int .i64 (i : Int), .int .i64 (k : Int)] σ (fun v σ' => v = .bool (aheadE keyO a b) ∧ σ' = σ) := by
  refine s_haheadO (fun wf => ?_)
  unfold c_haheadO
  obtain ⟨nm, rfl⟩ := H.named ha
  obtain ⟨_, cs, hr, hl, hc⟩ := H.row nm rfl
  have hobj := H.obj
  have hless := H.less
  simp only [hslO] at hobj
  obtain ⟨la, ga⟩ := rowk_get eCO_len hc hl ha
  obtain ⟨lb, gb⟩ := rowk_get eCO_len hc hl hb
  have hil := (List.getElem?_eq_some_iff.1 ha).1
  have hkl := (List.getElem?_eq_some_iff.1 hb).1
  have hhn := wf.lt hobj
  have hnn := wf.lt hr
  refine T.seq_k (fun K_h0 h0 => ?_)
  refine T.regi hm ?_
  simp only [↓reduceIte, namesOf, List.any, I.names, aopsI, astep, ev, setd, List.set, List.cons_append, List.nil_append, List.length_cons, List.length_nil, List.replicate, then_normal, Bool.or_false, Bool.false_eq_true, up_zero, Nat.reduceAdd, Nat.reduceSub]
  refine h0 _ _ ?_
  try clear h0 K_h0
  refine T.seq_k (fun K_h1 h1 => ?_)
  refine T.regt hm (tbl := []) Tbl.ok_nil ?_
  refine aopsT_cut 16 (fun K_c h_c => ?_)
  try simp only [↓reduceIte, namesOf, List.any, I.names, aopsT, qstep, astep, ev, setd, List.set, List.getD, List.getElem?_cons_zero, List.getElem?_cons_succ, List.length_cons, List.length_nil, Option.getD_some, Bool.or_false, Bool.or_true, Nat.reduceAdd, ↓opt_def, ldc, Int.natCast_nonneg, lt_len, Int.toNat_natCast, and_true, eq_self, List.take_succ_cons, List.take_zero, hobj, hr, la, ga, lb, gb, hil, hkl, hhn, hnn, Nat.add_lt_add_iff_right, St.up_res, Nat.zero_add]
  refine h_c _ _ ?_
  clear h_c K_c
  simp only [List.drop_succ_cons, List.drop_zero, Nat.zero_add]
  have hq : ∀ n x, σ.res n = some x → (((σ.up 18).set (σ.next + 14) (.obj [.int .i64 0, .int .i64 0, .int .i64 0, .int .i64 0, .int .i64 0])).set (σ.next + 15) (.obj [.int .i64 0, .int .i64 0, .int .i64 0, .int .i64 0, .int .i64 0])).res n = some x := set2_quiet wf _ _ (by omega) (by omega)
  have hz1 : (((σ.up 18).set (σ.next + 14) (.obj [.int .i64 0, .int .i64 0, .int .i64 0, .int .i64 0, .int .i64 0])).set (σ.next + 15) (.obj [.int .i64 0, .int .i64 0, .int .i64 0, .int .i64 0, .int .i64 0])).res (σ.next + 14) = some (.obj [.int .i64 0, .int .i64 0, .int .i64 0, .int .i64 0, .int .i64 0]) := by rw [St.set_other _ _ (by omega)]; simp
  have hz2 : (((σ.up 18).set (σ.next + 14) (.obj [.int .i64 0, .int .i64 0, .int .i64 0, .int .i64 0, .int .i64 0])).set (σ.next + 15) (.obj [.int .i64 0, .int .i64 0, .int .i64 0, .int .i64 0, .int .i64 0])).res (σ.next + 15) = some (.obj [.int .i64 0, .int .i64 0, .int .i64 0, .int .i64 0, .int .i64 0]) := by simp
  have hlo : σ.next ≤ σ.next + 14 := by omega
  have hlo2 : σ.next ≤ σ.next + 15 := by omega
  have hpq : σ.next + 15 ≠ σ.next + 14 := by omega
  generalize (((σ.up 18).set (σ.next + 14) (.obj [.int .i64 0, .int .i64 0, .int .i64 0, .int .i64 0, .int .i64 0])).set (σ.next + 15) (.obj [.int .i64 0, .int .i64 0, .int .i64 0, .int .i64 0, .int .i64 0])) = s at hq hz1 hz2 ⊢
  generalize σ.next + 14 = p at hz1 hlo hpq ⊢
  generalize σ.next + 15 = q at hz2 hlo2 hpq ⊢
  have hz3 : (s.set p (.obj (eCO a))).res q = some (.obj [.int .i64 0, .int .i64 0, .int .i64 0, .int .i64 0, .int .i64 0]) := by rw [St.set_other _ _ hpq]; exact hz2
  have hq2 : ∀ n x, σ.res n = some x → ((s.set p (.obj (eCO a))).set q (.obj (eCO b))).res n = some x := fun n x hx => by
    have hn := wf.lt hx
    rw [St.set_other _ _ (by omega), St.set_other _ _ (by omega)]; exact hq n x hx
  have ha2 : ((s.set p (.obj (eCO a))).set q (.obj (eCO b))).res p = some (.obj (eCO a)) := by rw [St.set_other _ _ (Ne.symm hpq)]; simp
  have hb2 : ((s.set p (.obj (eCO a))).set q (.obj (eCO b))).res q = some (.obj (eCO b)) := by simp
  try simp only [↓reduceIte, aopsT, qstep, astep, ev, setd, List.getD, List.getElem?_cons_zero, List.getElem?_cons_succ, List.cons_append, List.nil_append, List.length_cons, List.length_nil, then_normal, Option.getD_some, Nat.reduceAdd, AV.isAny, AV.cells, eq_self, decide_true, hz1, hz3, Nat.add_le_add_iff_right, hlo, hlo2, AV.fits, AV.one, List.all_cons, List.all_nil, Nat.reduceBEq, Bool.not_false, Bool.and_self, Nat.zero_add, splice, List.take, List.drop, Nat.reduceLeDiff]
  generalize ((s.set p (.obj (eCO a))).set q (.obj (eCO b))) = τ at hq2 ha2 hb2 ⊢
  have ho := hq2 _ _ hobj
  have hll := hq2 _ _ hless
  clear hz1 hz2 hz3 hq hr
  refine h1 _ _ ?_
  try clear h1 K_h1
  refine T.seq_k (fun K_h1 h1 => ?_)
  refine T.regt hm (tbl := []) Tbl.ok_nil ?_
  refine aopsT_cut 9 (fun K_c h_c => ?_)
  try simp only [↓reduceIte, namesOf, List.any, I.names, aopsT, qstep, qget, Tbl.get, astep, ev, setd, List.set, List.getD, List.getElem?_cons_zero, List.getElem?_cons_succ, List.cons_append, List.nil_append, List.length_cons, List.length_nil, Option.getD_some, Bool.or_false, Bool.false_eq_true, up_zero, Nat.reduceAdd, ↓opt_def, ldc, List.map_cons, List.map_nil, List.take_succ_cons, ho, ha2, hb2, Nat.zero_add, List.take, List.drop, Nat.reduceLeDiff]
  refine ⟨_, klessO_ok (a := a) (b := b) hll, ?_⟩
  refine h_c _ _ ?_
  clear h_c K_c
  simp only [List.drop_succ_cons, List.drop_zero, Nat.zero_add]
  have hah := ahead_fless (key := keyO) a b
  cases e1 : flessE keyO a b with
  | true =>
    rw [e1] at hah
    try simp only [↓reduceIte, aopsT, qstep, astep, ev, setd, List.set, List.getD, List.getElem?_cons_zero, List.getElem?_cons_succ, then_normal, Option.getD_some, eq_self, reduceCtorEq]
    refine h1 _ _ ?_
    try clear h1 K_h1
    exact T.ret (Fin.quiet rfl trivial hq2 ⟨by rw [hah]; rfl, rfl⟩)
  | false =>
    rw [e1] at hah
    refine aopsT_cut 10 (fun K_c h_c => ?_)
    try simp only [↓reduceIte, aopsT, qstep, qget, Tbl.get, astep, ev, setd, List.set, List.getD, List.getElem?_cons_zero, List.getElem?_cons_succ, List.cons_append, List.nil_append, List.length_cons, List.length_nil, Option.getD_some, Nat.reduceAdd, ↓opt_def, ldc, List.map_cons, List.map_nil, eq_self, List.take_succ_cons, ho, ha2, hb2, Nat.zero_add, List.take, List.drop, Nat.reduceLeDiff]
    refine ⟨_, klessO_ok (a := b) (b := a) hll, ?_⟩
    refine h_c _ _ ?_
    clear h_c K_c
    simp only [List.drop_succ_cons, List.drop_zero, Nat.reduceAdd]
    cases e2 : flessE keyO b a with
    | true =>
      rw [e2] at hah
      try simp only [↓reduceIte, aopsT, qstep, astep, ev, setd, List.set, List.getD, List.getElem?_cons_zero, List.getElem?_cons_succ, then_normal, Option.getD_some, Bool.false_eq_true, Nat.reduceAdd, binv, ↓opt_def, ldc, eq_self]
      refine h1 _ _ ?_
      try clear h1 K_h1
      exact T.ret (Fin.quiet rfl trivial hq2 ⟨by rw [hah]; rfl, rfl⟩)
    | false =>
      rw [e2] at hah
      try simp only [↓reduceIte, aopsT, qstep, astep, ev, setd, List.set, List.getD, List.getElem?_cons_zero, List.getElem?_cons_succ, then_normal, Option.getD_some, Bool.false_eq_true, binv, ↓opt_def, ldc, eq_self, ha2, hb2, Bool.not_false, Nat.zero_add]
      refine h1 _ _ ?_
      try clear h1 K_h1
      exact T.ret (Fin.quiet rfl trivial hq2 ⟨by rw [hah]; rfl, rfl⟩)

/-- what a heap's doings leave as it was -/
structure HFrO (σ σ' : St) (h : Nat) (G : Option Nat) : Prop where
  next : σ.next ≤ σ'.next
  old : ∀ n, n < σ.next → n ≠ h → (∀ g, G = some g → n ≠ g) → σ'.res n = σ.res n

theorem HFrO.refl {σ : St} {h : Nat} {G : Option Nat} : HFrO σ σ h G := ⟨Nat.le_refl _, fun _ _ _ _ => rfl⟩

theorem HFrO.trans {a b c : St} {h : Nat} {G G' : Option Nat} (x : HFrO a b h G) (y : HFrO b c h G') (hG : ∀ g, G' = some g → G = some g ∨ a.next ≤ g) : HFrO a c h G :=
  ⟨Nat.le_trans x.next y.next, fun n h1 h2 h3 => (y.old n (Nat.lt_of_lt_of_le h1 x.next) h2 (fun g e => by
    rcases hG g e with h | h
    · exact h3 g h
    · omega)).trans (x.old n h1 h2 h3)⟩

set_option maxRecDepth 10000 in
theorem hswapO_ok {h pl : Nat} {G : Option Nat} {l : List (En On)} {turn i k : Nat} {a b : En On} {σ : St} (H : HpO σ h pl G l turn) (ha : l[i]? = some a) (hb : l[k]? = some b) :
    ACalls Try.prog n_hswapO [.ptr h 0, .int .i64 (i : Int), .int .i64 (k : Int)] σ (fun v σ' => v = .tup [] ∧ HpO σ' h pl G (sw l i k a b) turn ∧ HFrO σ σ' h G ∧ σ'.next = σ.next) := by
  refine s_hswapO (fun wf => ?_)
  unfold c_hswapO
  obtain ⟨nm, rfl⟩ := H.named ha
  obtain ⟨hne, cs, hr, hl, hc⟩ := H.row nm rfl
  have hobj := H.obj
  simp only [hslO] at hobj
  obtain ⟨la, ga⟩ := rowk_get eCO_len hc hl ha
  obtain ⟨lb, gb⟩ := rowk_get eCO_len hc hl hb
  have hil := (List.getElem?_eq_some_iff.1 ha).1
  have hkl := (List.getElem?_eq_some_iff.1 hb).1
  obtain ⟨s1, t1⟩ := rowk_set eCO_len hc hl hil b
  have hl1 : (l.set i b).length * 5 ≤ (splice cs (i * 5) (eCO b)).length := by rw [s1, List.length_set]; exact hl
  have hc1 : (splice cs (i * 5) (eCO b)).take ((l.set i b).length * 5) = (l.set i b).flatMap eCO := by rw [List.length_set]; exact t1
  obtain ⟨s2, t2⟩ := rowk_set eCO_len hc1 hl1 (i := k) (by rw [List.length_set]; exact hkl) a
  have la1 : i * 5 + 5 ≤ cs.length := la
  have lb1 : k * 5 + 5 ≤ (splice cs (i * 5) (eCO b)).length := by rw [s1]; exact lb
  generalize hcs1 : splice cs (i * 5) (eCO b) = cs1 at s1 t1 hl1 hc1 s2 t2 lb1
  generalize hcs2 : splice cs1 (k * 5) (eCO a) = cs2 at s2 t2
  have hfa : (AV.agg (eCO a)).fits 5 = true := rfl
  have hfb : (AV.agg (eCO b)).fits 5 = true := rfl
  refine T.regi hm ?_
  simp only [↓reduceIte, namesOf, List.any, I.names, aopsI, astep, ev, setd, List.set, List.getD, List.getElem?_cons_zero, List.getElem?_cons_succ, List.cons_append, List.nil_append, List.length_cons, List.length_nil, List.replicate, Option.getD_some, Bool.or_false, Bool.false_eq_true, up_zero, Nat.reduceAdd, Nat.reduceSub, ↓opt_def, AV.cells, ldc, St.set_same, Int.natCast_nonneg, lt_len, Int.toNat_natCast, and_true, eq_self, decide_true, hobj, hr, la, ga, lb, gb, hil, hkl, hcs1, hcs2, hfa, hfb, lb1, Nat.zero_add, St.set_set, Bool.and_self, decide_true]
  refine Fin.retn rfl ⟨rfl, ⟨?_, ?_, fun e => (by cases e), fun nm' e => ?_, H.ne⟩, ⟨Nat.le_refl _, fun n h1 h2 h3 => St.set_other _ _ (h3 nm rfl)⟩, rfl⟩
  · rw [St.set_other _ _ (Ne.symm hne.1), sw_len]; exact H.obj
  · rw [St.set_other _ _ (Ne.symm hne.2)]; exact H.less
  · cases e
    refine ⟨hne, cs2, St.set_same _ _ _, ?_, ?_⟩
    · rw [sw_len, s2, s1]; exact hl
    · rw [sw_len]; rw [List.length_set] at t2; exact t2

set_option maxRecDepth 10000 in
/-- one more -/
theorem hpushO_ok {h pl : Nat} {G : Option Nat} {l : List (En On)} {turn : Nat} {e : En On} {σ : St} (H : HpO σ h pl G l turn) (hh : HeapL keyO l) (ht : e.turn = turn + 1) (htu : turn < 9223372036854775807) (hlen : l.length ≤ 1000000) :
    ACalls Try.prog n_hpushO [.ptr h 0, .agg (fCO e)] σ (fun v σ' => v = .tup [] ∧ ∃ G' l', HpO σ' h pl G' l' (turn + 1) ∧ l'.Perm (l ++ [e]) ∧ HeapL keyO l' ∧ HFrO σ σ' h G ∧ ∀ g, G' = some g → σ.next ≤ g ∧ g < σ'.next) := by
  refine s_hpushO (fun wf => ?_)
  unfold c_hpushO
  have hobj := H.obj
  have hless := H.less
  have hhn := wf.lt hobj
  have hpn := wf.lt hless
  refine T.seq_k (fun K_h1 h1 => ?_)
  refine T.regi hm ?_
  simp only [↓reduceIte, namesOf, List.any, I.names, aopsI, astep, ev, setd, List.set, List.getD, List.getElem?_cons_zero, List.getElem?_cons_succ, List.cons_append, List.nil_append, List.length_cons, List.length_nil, List.replicate, then_normal, Option.getD_some, Bool.or_false, Bool.false_eq_true, Nat.reduceAdd, Nat.reduceSub, AV.isAny, AV.cells, eq_self]
  have hob1 : ((σ.up 1).set (σ.next + 0) (.obj (fCO e))).res h = _ := (St.set_other _ _ (by omega)).trans hobj
  have hbx : ((σ.up 1).set (σ.next + 0) (.obj (fCO e))).res (σ.next + 0) = some (.obj (fCO e)) := by simp
  have hLk : Like σ ((σ.up 1).set (σ.next + 0) (.obj (fCO e))) := (Like.refl σ).box (n := 1) (i := 0) _
  have hbn : σ.next + 0 < ((σ.up 1).set (σ.next + 0) (.obj (fCO e))).next := by simp
  have hbl : σ.next ≤ σ.next + 0 := by omega
  generalize ((σ.up 1).set (σ.next + 0) (.obj (fCO e))) = σ1 at hob1 hbx hLk hbn ⊢
  generalize σ.next + 0 = b at hbx hbn hbl ⊢
  refine h1 _ _ ?_
  try clear h1 K_h1
  refine T.seq_k (fun K_h1 h1 => ?_)
  have hw : IntKind.i64.wrap ((turn : Int) + 1) = ((turn + 1 : Nat) : Int) := inc64 htu (by omega)
  refine T.regi hm ?_
  simp only [↓reduceIte, namesOf, List.any, I.names, aopsI, astep, ev, setd, List.set, List.getD, List.getElem?_cons_zero, List.getElem?_cons_succ, List.cons_append, List.nil_append, List.length_cons, List.length_nil, then_normal, Option.getD_some, Bool.or_false, Bool.false_eq_true, up_zero, Nat.reduceAdd, binv, ↓opt_def, AV.isAny, AV.cells, ldc, eq_self, decide_true, hob1, hw, AV.fits, AV.one, List.all_cons, List.all_nil, Nat.reduceBEq, Bool.not_false, Bool.and_self, Nat.zero_add, splice, List.take, List.drop, Nat.reduceLeDiff]
  refine h1 _ _ ?_
  try clear h1 K_h1
  refine T.seq_k (fun K_h1 h1 => ?_)
  -- behind the append: it rises
  have key : ∀ (ρ : List AV) (τ : St) (nm : Nat), HpO τ h pl (some nm) (l ++ [e]) (turn + 1) → HFrO σ τ h G → σ.next ≤ nm → nm < τ.next → keep [0] 0 ρ = [.ptr h 0] ++ List.replicate 51 .any → K_h1 ρ τ := by
    clear hob1 hbx hLk hbn hbl
    intro ρ τ nm H1 hfr hn1 hn2 hk
    refine h1 _ _ ?_
    clear h1 K_h1
    refine T.gh (Gh.keep [0]) ?_
    rw [hk]
    have ho1 := H1.obj
    simp only [hslO] at ho1
    have hl1 : (l ++ [e]).length = l.length + 1 := by simp
    rw [hl1] at ho1
    have hw1 : IntKind.i64.wrap (((l.length + 1 : Nat) : Int) - 1) = (l.length : Int) := by rw [wrap64 (by omega) (by omega)]; omega
    refine T.seq_k (fun K_h0 h0 => ?_)
    refine T.regi hm ?_
    simp only [↓reduceIte, namesOf, List.any, I.names, aopsI, astep, ev, setd, List.set, List.getD, List.getElem?_cons_zero, List.getElem?_cons_succ, List.cons_append, List.nil_append, List.replicate, then_normal, Option.getD_some, Bool.or_false, Bool.false_eq_true, up_zero, Nat.reduceAdd, binv, ↓opt_def, ldc, eq_self, ho1, hw1]
    refine h0 _ _ ?_
    try clear h0 K_h0
    refine T.block ?_
    refine T.gh (Gh.keep [0, 4]) ?_
    refine T.loop (fun ρ t => ∃ (i : Nat) (l' : List (En On)), HpO t h pl (some nm) l' (turn + 1) ∧ l'.Perm (l ++ [e]) ∧ Rise keyO i l' ∧ i < l'.length ∧ HFrO σ t h G ∧ nm < t.next ∧ ρ = [.ptr h 0, .any, .any, .any, .int .i64 (i : Int)] ++ List.replicate 47 .any)
      (fun ρ _ => match ρ.getD 4 .any with | .int _ n => n.toNat | _ => 0) ⟨l.length, l ++ [e], H1, .refl _, Rise.start hh e, by simp, hfr, hn2, rfl⟩ ?_
    clear ho1 hw1 H1 hfr
    rintro ρ t ⟨i, l', H1, hp, hr, hil, hfr, hn2, rfl⟩
    have hl'l : l'.length = l.length + 1 := by rw [hp.length_eq]; simp
    refine T.seq_k (fun K_h1 h1 => ?_)
    refine T.seq_k (fun K_h2 h2 => ?_)
    rcases Nat.eq_zero_or_pos i with rfl | hi
    · have e0 : decide (((0 : Nat) : Int) > 0) = false := rfl
      refine T.regi hm ?_
      simp only [↓reduceIte, namesOf, List.any, I.names, aopsI, astep, ev, setd, List.set, List.getD, List.getElem?_cons_zero, List.getElem?_cons_succ, List.cons_append, List.nil_append, List.replicate, then_normal, Option.getD_some, Bool.or_false, Bool.false_eq_true, up_zero, binv, ↓opt_def, Int.toNat_natCast, eq_self, e0]
      refine h2 _ _ ?_
      try clear h2 K_h2
      refine T.cond rfl (fun h => by cases h) (fun _ => T.exit ?_)
      try simp only [List.getD, List.getElem?_cons_zero, List.getElem?_cons_succ, List.cons_append, List.nil_append, List.replicate, Option.getD_some, Int.toNat_natCast, inBlock_exit, then_exit]
      exact Fin.retn rfl ⟨rfl, _, l', H1, hp, hr.done (fun h => absurd h (by omega)), hfr, fun g e => by cases e; exact ⟨hn1, hn2⟩⟩
    · have e0 : decide ((i : Int) > 0) = true := decide_eq_true (by omega)
      have e1 : IntKind.i64.wrap ((i : Int) - 1) = ((i - 1 : Nat) : Int) := by rw [wrap64 (by omega) (by omega)]; omega
      have e2 : IntKind.i64.wrap (((i - 1 : Nat) : Int).tdiv 2) = (((i - 1) / 2 : Nat) : Int) := by
        have h1 : Int.tdiv ((i - 1 : Nat) : Int) 2 = (((i - 1) / 2 : Nat) : Int) := (Int.ofNat_tdiv (i - 1) 2).symm
        rw [h1, wrap64 (by omega) (by omega)]
      have e3 : ¬ ((2 : Int) = 0) := by omega
      have ha : l'[i]? = some l'[i] := by simp [hil]
      have hb : l'[(i - 1) / 2]? = some (l'[(i - 1) / 2]'(by omega)) := by simp
      generalize l'[i] = a at ha
      generalize l'[(i - 1) / 2]'(by omega) = b at hb
      refine T.regt hm (tbl := []) Tbl.ok_nil ?_
      refine aopsT_cut 9 (fun K_c h_c => ?_)
      try simp only [↓reduceIte, namesOf, List.any, I.names, aopsT, qstep, CPt, Tbl.get, astep, ev, setd, List.set, List.getD, List.getElem?_cons_zero, List.getElem?_cons_succ, List.cons_append, List.nil_append, List.replicate, Option.getD_some, Bool.or_false, Bool.false_eq_true, up_zero, binv, ↓opt_def, List.map_cons, List.map_nil, eq_self, List.take_succ_cons, List.take_zero, e0, e1, e2, e3]
      refine (haheadO_ok H1 ha hb).mono ?_
      rintro _ _ ⟨rfl, rfl⟩
      refine h_c _ _ ?_
      clear h_c K_c
      simp only [List.drop_succ_cons, List.drop_zero, Nat.zero_add]
      cases hab : aheadE keyO a b with
      | false =>
        try simp only [↓reduceIte, aopsT, qstep, astep, ev, setd, List.set, List.getD, List.getElem?_cons_zero, List.getElem?_cons_succ, List.cons_append, List.nil_append, List.replicate, then_normal, Option.getD_some, Int.toNat_natCast, eq_self]
        refine h2 _ _ ?_
        try clear h2 K_h2
        refine T.cond rfl (fun h => by cases h) (fun _ => T.exit ?_)
        try simp only [List.getD, List.getElem?_cons_zero, List.getElem?_cons_succ, List.cons_append, List.nil_append, List.replicate, Option.getD_some, Int.toNat_natCast, inBlock_exit, then_exit]
        refine Fin.retn rfl ⟨rfl, _, l', H1, hp, hr.done (fun _ a' b' ha' hb' => ?_), hfr, fun g e => by cases e; exact ⟨hn1, hn2⟩⟩
        rw [ha] at ha'; rw [hb] at hb'; cases ha'; cases hb'; exact hab
      | true =>
        try simp only [↓reduceIte, aopsT, qstep, astep, ev, setd, List.set, List.getD, List.getElem?_cons_zero, List.getElem?_cons_succ, List.cons_append, List.nil_append, List.replicate, then_normal, Option.getD_some, Int.toNat_natCast, eq_self]
        refine h2 _ _ ?_
        try clear h2 K_h2
        refine T.cond rfl (fun _ => T.skip ?_) (fun h => by cases h)
        refine h1 _ _ ?_
        try clear h1 K_h1
        refine T.seq_k (fun K_h1 h1 => ?_)
        refine T.block ?_
        refine T.regi hm ?_
        simp only [↓reduceIte, namesOf, List.any, I.names, aopsI, astep, ev, setd, List.set, List.getD, List.getElem?_cons_zero, List.getElem?_cons_succ, List.cons_append, List.nil_append, List.replicate, then_normal, inBlock_normal, Option.getD_some, Bool.or_false, Bool.false_eq_true, up_zero, binv, ↓opt_def, List.map_cons, List.map_nil, Int.toNat_natCast, eq_self, e1, e2, e3]
        refine (hswapO_ok H1 ha hb).mono ?_
        rintro v τ2 ⟨rfl, H2, hf2, hnx⟩
        try simp only [↓reduceIte, namesOf, List.any, I.names, aops, aopsI, aopsT, qstep, CPt, qget, Tbl.get, astep, ev, setd, List.set, List.getD, List.getElem?_cons_zero, List.getElem?_cons_succ, List.getElem?_nil, List.cons_append, List.nil_append, List.length_cons, List.length_nil, List.replicate, then_normal, inBlock_normal, Option.getD_some, Option.getD_none, Bool.or_false, Bool.or_true, Bool.true_or, Bool.false_or, Bool.false_eq_true, if_false, if_true, up_zero, Nat.reduceAdd, Nat.reduceSub, binv, ↓opt_def, AV.isAny, AV.cells, ldc, List.map_cons, List.map_nil, St.set_next, St.set_same, St.up_next, Int.natCast_nonneg, lt_len, le_len, Int.toNat_natCast, true_and, and_true, eq_self, reduceCtorEq, decide_true, List.length_singleton, er_int, er_bool, er_str, srcR, up_zero]
        refine h1 _ _ ?_
        try clear h1 K_h1
        refine T.regi hm ?_
        simp only [↓reduceIte, namesOf, List.any, I.names, aopsI, astep, ev, setd, List.set, List.getD, List.getElem?_cons_zero, List.getElem?_cons_succ, List.cons_append, List.nil_append, List.replicate, then_normal, Option.getD_some, Bool.or_false, Bool.false_eq_true, up_zero, binv, ↓opt_def, Int.toNat_natCast, eq_self, e1, e2, e3]
        refine ⟨_, _, Gh.keep [0, 4], ⟨(i - 1) / 2, sw l' i ((i - 1) / 2) a b, H2, (sw_perm ha hb).trans hp, hr.step hi ha hb hab, by rw [sw_len]; omega, hfr.trans hf2 (fun g e => by cases e; exact .inr hn1), by rw [hnx]; exact hn2, rfl⟩, ?_⟩
        simp only [keep, List.getElem?_cons_succ, List.getElem?_cons_zero, Option.getD_some]
        show (i - 1) / 2 < i
        omega
  have ht0 : (σ1.set h (.obj [.func n_klessO [] [.ptr pl 0], hslO G l.length, .int .i64 ((turn + 1 : Nat) : Int)])).res h = some (.obj [.func n_klessO [] [.ptr pl 0], hslO G l.length, .int .i64 ((turn + 1 : Nat) : Int)]) := St.set_same _ _ _
  have hbx0 : (σ1.set h (.obj [.func n_klessO [] [.ptr pl 0], hslO G l.length, .int .i64 ((turn + 1 : Nat) : Int)])).res b = some (.obj (fCO e)) := by rw [St.set_other _ _ (by omega)]; exact hbx
  have hk0 : ∀ n, n < σ.next → n ≠ h → (σ1.set h (.obj [.func n_klessO [] [.ptr pl 0], hslO G l.length, .int .i64 ((turn + 1 : Nat) : Int)])).res n = σ.res n := fun n h1 h2 => by rw [St.set_other _ _ h2]; exact hLk.same n h1
  have hn0 : σ.next ≤ (σ1.set h (.obj [.func n_klessO [] [.ptr pl 0], hslO G l.length, .int .i64 ((turn + 1 : Nat) : Int)])).next := hLk.next
  generalize (σ1.set h (.obj [.func n_klessO [] [.ptr pl 0], hslO G l.length, .int .i64 ((turn + 1 : Nat) : Int)])) = τ at ht0 hbx0 hk0 hn0 ⊢
  clear hob1 hbx hLk hbn
  have hbu : ∀ k, (τ.up k).res b = some (.obj (fCO e)) := fun _ => hbx0
  have hhu : ∀ k, (τ.up k).res h = some (.obj [.func n_klessO [] [.ptr pl 0], hslO G l.length, .int .i64 ((turn + 1 : Nat) : Int)]) := fun _ => ht0
  cases G with
  | none =>
    have hl0 := H.no rfl
    subst hl0
    simp only [hslO] at hhu
    refine T.regt hm (tbl := []) Tbl.ok_nil ?_
    refine aopsT_cut 13 (fun K_c h_c => ?_)
    try simp only [↓reduceIte, namesOf, List.any, I.names, aopsT, qstep, astep, ev, setd, List.set, List.getD, List.getElem?_cons_zero, List.getElem?_cons_succ, List.cons_append, List.nil_append, List.length_cons, List.length_nil, Option.getD_some, Bool.or_false, Bool.or_true, Bool.false_eq_true, Nat.reduceAdd, ↓opt_def, AV.isAny, AV.cells, ldc, List.map_cons, List.map_nil, eq_self, srcR, List.take_succ_cons, hbu, hhu, fillA, ↓Option.map_some, held, srcOf, AV.er, AV.er1, Ver.noRoom, AV.fits, AV.one, List.all_cons, List.all_nil, Nat.reduceBEq, Bool.not_false, Bool.and_self, Nat.zero_add, splice, List.take, List.drop, Nat.reduceLeDiff, Nat.one_mul, Nat.zero_add, and_self, List.isEmpty, List.flatMap_cons, List.flatMap_nil, List.append_nil]
    refine h_c _ _ ?_
    clear h_c K_c
    simp only [List.drop_succ_cons, List.drop_zero, Nat.zero_add]
    have hh2 : ((τ.up 16).set (τ.next + 12) (.obj [.int .i64 e.x.n, .int .i64 e.x.row, .int .i64 e.x.at_, .int .i64 (e.row : Int), .int .i64 ((turn + 1 : Nat) : Int)])).res h = some (.obj [.func n_klessO [] [.ptr pl 0], .sl [] .nil, .int .i64 ((turn + 1 : Nat) : Int)]) := by rw [St.set_other _ _ (by omega)]; exact hhu 16
    try simp only [↓reduceIte, aopsT, qstep, astep, ev, setd, List.set, List.getD, List.getElem?_cons_zero, List.getElem?_cons_succ, List.cons_append, List.nil_append, List.length_cons, List.length_nil, then_normal, Option.getD_some, Nat.reduceAdd, AV.isAny, AV.cells, eq_self, decide_true, hh2, AV.fits, AV.one, List.all_cons, List.all_nil, Nat.reduceBEq, Bool.not_false, Bool.and_self, Nat.zero_add, splice, List.take, List.drop, Nat.reduceLeDiff]
    refine key _ _ (τ.next + 12) ⟨St.set_same _ _ _, ?_, fun e => (by cases e), fun nm' e' => ?_, H.ne⟩ ⟨by simp; omega, fun n h1 h2 _ => ?_⟩ (by omega) (by simp) rfl
    · rw [St.set_other _ _ H.ne, St.set_other _ _ (by omega)]; exact (hk0 pl hpn H.ne).trans hless
    · cases e'
      refine ⟨⟨by omega, by omega⟩, [.int .i64 e.x.n, .int .i64 e.x.row, .int .i64 e.x.at_, .int .i64 (e.row : Int), .int .i64 ((turn + 1 : Nat) : Int)], ?_, by simp, ?_⟩
      · rw [St.set_other _ _ (by omega)]; simp
      · rw [← ht]; rfl
    · rw [St.set_other _ _ h2, St.set_other _ _ (by omega)]; exact hk0 n h1 h2
  | some nm =>
    obtain ⟨⟨hne1, hne2⟩, cs, hr, hl, hc⟩ := H.row nm rfl
    have hnn := wf.lt hr
    have hru : ∀ k, (τ.up k).res nm = some (.obj cs) := fun _ => (hk0 nm hnn hne1).trans hr
    simp only [hslO] at hhu
    have hb1 : (l.length + 1) * 40 ≤ 70368744177664 := by omega
    have hb2 : l.length + 1 ≤ 4611686018427387904 := by omega
    refine T.regt hm (tbl := []) Tbl.ok_nil ?_
    refine aopsT_cut 13 (fun K_c h_c => ?_)
    try simp only [↓reduceIte, namesOf, List.any, I.names, aopsT, qstep, astep, ev, setd, List.set, List.getD, List.getElem?_cons_zero, List.getElem?_cons_succ, List.cons_append, List.nil_append, List.length_cons, List.length_nil, Option.getD_some, Bool.or_false, Bool.or_true, Nat.reduceAdd, ↓opt_def, AV.isAny, AV.cells, ldc, List.map_cons, List.map_nil, eq_self, srcR, List.take_succ_cons, hbu, hhu, hru, hl, hb1, hb2, fillA, ↓Option.map_some, held, srcOf, AV.er, AV.er1, AV.fits, AV.one, List.all_cons, List.all_nil, Nat.reduceBEq, Bool.not_false, Bool.and_self, Nat.zero_add, splice, List.take, List.drop, Nat.reduceLeDiff, Nat.zero_add, and_self, List.flatMap_cons, List.flatMap_nil, List.append_nil]
    refine h_c _ _ ?_
    clear h_c K_c
    simp only [List.drop_succ_cons, List.drop_zero, Nat.zero_add]
    have hh2 : (((τ.up 16).del nm).set (τ.next + 12) (.obj (cs.take (l.length * 5) ++ [.int .i64 e.x.n, .int .i64 e.x.row, .int .i64 e.x.at_, .int .i64 (e.row : Int), .int .i64 ((turn + 1 : Nat) : Int)]))).res h = some (.obj [.func n_klessO [] [.ptr pl 0], .refr nm 5 l.length, .int .i64 ((turn + 1 : Nat) : Int)]) := by
      rw [St.set_other _ _ (by omega)]
      simp only [St.del, if_neg (Ne.symm hne1)]; exact hhu 16
    try simp only [↓reduceIte, aopsT, qstep, astep, ev, setd, List.set, List.getD, List.getElem?_cons_zero, List.getElem?_cons_succ, List.cons_append, List.nil_append, List.length_cons, List.length_nil, then_normal, Option.getD_some, Nat.reduceAdd, AV.isAny, AV.cells, eq_self, decide_true, hh2, AV.fits, AV.one, List.all_cons, List.all_nil, Nat.reduceBEq, Bool.not_false, Bool.and_self, Nat.zero_add, splice, List.take, List.drop, Nat.reduceLeDiff]
    refine key _ _ (τ.next + 12) ⟨?_, ?_, fun e => (by cases e), fun nm' e' => ?_, H.ne⟩ ⟨by simp; omega, fun n h1 h2 h3 => ?_⟩ (by omega) (by simp) rfl
    · rw [St.set_same]; simp [hslO]
    · rw [St.set_other _ _ H.ne, St.set_other _ _ (by omega)]
      simp only [St.del, if_neg (Ne.symm hne2)]; exact (hk0 pl hpn H.ne).trans hless
    · cases e'
      refine ⟨⟨by omega, by omega⟩, cs.take (l.length * 5) ++ [.int .i64 e.x.n, .int .i64 e.x.row, .int .i64 e.x.at_, .int .i64 (e.row : Int), .int .i64 ((turn + 1 : Nat) : Int)], ?_, ?_, ?_⟩
      · rw [St.set_other _ _ (by omega)]; simp
      · simp only [List.length_append, List.length_take, List.length_cons, List.length_nil]; omega
      · rw [List.take_of_length_le (by simp only [List.length_append, List.length_take, List.length_cons, List.length_nil]; omega), hc, List.flatMap_append, ← ht]; rfl
    · rw [St.set_other _ _ h2, St.set_other _ _ (by omega)]
      simp only [St.del, if_neg (h3 nm rfl)]; exact hk0 n h1 h2

theorem nb_fO (m : Nat) (e : En On) : (AV.agg (fCO e)).nb m := ⟨trivial, trivial, trivial, trivial, trivial⟩

/-- what Peek and Pop tell -/
def topO : List (En On) → AV
  | [] => .tup [.agg [.int .i64 0, .int .i64 0, .int .i64 0, .int .i64 0], .bool false]
  | e :: _ => .tup [.agg (fCO e), .bool true]

set_option maxRecDepth 10000 in
theorem hpeekO_ok {h pl : Nat} {G : Option Nat} {l : List (En On)} {turn : Nat} {σ : St} (H : HpO σ h pl G l turn) :
    ACalls Try.prog n_hpeekO [.ptr h 0] σ (fun v σ' => v = topO l ∧ σ' = σ) := by
  refine s_hpeekO (fun wf => ?_)
  unfold c_hpeekO
  have hobj := H.obj
  have hhn := wf.lt hobj
  refine T.seq_k (fun K_h1 h1 => ?_)
  refine T.regi hm ?_
  simp only [↓reduceIte, namesOf, List.any, I.names, aopsI, astep, ev, setd, List.set, List.cons_append, List.nil_append, List.length_cons, List.length_nil, List.replicate, then_normal, Bool.or_false, Nat.reduceAdd, Nat.reduceSub, eq_self]
  have hL1 : Like σ ((σ.up 2).set (σ.next + 0) (.obj [.int .i64 0, .int .i64 0, .int .i64 0, .int .i64 0])) := (Like.refl σ).box (n := 2) (i := 0) _
  have hp1 : ((σ.up 2).set (σ.next + 0) (.obj [.int .i64 0, .int .i64 0, .int .i64 0, .int .i64 0])).res (σ.next + 0) = some (.obj [.int .i64 0, .int .i64 0, .int .i64 0, .int .i64 0]) := by simp
  have hpn : σ.next + 0 < ((σ.up 2).set (σ.next + 0) (.obj [.int .i64 0, .int .i64 0, .int .i64 0, .int .i64 0])).next := by simp
  have hpl : σ.next ≤ σ.next + 0 := by omega
  generalize ((σ.up 2).set (σ.next + 0) (.obj [.int .i64 0, .int .i64 0, .int .i64 0, .int .i64 0])) = σ1 at hL1 hp1 hpn ⊢
  generalize σ.next + 0 = p at hp1 hpn hpl ⊢
  have ho1 := hL1.get hhn hobj
  refine h1 _ _ ?_
  try clear h1 K_h1
  refine T.seq_k (fun K_h1 h1 => ?_)
  cases l with
  | nil =>
    cases G with
    | none =>
      refine T.seq_k (fun K_h2 h2 => ?_)
      simp only [hslO] at ho1
      refine T.regi hm ?_
      simp only [↓reduceIte, namesOf, List.any, I.names, aopsI, astep, ev, setd, List.set, List.getD, List.getElem?_cons_zero, List.getElem?_cons_succ, List.length_nil, then_normal, Option.getD_some, Bool.or_false, Bool.false_eq_true, up_zero, Nat.reduceAdd, binv, ↓opt_def, ldc, eq_self, ho1, List.length_nil, Int.natCast_zero, beq_self_eq_true]
      refine h2 _ _ ?_
      try clear h2 K_h2
      refine T.cond rfl (fun _ => ?_) (fun h => by cases h)
      refine T.seq_k (fun K_h2 h2 => ?_)
      refine T.regi hm ?_
      simp only [↓reduceIte, namesOf, List.any, I.names, aopsI, astep, setd, List.set, List.length_cons, List.length_nil, then_normal, Bool.or_false, Nat.reduceAdd, eq_self]
      have hp2 : ((σ1.up 1).set (σ1.next + 0) (.obj [.int .i64 0, .int .i64 0, .int .i64 0, .int .i64 0])).res p = some (.obj [.int .i64 0, .int .i64 0, .int .i64 0, .int .i64 0]) := by rw [St.set_other _ _ (by omega)]; exact hp1
      have hp3 : ((σ1.up 1).set (σ1.next + 0) (.obj [.int .i64 0, .int .i64 0, .int .i64 0, .int .i64 0])).res (σ1.next + 0) = some (.obj [.int .i64 0, .int .i64 0, .int .i64 0, .int .i64 0]) := by simp
      have hL2 : Like σ ((σ1.up 1).set (σ1.next + 0) (.obj [.int .i64 0, .int .i64 0, .int .i64 0, .int .i64 0])) := hL1.box (n := 1) (i := 0) _
      generalize ((σ1.up 1).set (σ1.next + 0) (.obj [.int .i64 0, .int .i64 0, .int .i64 0, .int .i64 0])) = σ2 at hp2 hp3 hL2 ⊢
      generalize σ1.next + 0 = q at hp3 ⊢
      refine h2 _ _ ?_
      try clear h2 K_h2
      refine T.seq_k (fun K_h2 h2 => ?_)
      refine T.regi hm ?_
      simp only [↓reduceIte, namesOf, List.any, I.names, aopsI, astep, ev, setd, List.set, List.getD, List.getElem?_cons_zero, List.getElem?_cons_succ, List.cons_append, List.nil_append, List.length_cons, List.length_nil, then_normal, Option.getD_some, Bool.or_false, Bool.false_eq_true, up_zero, Nat.reduceAdd, ↓opt_def, AV.isAny, AV.cells, ldc, eq_self, decide_true, hp2, hp3, AV.fits, AV.one, List.all_cons, List.all_nil, Nat.reduceBEq, Bool.not_false, Bool.and_self, Nat.zero_add, splice, List.take, List.drop, Nat.reduceLeDiff]
      have hL3 : Like σ (σ2.set p (.obj [.int .i64 0, .int .i64 0, .int .i64 0, .int .i64 0])) := hL2.set _ hpl
      have hp4 : (σ2.set p (.obj [.int .i64 0, .int .i64 0, .int .i64 0, .int .i64 0])).res p = some (.obj [.int .i64 0, .int .i64 0, .int .i64 0, .int .i64 0]) := St.set_same _ _ _
      generalize (σ2.set p (.obj [.int .i64 0, .int .i64 0, .int .i64 0, .int .i64 0])) = σ3 at hL3 hp4 ⊢
      refine h2 _ _ ?_
      try clear h2 K_h2
      exact T.ret (Fin.quiet (xs := [.agg [.int .i64 0, .int .i64 0, .int .i64 0, .int .i64 0], .bool false]) (by simp [rvals, rval, hp4, ldc]) (⟨⟨trivial, trivial, trivial, trivial, trivial⟩, trivial, trivial⟩) (hL3.quiet wf) ⟨rfl, rfl⟩)
    | some nm =>
      refine T.seq_k (fun K_h2 h2 => ?_)
      simp only [hslO] at ho1
      refine T.regi hm ?_
      simp only [↓reduceIte, namesOf, List.any, I.names, aopsI, astep, ev, setd, List.set, List.getD, List.getElem?_cons_zero, List.getElem?_cons_succ, List.length_nil, then_normal, Option.getD_some, Bool.or_false, Bool.false_eq_true, up_zero, Nat.reduceAdd, binv, ↓opt_def, ldc, eq_self, ho1, List.length_nil, Int.natCast_zero, beq_self_eq_true]
      refine h2 _ _ ?_
      try clear h2 K_h2
      refine T.cond rfl (fun _ => ?_) (fun h => by cases h)
      refine T.seq_k (fun K_h2 h2 => ?_)
      refine T.regi hm ?_
      simp only [↓reduceIte, namesOf, List.any, I.names, aopsI, astep, setd, List.set, List.length_cons, List.length_nil, then_normal, Bool.or_false, Nat.reduceAdd, eq_self]
      have hp2 : ((σ1.up 1).set (σ1.next + 0) (.obj [.int .i64 0, .int .i64 0, .int .i64 0, .int .i64 0])).res p = some (.obj [.int .i64 0, .int .i64 0, .int .i64 0, .int .i64 0]) := by rw [St.set_other _ _ (by omega)]; exact hp1
      have hp3 : ((σ1.up 1).set (σ1.next + 0) (.obj [.int .i64 0, .int .i64 0, .int .i64 0, .int .i64 0])).res (σ1.next + 0) = some (.obj [.int .i64 0, .int .i64 0, .int .i64 0, .int .i64 0]) := by simp
      have hL2 : Like σ ((σ1.up 1).set (σ1.next + 0) (.obj [.int .i64 0, .int .i64 0, .int .i64 0, .int .i64 0])) := hL1.box (n := 1) (i := 0) _
      generalize ((σ1.up 1).set (σ1.next + 0) (.obj [.int .i64 0, .int .i64 0, .int .i64 0, .int .i64 0])) = σ2 at hp2 hp3 hL2 ⊢
      generalize σ1.next + 0 = q at hp3 ⊢
      refine h2 _ _ ?_
      try clear h2 K_h2
      refine T.seq_k (fun K_h2 h2 => ?_)
      refine T.regi hm ?_
      simp only [↓reduceIte, namesOf, List.any, I.names, aopsI, astep, ev, setd, List.set, List.getD, List.getElem?_cons_zero, List.getElem?_cons_succ, List.cons_append, List.nil_append, List.length_cons, List.length_nil, then_normal, Option.getD_some, Bool.or_false, Bool.false_eq_true, up_zero, Nat.reduceAdd, ↓opt_def, AV.isAny, AV.cells, ldc, eq_self, decide_true, hp2, hp3, AV.fits, AV.one, List.all_cons, List.all_nil, Nat.reduceBEq, Bool.not_false, Bool.and_self, Nat.zero_add, splice, List.take, List.drop, Nat.reduceLeDiff]
      have hL3 : Like σ (σ2.set p (.obj [.int .i64 0, .int .i64 0, .int .i64 0, .int .i64 0])) := hL2.set _ hpl
      have hp4 : (σ2.set p (.obj [.int .i64 0, .int .i64 0, .int .i64 0, .int .i64 0])).res p = some (.obj [.int .i64 0, .int .i64 0, .int .i64 0, .int .i64 0]) := St.set_same _ _ _
      generalize (σ2.set p (.obj [.int .i64 0, .int .i64 0, .int .i64 0, .int .i64 0])) = σ3 at hL3 hp4 ⊢
      refine h2 _ _ ?_
      try clear h2 K_h2
      exact T.ret (Fin.quiet (xs := [.agg [.int .i64 0, .int .i64 0, .int .i64 0, .int .i64 0], .bool false]) (by simp [rvals, rval, hp4, ldc]) (⟨⟨trivial, trivial, trivial, trivial, trivial⟩, trivial, trivial⟩) (hL3.quiet wf) ⟨rfl, rfl⟩)
  | cons e r =>
    obtain ⟨nm, rfl⟩ := H.named (i := 0) (a := e) rfl
    obtain ⟨hne, cs, hr, hl, hc⟩ := H.row nm rfl
    obtain ⟨la, ga⟩ := rowk_get eCO_len hc hl (i := 0) (x := e) rfl
    have hr1 := hL1.get (wf.lt hr) hr
    have la3 : 4 ≤ cs.length := by omega
    have ga3 : cs.take 4 = fCO e := by
      have h3 : (cs.take 5).take 4 = (eCO e).take 4 := by rw [← ga]; simp
      rw [List.take_take] at h3
      exact h3
    simp only [hslO] at ho1
    have hpos : 0 < (e :: r).length := by simp
    have hlen : (((e :: r).length : Nat) : Int) = ((r.length + 1 : Nat) : Int) := rfl
    have hz : ((((e :: r).length : Nat) : Int) == 0) = false := by rw [beq_eq_false_iff_ne, hlen]; omega
    have hposI : (0 : Int) < (((e :: r).length : Nat) : Int) := by rw [hlen]; omega
    have hzz : ((0 : Int) ≤ 0) = True := eq_true (Int.le_refl 0)
    generalize hn : (e :: r).length = n at ho1 hpos hz hposI
    refine T.seq_k (fun K_h2 h2 => ?_)
    refine T.regi hm ?_
    simp only [↓reduceIte, namesOf, List.any, I.names, aopsI, astep, ev, setd, List.set, List.getD, List.getElem?_cons_zero, List.getElem?_cons_succ, then_normal, Option.getD_some, Bool.or_false, Bool.false_eq_true, up_zero, Nat.reduceAdd, binv, ↓opt_def, ldc, eq_self, ho1, hz]
    refine h2 _ _ ?_
    try clear h2 K_h2
    refine T.cond rfl (fun h => by cases h) (fun _ => T.skip ?_)
    refine h1 _ _ ?_
    try clear h1 K_h1
    refine T.seq_k (fun K_h1 h1 => ?_)
    have hfit : (AV.agg (fCO e)).fits 4 = true := rfl
    refine T.regi hm ?_
    simp only [↓reduceIte, namesOf, List.any, I.names, aopsI, astep, ev, setd, List.set, List.getD, List.getElem?_cons_zero, List.getElem?_cons_succ, List.cons_append, List.nil_append, List.length_cons, List.length_nil, then_normal, Option.getD_some, Bool.or_false, Bool.false_eq_true, up_zero, Nat.reduceAdd, ↓opt_def, AV.isAny, AV.cells, ldc, and_true, decide_true, ho1, hr1, hposI, hzz, Int.toNat_zero, Nat.zero_mul, Nat.add_zero, Nat.zero_add, la3, ga3, hp1, AV.fits, splice, List.take_zero, List.drop, Nat.reduceLeDiff, decide_true]
    have hL3 : Like σ (σ1.set p (.obj (fCO e))) := hL1.set _ hpl
    have hp4 : (σ1.set p (.obj (fCO e))).res p = some (.obj (fCO e)) := St.set_same _ _ _
    generalize (σ1.set p (.obj (fCO e))) = σ3 at hL3 hp4 ⊢
    refine h1 _ _ ?_
    try clear h1 K_h1
    exact T.ret (Fin.quiet (xs := [.agg (fCO e), .bool true]) (by simp [rvals, rval, hp4, ldc]) ⟨nb_fO _ e, trivial, trivial⟩ (hL3.quiet wf) ⟨rfl, rfl⟩)

theorem HpO.alike {σ t : St} {h pl : Nat} {G : Option Nat} {l : List (En On)} {turn : Nat} (wf : WF σ) (H : HpO σ h pl G l turn) (hk : Like σ t) : HpO t h pl G l turn := H.keep (hk.quiet wf)

set_option maxRecDepth 10000 in
set_option maxHeartbeats 1000000 in
theorem hpopO_nil {h pl : Nat} {G : Option Nat} {turn : Nat} {σ : St} (H : HpO σ h pl G [] turn) :
    ACalls Try.prog n_hpopO [.ptr h 0] σ (fun v σ' => v = .tup [.agg [.int .i64 0, .int .i64 0, .int .i64 0, .int .i64 0], .bool false] ∧ σ' = σ) := by
  refine s_hpopO (fun wf => ?_)
  unfold c_hpopO
  refine T.seq_k (fun K_h1 h1 => ?_)
  refine T.regi hm ?_
  simp only [↓reduceIte, namesOf, List.any, I.names, aopsI, astep, ev, setd, List.set, List.cons_append, List.nil_append, List.length_cons, List.length_nil, List.replicate, then_normal, Bool.or_false, Nat.reduceAdd, Nat.reduceSub, eq_self]
  have hL1 : Like σ ((σ.up 2).set (σ.next + 0) (.obj [.int .i64 0, .int .i64 0, .int .i64 0, .int .i64 0])) := (Like.refl σ).box (n := 2) (i := 0) _
  have hp1 : ((σ.up 2).set (σ.next + 0) (.obj [.int .i64 0, .int .i64 0, .int .i64 0, .int .i64 0])).res (σ.next + 0) = some (.obj [.int .i64 0, .int .i64 0, .int .i64 0, .int .i64 0]) := by simp
  have hpn : σ.next + 0 < ((σ.up 2).set (σ.next + 0) (.obj [.int .i64 0, .int .i64 0, .int .i64 0, .int .i64 0])).next := by simp
  have hpl : σ.next ≤ σ.next + 0 := by omega
  generalize ((σ.up 2).set (σ.next + 0) (.obj [.int .i64 0, .int .i64 0, .int .i64 0, .int .i64 0])) = σ1 at hL1 hp1 hpn ⊢
  generalize σ.next + 0 = p at hp1 hpn hpl ⊢
  refine h1 _ _ ?_
  try clear h1 K_h1
  refine T.seq_k (fun K_h1 h1 => ?_)
  refine T.regt hm (tbl := []) Tbl.ok_nil ?_
  refine aopsT_cut 2 (fun K_c h_c => ?_)
  try simp only [↓reduceIte, namesOf, List.any, I.names, aopsT, qstep, CPt, Tbl.get, astep, ev, setd, List.set, List.getD, List.getElem?_cons_zero, List.getElem?_cons_succ, List.length_cons, List.length_nil, Option.getD_some, Bool.or_false, Bool.or_true, Nat.reduceAdd, List.map_cons, List.map_nil, eq_self, List.take_succ_cons, List.take_zero]
  refine (hpeekO_ok ((H.alike wf hL1).keep (fun n r hr => by simpa using hr))).mono ?_
  rintro _ _ ⟨rfl, rfl⟩
  refine h_c _ _ ?_
  clear h_c K_c
  simp only [List.drop_succ_cons, List.drop_zero, Nat.zero_add, topO]
  try simp only [↓reduceIte, aopsT, qstep, astep, ev, setd, List.set, List.getD, List.getElem?_cons_zero, List.getElem?_cons_succ, List.cons_append, List.nil_append, List.length_cons, List.length_nil, then_normal, Option.getD_some, Nat.reduceAdd, ↓opt_def, AV.isAny, AV.cells, St.set_same, eq_self, decide_true, AV.fits, AV.one, List.all_cons, List.all_nil, Nat.reduceBEq, Bool.not_false, Bool.and_self, Nat.zero_add, splice, List.take, List.drop, Nat.reduceLeDiff, St.set_set]
  have hp2 : ((σ1.up 8).set (σ1.next + 5) (.obj [.int .i64 0, .int .i64 0, .int .i64 0, .int .i64 0])).res p = some (.obj [.int .i64 0, .int .i64 0, .int .i64 0, .int .i64 0]) := by rw [St.set_other _ _ (by omega)]; exact hp1
  have hp3 : ((σ1.up 8).set (σ1.next + 5) (.obj [.int .i64 0, .int .i64 0, .int .i64 0, .int .i64 0])).res (σ1.next + 5) = some (.obj [.int .i64 0, .int .i64 0, .int .i64 0, .int .i64 0]) := by simp
  have hL2 : Like σ ((σ1.up 8).set (σ1.next + 5) (.obj [.int .i64 0, .int .i64 0, .int .i64 0, .int .i64 0])) := hL1.box (n := 8) (i := 5) _
  generalize ((σ1.up 8).set (σ1.next + 5) (.obj [.int .i64 0, .int .i64 0, .int .i64 0, .int .i64 0])) = σ2 at hp2 hp3 hL2 ⊢
  generalize σ1.next + 5 = q at hp3 ⊢
  refine h1 _ _ ?_
  try clear h1 K_h1
  refine T.seq_k (fun K_h1 h1 => ?_)
  refine T.seq_k (fun K_h0 h0 => ?_)
  refine T.regi hm ?_
  simp only [↓reduceIte, namesOf, List.any, I.names, aopsI, astep, ev, setd, List.set, List.getD, List.getElem?_cons_zero, List.getElem?_cons_succ, then_normal, Option.getD_some, Bool.or_false, Bool.false_eq_true, up_zero]
  refine h0 _ _ ?_
  try clear h0 K_h0
  refine T.cond rfl (fun _ => ?_) (fun h => by cases h)
  refine T.seq_k (fun K_h1 h1 => ?_)
  refine T.regi hm ?_
  simp only [↓reduceIte, namesOf, List.any, I.names, aopsI, astep, ev, setd, List.set, List.getD, List.getElem?_cons_zero, List.getElem?_cons_succ, List.cons_append, List.nil_append, List.length_cons, List.length_nil, then_normal, Option.getD_some, Bool.or_false, Bool.false_eq_true, up_zero, Nat.reduceAdd, ↓opt_def, AV.isAny, AV.cells, ldc, eq_self, decide_true, hp2, hp3, AV.fits, AV.one, List.all_cons, List.all_nil, Nat.reduceBEq, Bool.not_false, Bool.and_self, Nat.zero_add, splice, List.take, List.drop, Nat.reduceLeDiff]
  have hL3 : Like σ (σ2.set p (.obj [.int .i64 0, .int .i64 0, .int .i64 0, .int .i64 0])) := hL2.set _ hpl
  have hp4 : (σ2.set p (.obj [.int .i64 0, .int .i64 0, .int .i64 0, .int .i64 0])).res p = some (.obj [.int .i64 0, .int .i64 0, .int .i64 0, .int .i64 0]) := St.set_same _ _ _
  generalize (σ2.set p (.obj [.int .i64 0, .int .i64 0, .int .i64 0, .int .i64 0])) = σ3 at hL3 hp4 ⊢
  refine h1 _ _ ?_
  try clear h1 K_h1
  exact T.ret (Fin.quiet (xs := [.agg [.int .i64 0, .int .i64 0, .int .i64 0, .int .i64 0], .bool false]) (by simp [rvals, rval, hp4, ldc]) (⟨⟨trivial, trivial, trivial, trivial, trivial⟩, trivial, trivial⟩) (hL3.quiet wf) ⟨rfl, rfl⟩)

theorem row_short {β : Type} {f : β → List AV} {k : Nat} (hf : ∀ b, (f b).length = k) {l : List β} {cs : List AV} (hc : cs.take (l.length * k) = l.flatMap f) (hl : l.length * k ≤ cs.length) {n : Nat} (hn : n ≤ l.length) :
    (l.take n).length * k ≤ cs.length ∧ cs.take ((l.take n).length * k) = (l.take n).flatMap f := by
  have hm : n * k ≤ l.length * k := Nat.mul_le_mul_right _ hn
  rw [List.length_take, Nat.min_eq_left hn]
  refine ⟨by omega, ?_⟩
  rw [← flatk_take hf, ← hc, List.take_take, Nat.min_eq_left hm]

/-- the least is gone -/
structure PopO (σ σ' : St) (h pl : Nat) (G : Option Nat) (e : En On) (l l' : List (En On)) (turn : Nat) : Prop where
  hp : HpO σ' h pl G l' turn
  perm : (e :: l').Perm l
  heap : HeapL keyO l'
  fr : HFrO σ σ' h G

set_option maxRecDepth 10000 in
set_option maxHeartbeats 2000000 in
theorem hpopO_ok {h pl : Nat} {G : Option Nat} {e : En On} {r : List (En On)} {turn : Nat} {σ : St} (H : HpO σ h pl G (e :: r) turn) (hh : HeapL keyO (e :: r)) (hlen : (e :: r).length ≤ 1000000) :
    ACalls Try.prog n_hpopO [.ptr h 0] σ (fun v σ' => v = .tup [.agg (fCO e), .bool true] ∧ ∃ l', PopO σ σ' h pl G e (e :: r) l' turn) := by
  refine s_hpopO (fun wf => ?_)
  unfold c_hpopO
  obtain ⟨nm, rfl⟩ := H.named (i := 0) (a := e) rfl
  obtain ⟨⟨hne1, hne2⟩, cs0, hr0, _, _⟩ := H.row nm rfl
  have hnn := wf.lt hr0
  have hhn := wf.lt H.obj
  have hpn0 := wf.lt H.less
  refine T.seq_k (fun K_h1 h1 => ?_)
  refine T.regi hm ?_
  simp only [↓reduceIte, namesOf, List.any, I.names, aopsI, astep, ev, setd, List.set, List.cons_append, List.nil_append, List.length_cons, List.length_nil, List.replicate, then_normal, Bool.or_false, Nat.reduceAdd, Nat.reduceSub, eq_self]
  have hL1 : Like σ ((σ.up 2).set (σ.next + 0) (.obj [.int .i64 0, .int .i64 0, .int .i64 0, .int .i64 0])) := (Like.refl σ).box (n := 2) (i := 0) _
  have hp1 : ((σ.up 2).set (σ.next + 0) (.obj [.int .i64 0, .int .i64 0, .int .i64 0, .int .i64 0])).res (σ.next + 0) = some (.obj [.int .i64 0, .int .i64 0, .int .i64 0, .int .i64 0]) := by simp
  have hpn : σ.next + 0 < ((σ.up 2).set (σ.next + 0) (.obj [.int .i64 0, .int .i64 0, .int .i64 0, .int .i64 0])).next := by simp
  have hpl : σ.next ≤ σ.next + 0 := by omega
  generalize ((σ.up 2).set (σ.next + 0) (.obj [.int .i64 0, .int .i64 0, .int .i64 0, .int .i64 0])) = σ1 at hL1 hp1 hpn ⊢
  generalize σ.next + 0 = p at hp1 hpn hpl ⊢
  refine h1 _ _ ?_
  try clear h1 K_h1
  refine T.seq_k (fun K_h1 h1 => ?_)
  refine T.regt hm (tbl := []) Tbl.ok_nil ?_
  refine aopsT_cut 2 (fun K_c h_c => ?_)
  try simp only [↓reduceIte, namesOf, List.any, I.names, aopsT, qstep, CPt, Tbl.get, astep, ev, setd, List.set, List.getD, List.getElem?_cons_zero, List.getElem?_cons_succ, List.length_cons, List.length_nil, Option.getD_some, Bool.or_false, Bool.or_true, Nat.reduceAdd, List.map_cons, List.map_nil, eq_self, List.take_succ_cons, List.take_zero]
  refine (hpeekO_ok ((H.alike wf hL1).keep (fun n r hr => by simpa using hr))).mono ?_
  rintro _ _ ⟨rfl, rfl⟩
  refine h_c _ _ ?_
  clear h_c K_c
  simp only [List.drop_succ_cons, List.drop_zero, Nat.zero_add, topO]
  try simp only [↓reduceIte, aopsT, qstep, astep, ev, setd, List.set, List.getD, List.getElem?_cons_zero, List.getElem?_cons_succ, List.cons_append, List.nil_append, List.length_cons, List.length_nil, then_normal, Option.getD_some, Nat.reduceAdd, ↓opt_def, AV.isAny, AV.cells, St.set_same, eq_self, decide_true, AV.fits, AV.one, List.all_cons, List.all_nil, Nat.reduceBEq, Bool.not_false, Bool.and_self, Nat.zero_add, splice, List.take, List.drop, Nat.reduceLeDiff, St.set_set]
  have hp2 : ((σ1.up 8).set (σ1.next + 5) (.obj (fCO e))).res p = some (.obj [.int .i64 0, .int .i64 0, .int .i64 0, .int .i64 0]) := by rw [St.set_other _ _ (by omega)]; exact hp1
  have hp3 : ((σ1.up 8).set (σ1.next + 5) (.obj (fCO e))).res (σ1.next + 5) = some (.obj (fCO e)) := by simp
  have hL2 : Like σ ((σ1.up 8).set (σ1.next + 5) (.obj (fCO e))) := hL1.box (n := 8) (i := 5) _
  have hpn2 : p < ((σ1.up 8).set (σ1.next + 5) (.obj (fCO e))).next := by simp; omega
  have hqn2 : σ1.next + 5 < ((σ1.up 8).set (σ1.next + 5) (.obj (fCO e))).next := by simp
  have hql : σ.next ≤ σ1.next + 5 := by omega
  have hpq : p ≠ σ1.next + 5 := by omega
  generalize ((σ1.up 8).set (σ1.next + 5) (.obj (fCO e))) = σ2 at hp2 hp3 hL2 hpn2 hqn2 ⊢
  generalize σ1.next + 5 = q at hp3 hqn2 hql hpq ⊢
  clear hp1 hpn hL1 σ1
  have H2 := H.alike wf hL2
  refine h1 _ _ ?_
  try clear h1 K_h1
  refine T.seq_k (fun K_h1 h1 => ?_)
  refine T.seq_k (fun K_h0 h0 => ?_)
  refine T.regi hm ?_
  simp only [↓reduceIte, namesOf, List.any, I.names, aopsI, astep, ev, setd, List.set, List.getD, List.getElem?_cons_zero, List.getElem?_cons_succ, then_normal, Option.getD_some, Bool.or_false, Bool.false_eq_true, up_zero]
  refine h0 _ _ ?_
  try clear h0 K_h0
  refine T.cond rfl (fun h => by cases h) (fun _ => T.skip ?_)
  refine h1 _ _ ?_
  try clear h1 K_h1
  have ho2 := H2.obj
  simp only [hslO] at ho2
  have hw1 : IntKind.i64.wrap ((((e :: r).length : Nat) : Int) - 1) = (r.length : Int) := by
    have : (((e :: r).length : Nat) : Int) = ((r.length + 1 : Nat) : Int) := rfl
    rw [this, wrap64 (by omega) (by simp at hlen; omega)]; omega
  generalize hln : (e :: r).length = ln at ho2 hw1
  refine T.seq_k (fun K_h0 h0 => ?_)
  refine T.regi hm ?_
  simp only [↓reduceIte, namesOf, List.any, I.names, aopsI, astep, ev, setd, List.set, List.getD, List.getElem?_cons_zero, List.getElem?_cons_succ, then_normal, Option.getD_some, Bool.or_false, Bool.false_eq_true, up_zero, Nat.reduceAdd, binv, ↓opt_def, ldc, eq_self, ho2, hw1]
  refine h0 _ _ ?_
  try clear h0 K_h0
  subst hln
  -- the last one comes first
  have ha : (e :: r)[0]? = some e := rfl
  have hb : (e :: r)[r.length]? = some ((e :: r)[r.length]'(by simp)) := by simp
  generalize (e :: r)[r.length]'(by simp) = b at hb
  refine T.seq_k (fun K_h1 h1 => ?_)
  refine T.regi hm ?_
  simp only [↓reduceIte, namesOf, List.any, I.names, aopsI, astep, ev, setd, List.set, List.getD, List.getElem?_cons_zero, List.getElem?_cons_succ, List.length_cons, then_normal, Option.getD_some, Bool.or_false, Bool.false_eq_true, up_zero, List.map_cons, List.map_nil]
  refine (hswapO_ok (i := 0) H2 ha hb).mono ?_
  rintro v σ3 ⟨rfl, H3, hf3, hnx3⟩
  try simp only [↓reduceIte, namesOf, List.any, I.names, aops, aopsI, aopsT, qstep, CPt, qget, Tbl.get, astep, ev, setd, List.set, List.getD, List.getElem?_cons_zero, List.getElem?_cons_succ, List.getElem?_nil, List.cons_append, List.nil_append, List.length_cons, List.length_nil, List.replicate, then_normal, inBlock_normal, Option.getD_some, Option.getD_none, Bool.or_false, Bool.or_true, Bool.true_or, Bool.false_or, Bool.false_eq_true, if_false, if_true, up_zero, Nat.reduceAdd, Nat.reduceSub, binv, ↓opt_def, AV.isAny, AV.cells, ldc, List.map_cons, List.map_nil, St.set_next, St.set_same, St.up_next, Int.natCast_nonneg, lt_len, le_len, Int.toNat_natCast, true_and, and_true, eq_self, reduceCtorEq, decide_true, List.length_singleton, er_int, er_bool, er_str, srcR, up_zero]
  refine h1 _ _ ?_
  try clear h1 K_h1
  refine T.seq_k (fun K_h1 h1 => ?_)
  have ho3 := H3.obj
  simp only [hslO, sw_len] at ho3
  have hle1 : ((r.length : Int) ≤ ((r.length + 1 : Nat) : Int)) = True := eq_true (by omega)
  refine T.regi hm ?_
  simp only [↓reduceIte, namesOf, List.any, I.names, aopsI, astep, ev, setd, List.set, List.getD, List.getElem?_cons_zero, List.getElem?_cons_succ, List.cons_append, List.nil_append, List.length_cons, List.length_nil, then_normal, Option.getD_some, Bool.or_false, Bool.false_eq_true, up_zero, Nat.reduceAdd, ↓opt_def, AV.isAny, AV.cells, ldc, Int.natCast_nonneg, Int.toNat_natCast, and_true, eq_self, decide_true, ho3, idx, hle1, AV.fits, AV.one, List.all_cons, List.all_nil, Nat.reduceBEq, Bool.not_false, Bool.and_self, Nat.zero_add, splice, List.take, List.drop, Nat.reduceLeDiff]
  obtain ⟨_, cs3, hr3, hl3, hc3⟩ := H3.row nm rfl
  have hsl : (sw (e :: r) 0 r.length e b).length = r.length + 1 := by rw [sw_len]; rfl
  obtain ⟨hl4, hc4⟩ := row_short eCO_len hc3 hl3 (n := r.length) (by rw [hsl]; omega)
  have hp30 : σ3.res p = some (.obj [.int .i64 0, .int .i64 0, .int .i64 0, .int .i64 0]) := by rw [hf3.old p hpn2 (by omega) (fun g e => by cases e; omega)]; exact hp2
  have hq30 : σ3.res q = some (.obj (fCO e)) := by rw [hf3.old q hqn2 (by omega) (fun g e => by cases e; omega)]; exact hp3
  have hln4 : ((sw (e :: r) 0 r.length e b).take r.length).length = r.length := by rw [List.length_take, hsl]; omega
  have H4 : HpO (σ3.set h (.obj [.func n_klessO [] [.ptr pl 0], .refr nm 5 r.length, .int .i64 (turn : Int)])) h pl (some nm) ((sw (e :: r) 0 r.length e b).take r.length) turn := by
    refine ⟨?_, ?_, fun e => (by cases e), fun nm' e' => ?_, H.ne⟩
    · rw [St.set_same, hln4]; rfl
    · rw [St.set_other _ _ H.ne]; exact H3.less
    · cases e'
      exact ⟨⟨hne1, hne2⟩, cs3, by rw [St.set_other _ _ hne1]; exact hr3, hl4, hc4⟩
  have hperm : (e :: (sw (e :: r) 0 r.length e b).take r.length).Perm (e :: r) := by
    have h1 := sw_perm ha hb
    have h2 : sw (e :: r) 0 r.length e b = (sw (e :: r) 0 r.length e b).take r.length ++ [e] := by
      conv => lhs; rw [← List.take_append_drop r.length (sw (e :: r) 0 r.length e b)]
      congr 1
      have h3 := sw_get ha hb r.length
      rw [if_pos rfl] at h3
      obtain ⟨h4, h5⟩ := List.getElem?_eq_some_iff.1 h3
      rw [List.drop_eq_getElem_cons h4, h5, List.drop_eq_nil_of_le (by rw [hsl]; omega)]
    rw [h2] at h1
    exact (List.perm_append_singleton e _).symm.trans h1
  have hsink : Sink keyO 0 ((sw (e :: r) 0 r.length e b).take r.length) := Sink.start hh (by simp) ha hb
  have hfr4 : HFrO σ (σ3.set h (.obj [.func n_klessO [] [.ptr pl 0], .refr nm 5 r.length, .int .i64 (turn : Int)])) h (some nm) := by
    refine ⟨Nat.le_trans hL2.next (by rw [St.set_next, hnx3]; exact Nat.le_refl _), fun n h1 h2 h3 => ?_⟩
    rw [St.set_other _ _ h2, hf3.old n (Nat.lt_of_lt_of_le h1 hL2.next) h2 h3]
    exact hL2.same n h1
  have hp40 : (σ3.set h (.obj [.func n_klessO [] [.ptr pl 0], .refr nm 5 r.length, .int .i64 (turn : Int)])).res p = some (.obj [.int .i64 0, .int .i64 0, .int .i64 0, .int .i64 0]) := by rw [St.set_other _ _ (by omega)]; exact hp30
  have hq40 : (σ3.set h (.obj [.func n_klessO [] [.ptr pl 0], .refr nm 5 r.length, .int .i64 (turn : Int)])).res q = some (.obj (fCO e)) := by rw [St.set_other _ _ (by omega)]; exact hq30
  have hpn4 : p < (σ3.set h (.obj [.func n_klessO [] [.ptr pl 0], .refr nm 5 r.length, .int .i64 (turn : Int)])).next := by rw [St.set_next, hnx3]; exact hpn2
  have hqn4 : q < (σ3.set h (.obj [.func n_klessO [] [.ptr pl 0], .refr nm 5 r.length, .int .i64 (turn : Int)])).next := by rw [St.set_next, hnx3]; exact hqn2
  generalize (σ3.set h (.obj [.func n_klessO [] [.ptr pl 0], .refr nm 5 r.length, .int .i64 (turn : Int)])) = σ4 at H4 hfr4 hp40 hq40 hpn4 hqn4 ⊢
  generalize (sw (e :: r) 0 r.length e b).take r.length = l4 at H4 hperm hsink hln4
  clear hp30 hq30 hl4 hc4 hsl hr3 hl3 hc3 ho3 hle1 hf3 hnx3 H3 H2 hp2 hp3 hL2 hpn2 hqn2 hb ha hr0
  have hrl : r.length ≤ 1000000 := by simp at hlen; omega
  refine h1 _ _ ?_
  try clear h1 K_h1
  refine T.seq_k (fun K_h0 h0 => ?_)
  refine T.regi hm ?_
  simp only [↓reduceIte, namesOf, List.any, I.names, aopsI, astep, ev, setd, List.set, then_normal, Bool.or_false, Bool.false_eq_true, up_zero]
  refine h0 _ _ ?_
  try clear h0 K_h0
  refine T.gh (Gh.keep [0, 2, 4, 6, 7]) ?_
  refine T.block ?_
  refine T.loop (fun ρ t => ∃ (i : Nat) (l' : List (En On)), HpO t h pl (some nm) l' turn ∧ (e :: l').Perm (e :: r) ∧ Sink keyO i l' ∧ l'.length = r.length ∧ (i < r.length ∨ i = 0) ∧ HFrO σ t h (some nm) ∧ t.res p = some (.obj [.int .i64 0, .int .i64 0, .int .i64 0, .int .i64 0]) ∧ t.res q = some (.obj (fCO e)) ∧ p < t.next ∧ q < t.next ∧
      ρ = [.ptr h 0, .any, .ptr p 0, .any, .ptr q 0, .any, .int .i64 (r.length : Int), .int .i64 (i : Int)] ++ List.replicate 55 .any)
    (fun ρ _ => match ρ.getD 7 .any with | .int _ n => r.length - n.toNat | _ => 0) ⟨0, l4, H4, hperm, hsink, hln4, .inr rfl, hfr4, hp40, hq40, hpn4, hqn4, rfl⟩ ?_
  clear H4 hperm hsink hln4 hfr4 hp40 hq40 hpn4 hqn4 σ4 l4
  rintro ρ t ⟨i, l', H1, hperm, hsink, hln, hi, hfr, hp, hq, hpn, hqn, rfl⟩
  have e1 : IntKind.i64.wrap (2 * (i : Int)) = ((2 * i : Nat) : Int) := by rw [wrap64 (by omega) (by omega)]; omega
  have e2 : IntKind.i64.wrap (((2 * i : Nat) : Int) + 1) = ((2 * i + 1 : Nat) : Int) := by rw [wrap64 (by omega) (by omega)]; omega
  have e3 : IntKind.i64.wrap (((2 * i : Nat) : Int) + 3) = ((2 * i + 3 : Nat) : Int) := by rw [wrap64 (by omega) (by omega)]; omega
  have e4 : (if (r.length : Int) < ((2 * i + 3 : Nat) : Int) then (r.length : Int) else ((2 * i + 3 : Nat) : Int)) = ((min (2 * i + 3) r.length : Nat) : Int) := by
    split <;> omega
  refine T.block ?_
  refine T.seq_k (fun K_h0 h0 => ?_)
  refine T.regi hm ?_
  simp only [↓reduceIte, namesOf, List.any, I.names, aopsI, astep, ev, setd, List.set, List.getD, List.getElem?_cons_zero, List.getElem?_cons_succ, List.cons_append, List.nil_append, List.replicate, then_normal, Option.getD_some, Bool.or_false, Bool.false_eq_true, up_zero, Int.toNat_natCast]
  refine h0 _ _ ?_
  try clear h0 K_h0
  refine T.seq_k (fun K_h1 h1 => ?_)
  refine T.seq_k (fun K_h0 h0 => ?_)
  refine T.regi hm ?_
  simp only [↓reduceIte, namesOf, List.any, I.names, aopsI, astep, ev, setd, List.set, List.getD, List.getElem?_cons_zero, List.getElem?_cons_succ, List.cons_append, List.nil_append, List.replicate, then_normal, Option.getD_some, Bool.or_false, Bool.false_eq_true, up_zero, binv, ↓opt_def, Int.toNat_natCast, eq_self, e1, e2]
  refine h0 _ _ ?_
  try clear h0 K_h0
  refine T.block ?_
  refine T.gh (Gh.keep [0, 2, 4, 6, 7, 8, 9]) ?_
  refine T.loopi (fun k ρ t1 => t1 = t ∧ 2 * i + 1 ≤ k ∧ ∃ best, (best = i ∨ (2 * i + 1 ≤ best ∧ best < k ∧ best < r.length)) ∧ (∀ x, l'[best]? = some x → ∀ c y, (c = i ∨ (2 * i + 1 ≤ c ∧ c < k)) → l'[c]? = some y → leE keyO x y) ∧
      ρ = [.ptr h 0, .any, .ptr p 0, .any, .ptr q 0, .any, .int .i64 (r.length : Int), .int .i64 (i : Int), .int .i64 (best : Int), .int .i64 (k : Int)] ++ List.replicate 53 .any)
    (2 * i + 3) (2 * i + 1) (by omega) ⟨rfl, Nat.le_refl _, i, .inl rfl, fun x hx c y hc hy => ?_, rfl⟩ ?_
  · have : c = i := by omega
    subst this
    rw [hx] at hy; cases hy; exact .refl _
  rintro k ρ t1 hk ⟨rfl, hk1, best, hbest, hmin, rfl⟩
  refine T.seq_k (fun K_h2 h2 => ?_)
  refine T.seq_k (fun K_h3 h3 => ?_)
  by_cases hkm : k < min (2 * i + 3) r.length
  · have e5 : decide ((k : Int) < ((min (2 * i + 3) r.length : Nat) : Int)) = true := decide_eq_true (by omega)
    refine T.regi hm ?_
    simp only [↓reduceIte, namesOf, List.any, I.names, aopsI, astep, ev, setd, List.set, List.getD, List.getElem?_cons_zero, List.getElem?_cons_succ, List.cons_append, List.nil_append, List.replicate, then_normal, Option.getD_some, Bool.or_false, Bool.false_eq_true, up_zero, binv, ↓opt_def, List.map_cons, List.map_nil, Int.toNat_natCast, eq_self, e1, e3, e4, e5, mn2, List.foldlM, bind, Option.bind, pure]
    refine h3 _ _ ?_
    try clear h3 K_h3
    refine T.cond rfl (fun _ => T.skip ?_) (fun h => by cases h)
    refine h2 _ _ ?_
    try clear h2 K_h2
    have hkn : k < l'.length := by omega
    have hbn : best < l'.length := by omega
    have hka : l'[k]? = some l'[k] := by simp [hkn]
    have hba : l'[best]? = some l'[best] := by simp [hbn]
    generalize l'[k] = x at hka
    generalize l'[best] = y at hba
    have hkw : IntKind.i64.wrap ((k : Int) + 1) = ((k + 1 : Nat) : Int) := inc64' hkn (by omega)
    refine T.seq_k (fun K_h2 h2 => ?_)
    refine T.block ?_
    refine T.seq_k (fun K_h3 h3 => ?_)
    refine T.regi hm ?_
    simp only [↓reduceIte, namesOf, List.any, I.names, aopsI, astep, ev, setd, List.set, List.getD, List.getElem?_cons_zero, List.getElem?_cons_succ, List.cons_append, List.nil_append, List.replicate, then_normal, Option.getD_some, Bool.or_false, Bool.false_eq_true, up_zero, List.map_cons, List.map_nil, Int.toNat_natCast]
    refine (haheadO_ok H1 hka hba).mono ?_
    rintro v t2 ⟨rfl, rfl⟩
    try simp only [↓reduceIte, namesOf, List.any, I.names, aops, aopsI, aopsT, qstep, CPt, qget, Tbl.get, astep, ev, setd, List.set, List.getD, List.getElem?_cons_zero, List.getElem?_cons_succ, List.getElem?_nil, List.cons_append, List.nil_append, List.length_cons, List.length_nil, List.replicate, then_normal, inBlock_normal, Option.getD_some, Option.getD_none, Bool.or_false, Bool.or_true, Bool.true_or, Bool.false_or, Bool.false_eq_true, if_false, if_true, up_zero, Nat.reduceAdd, Nat.reduceSub, binv, ↓opt_def, AV.isAny, AV.cells, ldc, List.map_cons, List.map_nil, St.set_next, St.set_same, St.up_next, Int.natCast_nonneg, lt_len, le_len, Int.toNat_natCast, true_and, and_true, eq_self, reduceCtorEq, decide_true, List.length_singleton, er_int, er_bool, er_str, srcR, up_zero]
    refine h3 _ _ ?_
    try clear h3 K_h3
    cases hab : aheadE keyO x y with
    | true =>
      refine T.cond rfl (fun _ => ?_) (fun h => by cases h)
      refine T.regi hm ?_
      simp only [↓reduceIte, namesOf, List.any, I.names, aopsI, astep, ev, setd, List.set, List.getD, List.getElem?_cons_zero, List.getElem?_cons_succ, List.cons_append, List.nil_append, List.replicate, then_normal, inBlock_normal, Option.getD_some, Bool.or_false, Bool.false_eq_true, up_zero, Int.toNat_natCast]
      refine h2 _ _ ?_
      try clear h2 K_h2
      refine T.regi hm ?_
      simp only [↓reduceIte, namesOf, List.any, I.names, aopsI, astep, ev, setd, List.set, List.getD, List.getElem?_cons_zero, List.getElem?_cons_succ, List.cons_append, List.nil_append, List.replicate, then_normal, Option.getD_some, Bool.or_false, Bool.false_eq_true, up_zero, binv, ↓opt_def, Int.toNat_natCast, eq_self, hkw]
      refine ⟨by omega, _, _, Gh.keep [0, 2, 4, 6, 7, 8, 9], rfl, by omega, k, .inr ⟨by omega, by omega, by omega⟩, fun x' hx' c z hc hz => ?_, rfl⟩
      rw [hka] at hx'; cases hx'
      by_cases hck : c = k
      · subst hck; rw [hka] at hz; cases hz; exact .refl _
      · exact (ahead_le hab).trans (hmin y hba c z (by omega) hz)
    | false =>
      refine T.cond rfl (fun h => by cases h) (fun _ => T.skip ?_)
      try simp only [List.getD, List.getElem?_cons_zero, List.getElem?_cons_succ, List.cons_append, List.nil_append, List.replicate, then_normal, inBlock_normal, Option.getD_some, Int.toNat_natCast, inBlock_normal]
      refine h2 _ _ ?_
      try clear h2 K_h2
      refine T.regi hm ?_
      simp only [↓reduceIte, namesOf, List.any, I.names, aopsI, astep, ev, setd, List.set, List.getD, List.getElem?_cons_zero, List.getElem?_cons_succ, List.cons_append, List.nil_append, List.replicate, then_normal, Option.getD_some, Bool.or_false, Bool.false_eq_true, up_zero, binv, ↓opt_def, Int.toNat_natCast, eq_self, hkw]
      refine ⟨by omega, _, _, Gh.keep [0, 2, 4, 6, 7, 8, 9], rfl, by omega, best, by omega, fun x' hx' c z hc hz => ?_, rfl⟩
      rw [hba] at hx'; cases hx'
      by_cases hck : c = k
      · subst hck; rw [hka] at hz; cases hz; exact hab
      · exact hmin y hba c z (by omega) hz
  · have e5 : decide ((k : Int) < ((min (2 * i + 3) r.length : Nat) : Int)) = false := decide_eq_false (by omega)
    refine T.regi hm ?_
    simp only [↓reduceIte, namesOf, List.any, I.names, aopsI, astep, ev, setd, List.set, List.getD, List.getElem?_cons_zero, List.getElem?_cons_succ, List.cons_append, List.nil_append, List.replicate, then_normal, Option.getD_some, Bool.or_false, Bool.false_eq_true, up_zero, binv, ↓opt_def, List.map_cons, List.map_nil, Int.toNat_natCast, eq_self, e1, e3, e4, e5, mn2, List.foldlM, bind, Option.bind, pure]
    refine h3 _ _ ?_
    try clear h3 K_h3
    refine T.cond rfl (fun h => by cases h) (fun _ => T.exit ?_)
    try simp only [List.getD, List.getElem?_cons_zero, List.getElem?_cons_succ, List.cons_append, List.nil_append, List.replicate, then_normal, Option.getD_some, Int.toNat_natCast, inBlock_exit, then_exit]
    refine h1 _ _ ?_
    try clear h1 K_h1
    refine T.seq_k (fun K_h1 h1 => ?_)
    by_cases hbi : best = i
    · subst hbi
      refine T.seq_k (fun K_h0 h0 => ?_)
      refine T.regi hm ?_
      simp only [↓reduceIte, namesOf, List.any, I.names, aopsI, astep, ev, setd, List.set, List.getD, List.getElem?_cons_zero, List.getElem?_cons_succ, List.cons_append, List.nil_append, List.replicate, then_normal, Option.getD_some, Bool.or_false, Bool.false_eq_true, up_zero, binv, ↓opt_def, Int.toNat_natCast, eq_self, beq_self_eq_true]
      refine h0 _ _ ?_
      try clear h0 K_h0
      refine T.cond rfl (fun _ => ?_) (fun h => by cases h)
      refine T.seq_k (fun K_h1 h1 => ?_)
      have hfit : (AV.agg (fCO e)).fits 4 = true := rfl
      refine T.regi hm ?_
      simp only [↓reduceIte, namesOf, List.any, I.names, aopsI, astep, ev, setd, List.set, List.getD, List.getElem?_cons_zero, List.getElem?_cons_succ, List.cons_append, List.nil_append, List.length_cons, List.length_nil, List.replicate, then_normal, Option.getD_some, Bool.or_false, Bool.false_eq_true, up_zero, Nat.reduceAdd, ↓opt_def, AV.isAny, AV.cells, ldc, Int.toNat_natCast, eq_self, decide_true, hp, hq, AV.fits, AV.one, List.all_cons, List.all_nil, Nat.reduceBEq, Bool.not_false, Bool.and_self, Nat.zero_add, splice, List.take, List.drop, Nat.reduceLeDiff]
      have hp5 : (t1.set p (.obj (fCO e))).res p = some (.obj (fCO e)) := St.set_same _ _ _
      have hfr5 : HFrO σ (t1.set p (.obj (fCO e))) h (some nm) := ⟨hfr.next, fun n h1 h2 h3 => by rw [St.set_other _ _ (by omega)]; exact hfr.old n h1 h2 h3⟩
      have H5 : HpO (t1.set p (.obj (fCO e))) h pl (some nm) l' turn := by
        refine ⟨?_, ?_, fun e => (by cases e), fun nm' e' => ?_, H.ne⟩
        · rw [St.set_other _ _ (by omega)]; exact H1.obj
        · rw [St.set_other _ _ (by omega)]; exact H1.less
        · obtain ⟨g1, cs, g2, g3⟩ := H1.row nm' e'
          cases e'
          exact ⟨g1, cs, by rw [St.set_other _ _ (by omega)]; exact g2, g3⟩
      generalize (t1.set p (.obj (fCO e))) = σ5 at hp5 hfr5 H5 ⊢
      refine h1 _ _ ?_
      try clear h1 K_h1
      refine T.ret (Fin.ret (xs := [.agg (fCO e), .bool true]) (by simp [rvals, rval, hp5, ldc]) ⟨rfl, l', H5, hperm, hsink.done (fun a b j hj hji ha hb => ?_), hfr5⟩)
      have hjn := (List.getElem?_eq_some_iff.1 hb).1
      exact hmin a ha j b (.inr ⟨by omega, by omega⟩) hb
    · have hbn : best < l'.length := by omega
      have hin : i < l'.length := by omega
      have e6 : ((best : Int) == (i : Int)) = false := by rw [beq_eq_false_iff_ne]; omega
      have hia : l'[i]? = some l'[i] := by simp [hin]
      have hba : l'[best]? = some l'[best] := by simp [hbn]
      generalize l'[i] = x at hia
      generalize l'[best] = y at hba
      refine T.seq_k (fun K_h0 h0 => ?_)
      refine T.regi hm ?_
      simp only [↓reduceIte, namesOf, List.any, I.names, aopsI, astep, ev, setd, List.set, List.getD, List.getElem?_cons_zero, List.getElem?_cons_succ, List.cons_append, List.nil_append, List.replicate, then_normal, Option.getD_some, Bool.or_false, Bool.false_eq_true, up_zero, binv, ↓opt_def, Int.toNat_natCast, eq_self, e6]
      refine h0 _ _ ?_
      try clear h0 K_h0
      refine T.cond rfl (fun h => by cases h) (fun _ => T.skip ?_)
      refine h1 _ _ ?_
      try clear h1 K_h1
      refine T.seq_k (fun K_h1 h1 => ?_)
      refine T.regi hm ?_
      simp only [↓reduceIte, namesOf, List.any, I.names, aopsI, astep, ev, setd, List.set, List.getD, List.getElem?_cons_zero, List.getElem?_cons_succ, List.cons_append, List.nil_append, List.replicate, then_normal, Option.getD_some, Bool.or_false, Bool.false_eq_true, up_zero, List.map_cons, List.map_nil, Int.toNat_natCast]
      refine (hswapO_ok H1 hia hba).mono ?_
      rintro v t2 ⟨rfl, H2, hf2, hnx⟩
      try simp only [↓reduceIte, namesOf, List.any, I.names, aops, aopsI, aopsT, qstep, CPt, qget, Tbl.get, astep, ev, setd, List.set, List.getD, List.getElem?_cons_zero, List.getElem?_cons_succ, List.getElem?_nil, List.cons_append, List.nil_append, List.length_cons, List.length_nil, List.replicate, then_normal, inBlock_normal, Option.getD_some, Option.getD_none, Bool.or_false, Bool.or_true, Bool.true_or, Bool.false_or, Bool.false_eq_true, if_false, if_true, up_zero, Nat.reduceAdd, Nat.reduceSub, binv, ↓opt_def, AV.isAny, AV.cells, ldc, List.map_cons, List.map_nil, St.set_next, St.set_same, St.up_next, Int.natCast_nonneg, lt_len, le_len, Int.toNat_natCast, true_and, and_true, eq_self, reduceCtorEq, decide_true, List.length_singleton, er_int, er_bool, er_str, srcR, up_zero]
      refine h1 _ _ ?_
      try clear h1 K_h1
      refine T.regi hm ?_
      simp only [↓reduceIte, namesOf, List.any, I.names, aopsI, astep, ev, setd, List.set, List.getD, List.getElem?_cons_zero, List.getElem?_cons_succ, List.cons_append, List.nil_append, List.replicate, then_normal, inBlock_normal, Option.getD_some, Bool.or_false, Bool.false_eq_true, up_zero, Int.toNat_natCast]
      have hc := hbest.resolve_left hbi
      refine ⟨_, _, Gh.keep [0, 2, 4, 6, 7], ⟨best, sw l' i best x y, H2, ((sw_perm hia hba).cons e).trans hperm, hsink.step (by omega) (by omega) hia hba (hmin y hba i x (.inl rfl) hia) (fun j z hj hji hz => ?_), by rw [sw_len]; exact hln, .inl (by omega), hfr.trans hf2 (fun g e => .inl e), ?_, ?_, by rw [hnx]; exact hpn, by rw [hnx]; exact hqn, rfl⟩, ?_⟩
      · have hjn := (List.getElem?_eq_some_iff.1 hz).1
        exact hmin y hba j z (.inr ⟨by omega, by omega⟩) hz
      · rw [hf2.old p hpn (by omega) (fun g e => by cases e; omega)]; exact hp
      · rw [hf2.old q hqn (by omega) (fun g e => by cases e; omega)]; exact hq
      · simp only [keep, List.getElem?_cons_succ, List.getElem?_cons_zero, Option.getD_some]
        show r.length - best < r.length - i
        omega

theorem hnewO_ok {g : AV} {σ : St} (hg : ∃ f a b, g = .func f a b) : ACalls Try.prog n_hnewO [g] σ (fun v σ' => ∃ p, v = .ptr p 0 ∧ σ.next ≤ p ∧ p < σ'.next ∧ σ'.res p = some (.obj [g, .sl [] .nil, .int .i64 0]) ∧ Like σ σ') := by
  obtain ⟨f, a, b, rfl⟩ := hg
  refine s_hnewO (fun wf => ?_)
  unfold c_hnewO
  refine T.seq_k (fun K_h0 h0 => ?_)
  refine T.regi hm ?_
  simp only [↓reduceIte, namesOf, List.any, I.names, aopsI, astep, ev, setd, List.set, List.cons_append, List.nil_append, List.length_cons, List.length_nil, List.replicate, then_normal, Bool.or_false, Bool.false_eq_true, up_zero, Nat.reduceAdd, Nat.reduceSub]
  refine h0 _ _ ?_
  try clear h0 K_h0
  refine T.seq_k (fun K_h1 h1 => ?_)
  refine T.regi hm ?_
  simp only [↓reduceIte, namesOf, List.any, I.names, aopsI, astep, ev, setd, List.set, List.getD, List.getElem?_cons_zero, List.getElem?_cons_succ, List.cons_append, List.nil_append, List.length_cons, List.length_nil, then_normal, Option.getD_some, Bool.or_false, Bool.or_true, Bool.false_eq_true, Nat.reduceAdd, ↓opt_def, AV.isAny, AV.cells, and_true, eq_self, fillA, ↓Option.map_some, AV.fits, AV.one, List.all_cons, List.all_nil, Nat.reduceBEq, Bool.not_false, Bool.and_self, Nat.zero_add, splice, List.take, List.drop, Nat.reduceLeDiff]
  refine h1 _ _ ?_
  try clear h1 K_h1
  exact T.ret (Fin.ret rfl ⟨σ.next + 2, rfl, by omega, by simp, by simp, (Like.refl σ).box (n := 4) (i := 2) _⟩)

end Go.VL

namespace Go.VL

section

variable {α : Type} {key : α → Int} {rows : List (List α)}

/-- what stands at a place -/
def atP (rows : List (List α)) (p : Nat × Nat) : Option α := (rows[p.1]?).bind (·[p.2]?)

/-- does a place come ahead of another one? -/
def posLt (key : α → Int) (rows : List (List α)) (p q : Nat × Nat) : Prop :=
  ∃ a b, atP rows p = some a ∧ atP rows q = some b ∧ (key a < key b ∨ key a = key b ∧ (p.1 < q.1 ∨ p.1 = q.1 ∧ p.2 < q.2))

/-- all places, in order -/
structure KOut (key : α → Int) (rows : List (List α)) (ps : List (Nat × Nat)) : Prop where
  all : ∀ p, p ∈ ps ↔ ∃ a, atP rows p = some a
  sorted : ps.Pairwise (posLt key rows)
  len : ps.length ≤ (rows.map List.length).sum

/-- a row that rises -/
def Rising (key : α → Int) (l : List α) : Prop := ∀ (i j : Nat) (a b : α), i ≤ j → l[i]? = some a → l[j]? = some b → key a ≤ key b

/-- how many of each row are taken; the heap has each row's first one that is left -/
structure Fronts (key : α → Int) (rows : List (List α)) (c : List Nat) (l : List (En α)) : Prop where
  len : c.length = rows.length
  le : ∀ (i : Nat) (row : List α) (k : Nat), rows[i]? = some row → c[i]? = some k → k ≤ row.length
  is : ∀ e ∈ l, ∃ (row : List α) (k : Nat), rows[e.row]? = some row ∧ c[e.row]? = some k ∧ row[k]? = some e.x
  has : ∀ (i : Nat) (row : List α) (k : Nat) (a : α), rows[i]? = some row → c[i]? = some k → row[k]? = some a → ∃ e ∈ l, e.row = i
  nd : (l.map En.row).Nodup

/-- the same, but for one row: it has nothing in the heap -/
structure Fronts1 (key : α → Int) (rows : List (List α)) (c : List Nat) (l : List (En α)) (r : Nat) : Prop where
  len : c.length = rows.length
  le : ∀ (i : Nat) (row : List α) (k : Nat), rows[i]? = some row → c[i]? = some k → k ≤ row.length
  is : ∀ e ∈ l, e.row ≠ r ∧ ∃ (row : List α) (k : Nat), rows[e.row]? = some row ∧ c[e.row]? = some k ∧ row[k]? = some e.x
  has : ∀ (i : Nat) (row : List α) (k : Nat) (a : α), i ≠ r → rows[i]? = some row → c[i]? = some k → row[k]? = some a → ∃ e ∈ l, e.row = i
  nd : (l.map En.row).Nodup

/-- what was taken comes ahead of what is left -/
structure Taken (key : α → Int) (rows : List (List α)) (c : List Nat) (ps : List (Nat × Nat)) : Prop where
  mem : ∀ p, p ∈ ps ↔ ∃ (row : List α) (k : Nat), rows[p.1]? = some row ∧ c[p.1]? = some k ∧ p.2 < k
  sorted : ps.Pairwise (posLt key rows)
  ahead : ∀ p ∈ ps, ∀ (i j : Nat) (row : List α) (k : Nat), rows[i]? = some row → c[i]? = some k → k ≤ j → j < row.length → posLt key rows p (i, j)
  sum : ps.length = c.sum

theorem Fronts.perm {c : List Nat} {l l' : List (En α)} (h : Fronts key rows c l) (hp : l'.Perm l) : Fronts key rows c l' :=
  ⟨h.len, h.le, fun e he => h.is e (hp.mem_iff.1 he), fun i row k a h1 h2 h3 => by
    obtain ⟨e, he, hr⟩ := h.has i row k a h1 h2 h3
    exact ⟨e, hp.mem_iff.2 he, hr⟩, ((hp.map En.row).nodup_iff).2 h.nd⟩

theorem Fronts1.perm {c : List Nat} {l l' : List (En α)} {r : Nat} (h : Fronts1 key rows c l r) (hp : l'.Perm l) : Fronts1 key rows c l' r :=
  ⟨h.len, h.le, fun e he => h.is e (hp.mem_iff.1 he), fun i row k a h0 h1 h2 h3 => by
    obtain ⟨e, he, hr⟩ := h.has i row k a h0 h1 h2 h3
    exact ⟨e, hp.mem_iff.2 he, hr⟩, ((hp.map En.row).nodup_iff).2 h.nd⟩

theorem sum_set : ∀ {c : List Nat} {r k : Nat}, c[r]? = some k → (c.set r (k + 1)).sum = c.sum + 1
  | [], r, k, h => by simp at h
  | x :: c, 0, k, h => by simp at h; subst h; simp; omega
  | x :: c, r + 1, k, h => by
    have := sum_set (c := c) (r := r) (k := k) (by simpa using h)
    simp only [List.set_cons_succ, List.sum_cons, this]; omega

theorem sum_le : ∀ {c L : List Nat}, c.length = L.length → (∀ (i a b : Nat), c[i]? = some a → L[i]? = some b → a ≤ b) → c.sum ≤ L.sum
  | [], _, _, _ => by simp
  | _ :: _, [], h, _ => by simp at h
  | x :: c, y :: L, hl, hle => by
    have h0 := hle 0 x y rfl rfl
    have := sum_le (c := c) (L := L) (by simpa using hl) (fun i a b ha hb => hle (i + 1) a b (by simpa using ha) (by simpa using hb))
    simp only [List.sum_cons]; omega

theorem sum_lt : ∀ {c L : List Nat}, c.length = L.length → (∀ (i a b : Nat), c[i]? = some a → L[i]? = some b → a ≤ b) → (∃ (i a b : Nat), c[i]? = some a ∧ L[i]? = some b ∧ a < b) → c.sum < L.sum
  | [], _, _, _, ⟨i, a, b, h, _⟩ => by simp at h
  | _ :: _, [], h, _, _ => by simp at h
  | x :: c, y :: L, hl, hle, ⟨i, a, b, ha, hb, hab⟩ => by
    have h0 := hle 0 x y rfl rfl
    have hrest := sum_le (c := c) (L := L) (by simpa using hl) (fun i a b ha hb => hle (i + 1) a b (by simpa using ha) (by simpa using hb))
    cases i with
    | zero =>
      simp at ha hb; subst ha; subst hb
      simp only [List.sum_cons]; omega
    | succ i =>
      have := sum_lt (c := c) (L := L) (by simpa using hl) (fun i a b ha hb => hle (i + 1) a b (by simpa using ha) (by simpa using hb)) ⟨i, a, b, by simpa using ha, by simpa using hb, hab⟩
      simp only [List.sum_cons]; omega

theorem sum_zero : ∀ {c : List Nat}, (∀ (i k : Nat), c[i]? = some k → k = 0) → c.sum = 0
  | [], _ => rfl
  | x :: c, h => by
    have h0 := h 0 x rfl
    have := sum_zero (c := c) (fun i k hk => h (i + 1) k (by simpa using hk))
    simp only [List.sum_cons]; omega

theorem Taken.start {c : List Nat} (h : ∀ (i k : Nat), c[i]? = some k → k = 0) : Taken key rows c [] := by
  refine ⟨fun p => ⟨fun hp => (by cases hp), fun ⟨row, k, _, h2, h3⟩ => ?_⟩, .nil, fun p hp => (by cases hp), by rw [sum_zero h]; rfl⟩
  have := h _ _ h2
  omega

/-- the least of the heap is taken -/
theorem Taken.step {c : List Nat} {ps : List (Nat × Nat)} {e : En α} {l' : List (En α)} (hT : Taken key rows c ps) (hF : Fronts key rows c (e :: l')) (hr : ∀ row ∈ rows, Rising key row) (hmin : ∀ e' ∈ e :: l', leE key e e') :
    ∃ (row : List α) (k : Nat), rows[e.row]? = some row ∧ c[e.row]? = some k ∧ row[k]? = some e.x ∧ Taken key rows (c.set e.row (k + 1)) (ps ++ [(e.row, k)]) ∧ Fronts1 key rows (c.set e.row (k + 1)) l' e.row ∧ ps.length < (rows.map List.length).sum := by
  obtain ⟨row, k, h1, h2, h3⟩ := hF.is e (by simp)
  have hkl := (List.getElem?_eq_some_iff.1 h3).1
  have hcl := (List.getElem?_eq_some_iff.1 h2).1
  have hnd := hF.nd
  simp only [List.map_cons, List.nodup_cons] at hnd
  have hset : ∀ i, (c.set e.row (k + 1))[i]? = if i = e.row then some (k + 1) else c[i]? := by
    intro i
    rw [List.getElem?_set]
    by_cases hi : e.row = i
    · subst hi; simp [hcl]
    · have : ¬ i = e.row := fun x => hi x.symm
      simp [hi, this]
  -- it comes ahead of all others that are left
  have hnew : ∀ (i j : Nat) (row' : List α) (k' : Nat), rows[i]? = some row' → (c.set e.row (k + 1))[i]? = some k' → k' ≤ j → j < row'.length → posLt key rows (e.row, k) (i, j) := by
    intro i j row' k' g1 g2 g3 g4
    have hb : atP rows (i, j) = some row'[j] := by simp [atP, g1, g4]
    refine ⟨e.x, row'[j], by simp [atP, h1, h3], hb, ?_⟩
    rw [hset] at g2
    have hbj : row'[j]? = some row'[j] := by simp [g4]
    by_cases hi : i = e.row
    · rw [if_pos hi] at g2
      cases g2
      subst hi
      rw [h1] at g1; cases g1
      have := hr row (List.mem_of_getElem? h1) k j e.x row[j] (by omega) h3 hbj
      simp only [true_and, Nat.lt_irrefl, false_or]; omega
    · rw [if_neg hi] at g2
      have hk' : k' < row'.length := by omega
      obtain ⟨e', he', her⟩ := hF.has i row' k' row'[k'] g1 g2 (by simp [hk'])
      obtain ⟨row2, k2, q1, q2, q3⟩ := hF.is e' he'
      rw [her] at q1 q2
      rw [g1] at q1; cases q1
      rw [g2] at q2; cases q2
      have hle := hmin e' he'
      have hrise := hr row' (List.mem_of_getElem? g1) k' j e'.x row'[j] g3 q3 hbj
      unfold leE aheadE at hle
      simp only [decide_eq_false_iff_not] at hle
      rw [her] at hle
      simp only
      omega
  refine ⟨row, k, h1, h2, h3, ⟨fun p => ?_, ?_, fun p hp i j row' k' g1 g2 g3 g4 => ?_, ?_⟩, ⟨by rw [List.length_set]; exact hF.len, fun i row' k' g1 g2 => ?_, fun e' he' => ?_, fun i row' k' a hi g1 g2 g3 => ?_, hnd.2⟩, ?_⟩
  · rw [List.mem_append, List.mem_singleton, hT.mem]
    constructor
    · rintro (⟨row', k', g1, g2, g3⟩ | rfl)
      · by_cases hi : p.1 = e.row
        · refine ⟨row', k + 1, g1, by rw [hset, if_pos hi], ?_⟩
          rw [hi] at g2
          rw [h2] at g2; cases g2; omega
        · exact ⟨row', k', g1, by rw [hset, if_neg hi]; exact g2, g3⟩
      · exact ⟨row, k + 1, h1, by rw [hset, if_pos rfl], by simp⟩
    · rintro ⟨row', k', g1, g2, g3⟩
      rw [hset] at g2
      by_cases hi : p.1 = e.row
      · rw [if_pos hi] at g2; cases g2
        by_cases hk : p.2 = k
        · right; rw [← hi, ← hk]
        · exact .inl ⟨row', k, g1, by rw [hi]; exact h2, by omega⟩
      · rw [if_neg hi] at g2
        exact .inl ⟨row', k', g1, g2, g3⟩
  · rw [List.pairwise_append]
    refine ⟨hT.sorted, List.pairwise_singleton _ _, fun a ha b hb => ?_⟩
    rw [List.mem_singleton] at hb; subst hb
    exact hT.ahead a ha e.row k row k h1 h2 (Nat.le_refl _) hkl
  · rcases List.mem_append.1 hp with hp | hp
    · rw [hset] at g2
      by_cases hi : i = e.row
      · rw [if_pos hi] at g2; cases g2
        subst hi
        rw [h1] at g1; cases g1
        exact hT.ahead p hp e.row j row k h1 h2 (by omega) g4
      · rw [if_neg hi] at g2
        exact hT.ahead p hp i j row' k' g1 g2 g3 g4
    · rw [List.mem_singleton] at hp; subst hp
      exact hnew i j row' k' g1 g2 g3 g4
  · rw [List.length_append, List.length_singleton, hT.sum, sum_set h2]
  · rw [hset] at g2
    by_cases hi : i = e.row
    · rw [if_pos hi] at g2; cases g2
      subst hi
      rw [h1] at g1; cases g1; exact hkl
    · rw [if_neg hi] at g2
      exact hF.le i row' k' g1 g2
  · have hne : e'.row ≠ e.row := fun x => hnd.1 (x ▸ List.mem_map_of_mem he')
    obtain ⟨row', k', g1, g2, g3⟩ := hF.is e' (by simp [he'])
    exact ⟨hne, row', k', g1, by rw [hset, if_neg hne]; exact g2, g3⟩
  · rw [hset, if_neg hi] at g2
    obtain ⟨e', he', her⟩ := hF.has i row' k' a g1 g2 g3
    rcases List.mem_cons.1 he' with rfl | he'
    · exact absurd her.symm hi
    · exact ⟨e', he', her⟩
  · rw [hT.sum]
    refine sum_lt (by rw [List.length_map]; exact hF.len) (fun i a b ha hb => ?_) ⟨e.row, k, row.length, h2, by simp [h1], hkl⟩
    rw [List.getElem?_map, Option.map_eq_some_iff] at hb
    obtain ⟨row', g1, rfl⟩ := hb
    exact hF.le i row' a g1 ha

/-- the row's next one is pushed -/
theorem Fronts1.push {c : List Nat} {l : List (En α)} {r k : Nat} {row : List α} {e : En α} (h : Fronts1 key rows c l r) (h1 : rows[r]? = some row) (h2 : c[r]? = some k) (h3 : row[k]? = some e.x) (he : e.row = r) : Fronts key rows c (l ++ [e]) := by
  refine ⟨h.len, h.le, fun e' he' => ?_, fun i row' k' a g1 g2 g3 => ?_, ?_⟩
  · rcases List.mem_append.1 he' with he' | he'
    · exact (h.is e' he').2
    · rw [List.mem_singleton] at he'; subst he'
      exact ⟨row, k, by rw [he]; exact h1, by rw [he]; exact h2, h3⟩
  · by_cases hi : i = r
    · exact ⟨e, by simp, by rw [he, hi]⟩
    · obtain ⟨e', he', her⟩ := h.has i row' k' a hi g1 g2 g3
      exact ⟨e', by simp [he'], her⟩
  · rw [List.map_append, List.nodup_append]
    refine ⟨h.nd, by simp, fun a ha b hb => ?_⟩
    simp only [List.map_cons, List.map_nil, List.mem_singleton] at hb
    subst hb
    obtain ⟨e', he', rfl⟩ := List.mem_map.1 ha
    rw [he]; exact (h.is e' he').1

theorem Fronts1.none {c : List Nat} {l : List (En α)} {r k : Nat} {row : List α} (h : Fronts1 key rows c l r) (h1 : rows[r]? = some row) (h2 : c[r]? = some k) (h3 : row.length ≤ k) : Fronts key rows c l := by
  refine ⟨h.len, h.le, fun e' he' => (h.is e' he').2, fun i row' k' a g1 g2 g3 => ?_, h.nd⟩
  by_cases hi : i = r
  · subst hi
    rw [h1] at g1; cases g1
    rw [h2] at g2; cases g2
    have := (List.getElem?_eq_some_iff.1 g3).1; omega
  · exact h.has i row' k' a hi g1 g2 g3

/-- nothing is left -/
theorem Taken.done {c : List Nat} {ps : List (Nat × Nat)} (hT : Taken key rows c ps) (hF : Fronts key rows c []) : KOut key rows ps := by
  refine ⟨fun p => ?_, hT.sorted, by
    rw [hT.sum]
    refine sum_le (by rw [List.length_map]; exact hF.len) (fun i a b ha hb => ?_)
    rw [List.getElem?_map, Option.map_eq_some_iff] at hb
    obtain ⟨row', g1, rfl⟩ := hb
    exact hF.le i row' a g1 ha⟩
  rw [hT.mem]
  constructor
  · rintro ⟨row, k, h1, h2, h3⟩
    have := hF.le _ row k h1 h2
    exact ⟨row[p.2]'(by omega), by unfold atP; rw [h1]; simp⟩
  · rintro ⟨a, ha⟩
    unfold atP at ha
    cases h1 : rows[p.1]? with
    | none => rw [h1] at ha; simp at ha
    | some row =>
      rw [h1] at ha
      simp only [Option.bind_some] at ha
      have hpl := (List.getElem?_eq_some_iff.1 ha).1
      have hcl : p.1 < c.length := by rw [hF.len]; exact (List.getElem?_eq_some_iff.1 h1).1
      refine ⟨row, c[p.1], rfl, by simp [hcl], ?_⟩
      rcases Nat.lt_or_ge c[p.1] row.length with h | h
      · obtain ⟨e, he, _⟩ := hF.has p.1 row c[p.1] row[c[p.1]] h1 (by simp [hcl]) (by simp [h])
        cases he
      · omega

/-! ### The first ones of the first rows are pushed -/

structure Fronts0 (rows : List (List α)) (i : Nat) (l : List (En α)) : Prop where
  is : ∀ e ∈ l, e.row < i ∧ ∃ (row : List α), rows[e.row]? = some row ∧ row[0]? = some e.x
  has : ∀ (j : Nat) (row : List α) (a : α), j < i → rows[j]? = some row → row[0]? = some a → ∃ e ∈ l, e.row = j
  nd : (l.map En.row).Nodup

theorem Fronts0.start : Fronts0 rows 0 ([] : List (En α)) := ⟨fun e he => (by cases he), fun j row a h => (by omega), by simp⟩

theorem Fronts0.perm {i : Nat} {l l' : List (En α)} (h : Fronts0 rows i l) (hp : l'.Perm l) : Fronts0 rows i l' :=
  ⟨fun e he => h.is e (hp.mem_iff.1 he), fun j row a h0 h1 h2 => by
    obtain ⟨e, he, hr⟩ := h.has j row a h0 h1 h2
    exact ⟨e, hp.mem_iff.2 he, hr⟩, ((hp.map En.row).nodup_iff).2 h.nd⟩

theorem Fronts0.push {i : Nat} {l : List (En α)} {row : List α} {e : En α} (h : Fronts0 rows i l) (h1 : rows[i]? = some row) (h3 : row[0]? = some e.x) (he : e.row = i) : Fronts0 rows (i + 1) (l ++ [e]) := by
  refine ⟨fun e' he' => ?_, fun j row' a hj g1 g2 => ?_, ?_⟩
  · rcases List.mem_append.1 he' with he' | he'
    · obtain ⟨g1, g2⟩ := h.is e' he'
      exact ⟨by omega, g2⟩
    · rw [List.mem_singleton] at he'; subst he'
      exact ⟨by omega, row, by rw [he]; exact h1, h3⟩
  · by_cases hi : j = i
    · exact ⟨e, by simp, by rw [he, hi]⟩
    · obtain ⟨e', he', her⟩ := h.has j row' a (by omega) g1 g2
      exact ⟨e', by simp [he'], her⟩
  · rw [List.map_append, List.nodup_append]
    refine ⟨h.nd, by simp, fun a ha b hb => ?_⟩
    simp only [List.map_cons, List.map_nil, List.mem_singleton] at hb
    subst hb
    obtain ⟨e', he', rfl⟩ := List.mem_map.1 ha
    have := (h.is e' he').1
    omega

theorem Fronts0.none {i : Nat} {l : List (En α)} {row : List α} (h : Fronts0 rows i l) (h1 : rows[i]? = some row) (h3 : row.length ≤ 0) : Fronts0 rows (i + 1) l := by
  refine ⟨fun e' he' => ?_, fun j row' a hj g1 g2 => ?_, h.nd⟩
  · obtain ⟨g1, g2⟩ := h.is e' he'
    exact ⟨by omega, g2⟩
  · by_cases hi : j = i
    · subst hi
      rw [h1] at g1; cases g1
      have := (List.getElem?_eq_some_iff.1 g2).1; omega
    · exact h.has j row' a (by omega) g1 g2

theorem rep_get {n i k : Nat} (h : (List.replicate n 0)[i]? = some k) : k = 0 := by
  obtain ⟨h1, h2⟩ := List.getElem?_eq_some_iff.1 h
  simpa using h2.symm

theorem Fronts0.done {l : List (En α)} (h : Fronts0 rows rows.length l) : Fronts key rows (List.replicate rows.length 0) l := by
  refine ⟨by simp, fun i row k _ h2 => by rw [rep_get h2]; omega, fun e he => ?_, fun i row k a h1 h2 h3 => ?_, h.nd⟩
  · obtain ⟨g1, row, g2, g3⟩ := h.is e he
    exact ⟨row, 0, g2, by simp [g1], g3⟩
  · rw [rep_get h2] at h3
    exact h.has i row a (List.getElem?_eq_some_iff.1 h1).1 h1 h3

/-- how far each row is pushed -/
def NxOk (rows : List (List α)) (c next : List Nat) : Prop := ∀ (i : Nat) (row : List α) (k : Nat), rows[i]? = some row → c[i]? = some k → next[i]? = some (min (k + 1) row.length)

theorem NxOk.none {c next : List Nat} {r k : Nat} {row : List α} (h : NxOk rows c next) (h1 : rows[r]? = some row) (h2 : c[r]? = some k) (h3 : row.length ≤ k + 1) : NxOk rows (c.set r (k + 1)) next := by
  intro i row' k' g1 g2
  rw [List.getElem?_set] at g2
  split at g2
  · rename_i hi
    subst hi
    split at g2
    · cases g2
      rw [h1] at g1; cases g1
      rw [h r row k h1 h2]; congr 1; omega
    · cases g2
  · exact h i row' k' g1 g2

theorem NxOk.push {c next : List Nat} {r k : Nat} {row : List α} (h : NxOk rows c next) (hl : next.length = rows.length) (h1 : rows[r]? = some row) (h3 : k + 1 < row.length) : NxOk rows (c.set r (k + 1)) (next.set r (k + 2)) := by
  intro i row' k' g1 g2
  rw [List.getElem?_set] at g2 ⊢
  have hil := (List.getElem?_eq_some_iff.1 g1).1
  split at g2
  · rename_i hi
    subst hi
    rw [if_pos rfl, if_pos (by omega)]
    split at g2
    · cases g2
      rw [h1] at g1; cases g1
      congr 1; omega
    · cases g2
  · rename_i hi
    rw [if_neg hi]
    exact h i row' k' g1 g2

/-- what stands at places -/
def outP (rows : List (List α)) (ps : List (Nat × Nat)) : List α := ps.filterMap (atP rows)

theorem outP_snoc {ps : List (Nat × Nat)} {p : Nat × Nat} {a : α} (h : atP rows p = some a) : outP rows (ps ++ [p]) = outP rows ps ++ [a] := by simp [outP, h]

theorem outP_le (ps : List (Nat × Nat)) : (outP rows ps).length ≤ ps.length := List.length_filterMap_le _ _

end

end Go.VL

namespace Go.VL

open Go.Proofs

def xsAVO (l : List On) : List AV := l.map fun t => .agg [.int .i64 t.n, .int .i64 t.row, .int .i64 t.at_]

def rwAVO (l : List (List On)) : List AV := l.map fun p => .sl (xsAVO p) .none

theorem xsO_len (l : List On) : (xsAVO l).length = l.length := by simp [xsAVO]

theorem rwO_len (l : List (List On)) : (rwAVO l).length = l.length := by simp [rwAVO]

theorem xsO_get {l : List On} {i : Nat} {a : On} (h : l[i]? = some a) : (xsAVO l)[i]? = some (.agg [.int .i64 a.n, .int .i64 a.row, .int .i64 a.at_]) := by simp [xsAVO, h]

theorem rwO_get {l : List (List On)} {i : Nat} {a : List On} (h : l[i]? = some a) : (rwAVO l)[i]? = some (.sl (xsAVO a) .none) := by simp [rwAVO, h]

theorem xsO_fits (l : List On) : (xsAVO l).all (AV.fits 3) = true := by
  simp [xsAVO, AV.fits, AV.isAny, AV.cells, AV.one]

theorem xsO_nb (m : Nat) (l : List On) : nbs m (xsAVO l) := by
  rw [nbs_iff]
  intro y hy
  obtain ⟨t, _, rfl⟩ := List.mem_map.1 hy
  exact ⟨trivial, trivial, trivial, trivial⟩

/-- the rows, how far each is pushed, and the heap -/
structure KStO (σ : St) (pn pr ph pl h nx : Nat) (G : Option Nat) (rows : List (List On)) (next : List Nat) (l : List (En On)) (turn : Nat) : Prop where
  pn_ : σ.res pn = some (.obj [.ref nx 0 next.length])
  nx_ : σ.res nx = some (.obj (next.map fun k => AV.int .i64 ((k : Nat) : Int)))
  pr_ : ∃ g, σ.res pr = some (.obj [.sl (rwAVO rows) g])
  ph_ : σ.res ph = some (.obj [.ptr h 0])
  hp : HpO σ h pl G l turn
  ne : nx ≠ pn ∧ nx ≠ pr ∧ nx ≠ ph ∧ nx ≠ pl ∧ nx ≠ h ∧ pn ≠ h ∧ pr ≠ h ∧ ph ≠ h
  neG : ∀ g, G = some g → g ≠ pn ∧ g ≠ nx ∧ g ≠ pr ∧ g ≠ ph

structure KFrO (σ σ' : St) (h nx : Nat) (G : Option Nat) : Prop where
  next : σ.next ≤ σ'.next
  old : ∀ n, n < σ.next → n ≠ h → n ≠ nx → (∀ g, G = some g → n ≠ g) → σ'.res n = σ.res n

theorem splice_nxO {next : List Nat} {r k : Nat} (h : r < next.length) : splice (next.map fun k => AV.int .i64 ((k : Nat) : Int)) r [.int .i64 ((k : Nat) : Int)] = (next.set r k).map fun k => AV.int .i64 ((k : Nat) : Int) := by
  unfold splice
  rw [List.set_eq_take_append_cons_drop, if_pos h]
  simp [List.map_take, List.map_drop]

set_option maxRecDepth 10000 in
theorem kpushO_ok {pn pr ph pl h nx : Nat} {G : Option Nat} {rows : List (List On)} {next : List Nat} {l : List (En On)} {turn r k : Nat} {row : List On} {σ : St} (K : KStO σ pn pr ph pl h nx G rows next l turn) (hh : HeapL keyO l)
    (h1 : rows[r]? = some row) (h2 : next[r]? = some k) (hrl : row.length ≤ 1000000) (hll : l.length ≤ 1000000) (htu : turn < 9223372036854775807) :
    ACalls Try.prog n_kpushO [.int .i64 (r : Int), .ptr pn 0, .ptr pr 0, .ptr ph 0] σ (fun v σ' => v = .tup [] ∧ ((row.length ≤ k ∧ σ' = σ) ∨
      ∃ (a : On) (e : En On) (l' : List (En On)) (G' : Option Nat), row[k]? = some a ∧ e.x = a ∧ e.row = r ∧ KStO σ' pn pr ph pl h nx G' rows (next.set r (k + 1)) l' (turn + 1) ∧ l'.Perm (l ++ [e]) ∧ HeapL keyO l' ∧ KFrO σ σ' h nx G ∧ ∀ g, G' = some g → σ.next ≤ g ∧ g < σ'.next)) := by
  refine s_kpushO (fun wf => ?_)
  unfold c_kpushO
  obtain ⟨gr, hpr⟩ := K.pr_
  have hpn := K.pn_
  have hnx := K.nx_
  have hph := K.ph_
  have hrn := (List.getElem?_eq_some_iff.1 h2).1
  have hrr := (List.getElem?_eq_some_iff.1 h1).1
  have hrrI : (r : Int) < ((rwAVO rows).length : Int) := by rw [rwO_len]; omega
  have hg1 : (next.map fun k => AV.int .i64 ((k : Nat) : Int))[r]? = some (.int .i64 (k : Int)) := by simp [h2]
  have hg2 := rwO_get h1
  have hrrS : r < (rwAVO rows).length := by rw [rwO_len]; exact hrr
  refine T.seq_k (fun K_hA hA => ?_)
  refine T.regi hm ?_
  simp only [↓reduceIte, namesOf, List.any, I.names, aopsI, astep, ev, setd, List.set, List.getD, List.getElem?_cons_zero, List.getElem?_cons_succ, List.cons_append, List.nil_append, List.length_cons, List.length_nil, List.replicate, then_normal, Option.getD_some, Bool.or_false, Bool.false_eq_true, up_zero, Nat.reduceAdd, Nat.reduceSub, binv, ↓opt_def, AV.cells, ldc, Int.natCast_nonneg, lt_len, Int.toNat_natCast, and_true, eq_self, hpn, hnx, hpr, hg1, hg2, hrn, hrrS, Nat.mul_one, Nat.zero_add, xsO_len]
  refine hA _ _ ?_
  try clear hA K_hA
  by_cases hk : k < row.length
  case neg =>
    refine T.cond (b := false) (by simp [ev]; omega) (fun h => by cases h) (fun _ => T.skip ?_)
    exact Fin.retn rfl ⟨rfl, .inl ⟨by omega, rfl⟩⟩
  refine T.cond (b := true) (by simp [ev]; omega) (fun _ => ?_) (fun h => by cases h)
  have hka : row[k]? = some row[k] := by simp [hk]
  generalize row[k] = a at hka
  have hg3 := xsO_get hka
  have hkS : k < (xsAVO row).length := by rw [xsO_len]; exact hk
  refine T.seq_k (fun K_hA hA => ?_)
  refine T.regt hm (tbl := []) Tbl.ok_nil ?_
  have hpush := hpushO_ok (e := ⟨a, r, turn + 1⟩) K.hp hh rfl htu hll
  refine aopsT_cut 14 (fun K_c h_c => ?_)
  try simp only [↓reduceIte, namesOf, List.any, I.names, aopsT, qstep, CPt, Tbl.get, astep, ev, setd, List.set, List.getD, List.getElem?_cons_zero, List.getElem?_cons_succ, List.cons_append, List.nil_append, List.length_cons, List.length_nil, Option.getD_some, Bool.or_false, Bool.false_eq_true, up_zero, Nat.reduceAdd, ↓opt_def, AV.isAny, AV.cells, ldc, List.map_cons, List.map_nil, Int.natCast_nonneg, lt_len, Int.toNat_natCast, and_true, eq_self, List.take_succ_cons, hpn, hnx, hpr, hph, hg1, hg2, hg3, hrn, hrrS, hkS, Nat.mul_one, Nat.zero_add, fillA, ↓Option.map_some, AV.fits, AV.one, List.all_cons, List.all_nil, Nat.reduceBEq, Bool.not_false, Bool.and_self, Nat.zero_add, splice, List.take, List.drop, Nat.reduceLeDiff]
  refine hpush.mono ?_
  rintro v σ1 ⟨rfl, G', l', H1, hperm, hh1, hf, hG'⟩
  refine h_c _ _ ?_
  clear h_c K_c
  simp only [List.drop_succ_cons, List.drop_zero, Nat.zero_add]
  try simp only [aopsT, then_normal]
  refine hA _ _ ?_
  try clear hA K_hA
  obtain ⟨n1, n2, n3, n4, n5, n6, n7, n8⟩ := K.ne
  have hkeep : ∀ {n : Nat} {x : Res}, σ.res n = some x → n ≠ h → (∀ g, G = some g → n ≠ g) → σ1.res n = some x := fun hx a b => by rw [hf.old _ (wf.lt hx) a b]; exact hx
  have hpn1 := hkeep hpn n6 (fun g e => Ne.symm (K.neG g e).1)
  have hnx1 := hkeep hnx n5 (fun g e => Ne.symm (K.neG g e).2.1)
  have hpr1 := hkeep hpr n7 (fun g e => Ne.symm (K.neG g e).2.2.1)
  have hph1 := hkeep hph n8 (fun g e => Ne.symm (K.neG g e).2.2.2)
  have hw : IntKind.i64.wrap ((k : Int) + 1) = ((k + 1 : Nat) : Int) := inc64' hk (by omega)
  have hsp := splice_nxO (k := k + 1) hrn
  have hl1 : r + 1 ≤ (next.map fun k => AV.int .i64 ((k : Nat) : Int)).length := by rw [List.length_map]; exact hrn
  refine T.regi hm ?_
  simp only [↓reduceIte, namesOf, List.any, I.names, aopsI, astep, ev, setd, List.set, List.getD, List.getElem?_cons_zero, List.getElem?_cons_succ, List.length_cons, List.length_nil, Option.getD_some, Bool.or_false, Bool.false_eq_true, up_zero, binv, ↓opt_def, AV.isAny, AV.cells, ldc, Int.natCast_nonneg, lt_len, Int.toNat_natCast, and_true, eq_self, decide_true, hpn1, hnx1, hg1, hrn, hw, hsp, hl1, Nat.mul_one, Nat.zero_add, AV.fits, AV.one, List.all_cons, List.all_nil, Nat.reduceBEq, Bool.not_false, Bool.and_self, decide_true]
  have hGn : ∀ g, G' = some g → g ≠ pn ∧ g ≠ nx ∧ g ≠ pr ∧ g ≠ ph := fun g e => by
    have := (hG' g e).1
    have b1 := wf.lt hpn
    have b2 := wf.lt hnx
    have b3 := wf.lt hpr
    have b4 := wf.lt hph
    refine ⟨?_, ?_, ?_, ?_⟩ <;> omega
  refine Fin.retn rfl ⟨rfl, .inr ⟨a, ⟨a, r, turn + 1⟩, l', G', hka, rfl, rfl, ⟨?_, St.set_same _ _ _, ⟨gr, ?_⟩, ?_, ?_, K.ne, hGn⟩, hperm, hh1, ⟨hf.next, fun n a b c d => ?_⟩, hG'⟩⟩
  · rw [St.set_other _ _ (Ne.symm n1), List.length_set]; exact hpn1
  · rw [St.set_other _ _ (Ne.symm n2)]; exact hpr1
  · rw [St.set_other _ _ (Ne.symm n3)]; exact hph1
  · refine ⟨?_, ?_, H1.no, fun nm e => ?_, H1.ne⟩
    · rw [St.set_other _ _ (Ne.symm n5)]; exact H1.obj
    · rw [St.set_other _ _ (Ne.symm n4)]; exact H1.less
    · obtain ⟨g1, cs, g2, g3⟩ := H1.row nm e
      exact ⟨g1, cs, by rw [St.set_other _ _ (hGn nm e).2.1]; exact g2, g3⟩
  · rw [St.set_other _ _ c]; exact hf.old n a b d

theorem HpO.same {σ t : St} {h pl : Nat} {G : Option Nat} {l : List (En On)} {turn : Nat} (H : HpO σ h pl G l turn) (hs : ∀ n, (n = pl ∨ n = h ∨ G = some n) → t.res n = σ.res n) : HpO t h pl G l turn :=
  ⟨by rw [hs h (by simp)]; exact H.obj, by rw [hs pl (by simp)]; exact H.less, H.no, fun nm e => by
    obtain ⟨g1, cs, g2, g3⟩ := H.row nm e
    exact ⟨g1, cs, by rw [hs nm (by simp [e])]; exact g2, g3⟩, H.ne⟩

theorem KStO.same {σ t : St} {pn pr ph pl h nx : Nat} {G : Option Nat} {rows : List (List On)} {next : List Nat} {l : List (En On)} {turn : Nat} (K : KStO σ pn pr ph pl h nx G rows next l turn)
    (hs : ∀ n, (n = pn ∨ n = nx ∨ n = pr ∨ n = ph ∨ n = pl ∨ n = h ∨ G = some n) → t.res n = σ.res n) : KStO t pn pr ph pl h nx G rows next l turn :=
  ⟨by rw [hs pn (by simp)]; exact K.pn_, by rw [hs nx (by simp)]; exact K.nx_, by rw [hs pr (by simp)]; exact K.pr_, by rw [hs ph (by simp)]; exact K.ph_,
    K.hp.same fun n hn => hs n (by rcases hn with h | h | h <;> simp [h]), K.ne, K.neG⟩

/-- after a change of the heap alone -/
theorem KStO.heap {σ t : St} {pn pr ph pl h nx : Nat} {G : Option Nat} {rows : List (List On)} {next : List Nat} {l l' : List (En On)} {turn : Nat} (K : KStO σ pn pr ph pl h nx G rows next l turn)
    (H : HpO t h pl G l' turn) (hf : HFrO σ t h G) (hlt : pn < σ.next ∧ nx < σ.next ∧ pr < σ.next ∧ ph < σ.next) : KStO t pn pr ph pl h nx G rows next l' turn := by
  obtain ⟨n1, n2, n3, n4, n5, n6, n7, n8⟩ := K.ne
  obtain ⟨b1, b2, b3, b4⟩ := hlt
  have hk : ∀ n, n < σ.next → n ≠ h → (∀ g, G = some g → n ≠ g) → t.res n = σ.res n := fun n a b c => hf.old n a b c
  exact ⟨by rw [hk pn b1 n6 (fun g e => Ne.symm (K.neG g e).1)]; exact K.pn_, by rw [hk nx b2 n5 (fun g e => Ne.symm (K.neG g e).2.1)]; exact K.nx_, by rw [hk pr b3 n7 (fun g e => Ne.symm (K.neG g e).2.2.1)]; exact K.pr_,
    by rw [hk ph b4 n8 (fun g e => Ne.symm (K.neG g e).2.2.2)]; exact K.ph_, H, K.ne, K.neG⟩

/-- where the names stand -/
structure KNmO (σ t : St) (pn pr ph pl h nx : Nat) (G : Option Nat) : Prop where
  lo : σ.next ≤ h ∧ σ.next ≤ nx ∧ ∀ g, G = some g → σ.next ≤ g
  hi : pn < t.next ∧ pr < t.next ∧ ph < t.next ∧ pl < t.next ∧ h < t.next ∧ nx < t.next ∧ ∀ g, G = some g → g < t.next
  like : Like σ t

theorem KNmO.up {σ t t' : St} {pn pr ph pl h nx : Nat} {G : Option Nat} (N : KNmO σ t pn pr ph pl h nx G) (hl : Like t t') : KNmO σ t' pn pr ph pl h nx G := by
  obtain ⟨a1, a2, a3, a4, a5, a6, a7⟩ := N.hi
  have := hl.next
  exact ⟨N.lo, ⟨by omega, by omega, by omega, by omega, by omega, by omega, fun g e => by have := a7 g e; omega⟩, N.like.trans hl⟩

theorem KNmO.step {σ t t' : St} {pn pr ph pl h nx : Nat} {G G' : Option Nat} (N : KNmO σ t pn pr ph pl h nx G) (hf : KFrO t t' h nx G) (hG : ∀ g, G' = some g → (G = some g ∨ t.next ≤ g) ∧ g < t'.next) : KNmO σ t' pn pr ph pl h nx G' := by
  obtain ⟨a1, a2, a3, a4, a5, a6, a7⟩ := N.hi
  obtain ⟨b1, b2, b3⟩ := N.lo
  have h0 := hf.next
  have h1 := N.like.next
  refine ⟨⟨b1, b2, fun g e => ?_⟩, ⟨by omega, by omega, by omega, by omega, by omega, by omega, fun g e => (hG g e).2⟩, ⟨by omega, fun n hn => ?_⟩⟩
  · rcases (hG g e).1 with h | h
    · exact b3 g h
    · omega
  · rw [hf.old n (by omega) (by omega) (by omega) (fun g e => by have := b3 g e; omega)]
    exact N.like.same n hn

set_option maxRecDepth 10000 in
set_option maxHeartbeats 2000000 in
theorem ksortO_ok {rows : List (List On)} {g : Ver} {σ : St} (hr : ∀ row ∈ rows, Rising keyO row) (hrn : rows.length ≤ 1000) (hrl : ∀ row ∈ rows, row.length ≤ 1000000) (htot : (rows.map List.length).sum ≤ 900000) :
    ACalls Try.prog n_ksortO [.sl (rwAVO rows) g, .func n_oless [] []] σ (fun v σ' => ∃ ps, KOut keyO rows ps ∧ v = .sl (xsAVO (outP rows ps)) .none ∧ σ' = σ) := by
  refine s_ksortO (fun wf => ?_)
  unfold c_ksortO
  refine T.seq_k (fun K_h1 h1 => ?_)
  refine T.regi hm ?_
  simp only [↓reduceIte, namesOf, List.any, I.names, aopsI, astep, ev, setd, List.set, List.getD, List.getElem?_cons_zero, List.getElem?_cons_succ, List.cons_append, List.nil_append, List.length_cons, List.length_nil, List.replicate, then_normal, Option.getD_some, Bool.or_false, Bool.or_true, Bool.false_eq_true, Nat.reduceAdd, Nat.reduceSub, AV.isAny, AV.cells, eq_self]
  obtain ⟨hpr, hpl, _⟩ := box2 wf 3 (.obj [.sl (rwAVO rows) g]) (.obj [.func n_oless [] []])
  have hL1 : Like σ (((σ.up 3).set (σ.next + 0) (.obj [.sl (rwAVO rows) g])).set (σ.next + 1) (.obj [.func n_oless [] []])) := ((Like.refl σ).box (n := 3) (i := 0) _).set _ (by omega)
  have hb1 : σ.next + 1 < (((σ.up 3).set (σ.next + 0) (.obj [.sl (rwAVO rows) g])).set (σ.next + 1) (.obj [.func n_oless [] []])).next := by simp
  have hb0 : σ.next ≤ σ.next + 0 := by omega
  have hb2 : σ.next + 0 < σ.next + 1 := by omega
  generalize (((σ.up 3).set (σ.next + 0) (.obj [.sl (rwAVO rows) g])).set (σ.next + 1) (.obj [.func n_oless [] []])) = σ1 at hpr hpl hL1 hb1 ⊢
  generalize σ.next + 0 = pr at hpr hb0 hb2 ⊢
  generalize σ.next + 1 = pl at hpl hb1 hb2 ⊢
  refine h1 _ _ ?_
  try clear h1 K_h1
  refine T.seq_k (fun K_h1 h1 => ?_)
  refine T.regt hm (tbl := []) Tbl.ok_nil ?_
  refine aopsT_cut 2 (fun K_c h_c => ?_)
  try simp only [↓reduceIte, namesOf, List.any, I.names, aopsT, qstep, CPt, Tbl.get, astep, ev, setd, List.set, List.getD, List.getElem?_cons_zero, List.getElem?_cons_succ, List.length_cons, List.length_nil, Option.getD_some, Bool.or_false, Bool.or_true, Nat.reduceAdd, List.map_cons, List.map_nil, eq_self, List.take_succ_cons, List.take_zero]
  refine (hnewO_ok ⟨_, _, _, rfl⟩).mono ?_
  rintro v σ2 ⟨h, rfl, hh1, hh2, hho, hL2⟩
  refine h_c _ _ ?_
  clear h_c K_c
  simp only [List.drop_succ_cons, List.drop_zero, Nat.zero_add]
  simp only [St.up_next] at hh1
  have hL2' : Like σ1 σ2 := ⟨Nat.le_trans (Nat.le_add_right _ _) hL2.next, fun n hn => hL2.same n (by simp; omega)⟩
  try simp only [↓reduceIte, aopsT, qstep, astep, ev, setd, List.set, List.getD, List.getElem?_cons_zero, List.getElem?_cons_succ, List.cons_append, List.nil_append, List.length_cons, List.length_nil, then_normal, Option.getD_some, AV.isAny, AV.cells, St.set_same, eq_self, decide_true, AV.fits, AV.one, List.all_cons, List.all_nil, Nat.reduceBEq, Bool.not_false, Bool.and_self, Nat.zero_add, splice, List.take, List.drop, Nat.reduceLeDiff, St.set_set]
  have hph : (σ2.set (σ1.next + 2) (.obj [.ptr h 0])).res (σ1.next + 2) = some (.obj [.ptr h 0]) := St.set_same _ _ _
  have hho3 : (σ2.set (σ1.next + 2) (.obj [.ptr h 0])).res h = _ := (St.set_other _ _ (by omega)).trans hho
  have hL3 : Like σ1 (σ2.set (σ1.next + 2) (.obj [.ptr h 0])) := hL2'.set _ (by omega)
  have hn3 : h < (σ2.set (σ1.next + 2) (.obj [.ptr h 0])).next := hh2
  have hq1 : σ1.next + 2 < h := by omega
  have hq0 : σ1.next ≤ σ1.next + 2 := by omega
  generalize (σ2.set (σ1.next + 2) (.obj [.ptr h 0])) = σ3 at hph hho3 hL3 hn3 ⊢
  generalize σ1.next + 2 = ph at hph hq1 hq0 ⊢
  clear hho hL2 hL2' hh2 hh1 σ2
  have hpr3 := hL3.get (by omega) hpr
  have hpl3 := hL3.get hb1 hpl
  refine h1 _ _ ?_
  try clear h1 K_h1
  refine T.seq_k (fun K_h1 h1 => ?_)
  have hpr4 : ∀ k, (σ3.up k).res pr = some (.obj [.sl (rwAVO rows) g]) := fun _ => hpr3
  have hm1 : (rows.length : Int) * ((8 : Nat) : Int) ≤ 140737488355328 := by omega
  have hm2 : (rows.length : Int) ≤ 9223372036854775807 := by omega
  have hpr5 : ∀ r, ((σ3.up 5).set (σ3.next + 2) r).res pr = some (.obj [.sl (rwAVO rows) g]) := fun r => by
    have := hL3.next
    rw [St.set_other _ _ (by omega)]; exact hpr3
  refine T.regi hm ?_
  simp only [↓reduceIte, namesOf, List.any, I.names, aopsI, astep, ev, setd, List.set, List.getD, List.getElem?_cons_zero, List.getElem?_cons_succ, List.cons_append, List.nil_append, List.length_cons, List.length_nil, then_normal, Option.getD_some, Bool.or_false, Bool.or_true, Nat.reduceAdd, ↓opt_def, AV.isAny, AV.cells, ldc, St.set_same, Int.natCast_nonneg, Int.toNat_natCast, eq_self, decide_true, hpr4, rwO_len, hm1, hm2, Int.le_refl, held, AV.fits, AV.one, List.all_cons, List.all_nil, Bool.not_false, Bool.and_self, and_self, List.length_replicate, beq_self_eq_true, Nat.zero_add, splice, List.take, List.drop, Nat.reduceLeDiff, St.set_set]
  have hfm : (List.replicate rows.length (AV.int .i64 0)).flatMap AV.cells = (List.replicate rows.length 0).map fun k => AV.int .i64 ((k : Nat) : Int) := by
    generalize rows.length = n
    induction n with
    | zero => rfl
    | succ n ih => simp only [List.replicate_succ, List.flatMap_cons, ih, List.map_cons]; rfl
  rw [hfm]
  have hL13 := hL1.trans hL3
  have hn13 := hL3.next
  -- all is laid
  have K0 : KStO (((σ3.up 5).set (σ3.next + 2) (.obj ((List.replicate rows.length 0).map fun k => AV.int .i64 ((k : Nat) : Int)))).set (σ3.next + 3) (.obj [.ref (σ3.next + 2) 0 rows.length])) (σ3.next + 3) pr ph pl h (σ3.next + 2) none rows (List.replicate rows.length 0) [] 0 := by
    refine ⟨?_, ?_, ⟨g, ?_⟩, ?_, ⟨?_, ?_, fun _ => rfl, fun nm e => (by cases e), by omega⟩, ⟨by omega, by omega, by omega, by omega, by omega, by omega, by omega, by omega⟩, fun g e => (by cases e)⟩
    · rw [St.set_same, List.length_replicate]
    · rw [St.set_other _ _ (by omega), St.set_same]
    · rw [St.set_other _ _ (by omega), St.set_other _ _ (by omega)]; exact hpr3
    · rw [St.set_other _ _ (by omega), St.set_other _ _ (by omega)]; exact hph
    · rw [St.set_other _ _ (by omega), St.set_other _ _ (by omega)]; exact hho3
    · rw [St.set_other _ _ (by omega), St.set_other _ _ (by omega)]; exact hpl3
  have N0 : KNmO σ (((σ3.up 5).set (σ3.next + 2) (.obj ((List.replicate rows.length 0).map fun k => AV.int .i64 ((k : Nat) : Int)))).set (σ3.next + 3) (.obj [.ref (σ3.next + 2) 0 rows.length])) (σ3.next + 3) pr ph pl h (σ3.next + 2) none := by
    have := hL1.next
    refine ⟨⟨by omega, by omega, fun g e => (by cases e)⟩, ⟨by simp, by simp; omega, by simp; omega, by simp; omega, by simp; omega, by simp, fun g e => (by cases e)⟩, ((hL13.up 5).set _ (by omega)).set _ (by omega)⟩
  generalize (((σ3.up 5).set (σ3.next + 2) (.obj ((List.replicate rows.length 0).map fun k => AV.int .i64 ((k : Nat) : Int)))).set (σ3.next + 3) (.obj [.ref (σ3.next + 2) 0 rows.length])) = σ4 at K0 N0 ⊢
  generalize σ3.next + 2 = nx at K0 N0 ⊢
  generalize σ3.next + 3 = pn at K0 N0 ⊢
  clear hpr hpl hL1 hb1 hb0 hb2 hph hho3 hL3 hn3 hq1 hq0 hpr3 hpl3 hpr4 hm1 hm2 hpr5 hfm hL13 hn13 σ1 σ3
  refine h1 _ _ ?_
  try clear h1 K_h1
  refine T.seq_k (fun K_h0 h0 => ?_)
  refine T.regi hm ?_
  simp only [↓reduceIte, namesOf, List.any, I.names, aopsI, astep, ev, setd, List.set, List.getD, List.getElem?_cons_zero, List.getElem?_cons_succ, then_normal, Option.getD_some, Bool.or_false, Bool.false_eq_true, up_zero, List.map_cons, List.map_nil]
  refine h0 _ _ ?_
  try clear h0 K_h0
  refine T.seq_k (fun K_h1 h1 => ?_)
  have hpr6 := K0.pr_
  obtain ⟨g6, hpr6⟩ := hpr6
  refine T.seq_k (fun K_h0 h0 => ?_)
  refine T.regi hm ?_
  simp only [↓reduceIte, namesOf, List.any, I.names, aopsI, astep, ev, setd, List.set, List.getD, List.getElem?_cons_zero, List.getElem?_cons_succ, then_normal, Option.getD_some, Bool.or_false, Bool.false_eq_true, up_zero, ↓opt_def, ldc, hpr6, rwO_len]
  refine h0 _ _ ?_
  try clear h0 K_h0
  refine T.block ?_
  refine T.gh (Gh.keep [5, 7, 19, 20]) ?_
  refine T.loopi (fun i ρ t => ∃ (next : List Nat) (l : List (En On)) (G : Option Nat) (turn : Nat), KStO t pn pr ph pl h nx G rows next l turn ∧ HeapL keyO l ∧ Fronts0 rows i l ∧ next.length = rows.length ∧
      (∀ (j : Nat) (row : List On), rows[j]? = some row → next[j]? = some (if j < i then min 1 row.length else 0)) ∧ KNmO σ t pn pr ph pl h nx G ∧ l.length ≤ turn ∧ turn ≤ i ∧
      ρ = [.any, .any, .any, .any, .any, .ptr ph 0, .any, .func n_kpushO [] [.ptr pn 0, .ptr pr 0, .ptr ph 0], .any, .any, .any, .any, .any, .any, .any, .any, .any, .any, .any, .int .i64 (rows.length : Int), .int .i64 (i : Int)] ++ List.replicate 23 .any)
    rows.length 0 (Nat.zero_le _) ⟨_, [], none, 0, K0, .nil, .start, by simp, fun j row hj => ?_, N0, Nat.le_refl _, Nat.le_refl _, rfl⟩ ?_
  · have := (List.getElem?_eq_some_iff.1 hj).1
    simp [this]
  · clear K0 N0 hpr6
    rintro i ρ t hi ⟨next, l, G, turn, K, hh, F0, hnl, hnx, N, hlt, hti, rfl⟩
    refine T.seq_k (fun K_h0 h0 => ?_)
    refine T.regi hm ?_
    simp only [↓reduceIte, namesOf, List.any, I.names, aopsI, astep, ev, setd, List.set, List.getD, List.getElem?_cons_zero, List.getElem?_cons_succ, List.cons_append, List.nil_append, List.replicate, then_normal, Option.getD_some, Bool.or_false, Bool.false_eq_true, up_zero, binv, ↓opt_def, lt_len, eq_self]
    refine h0 _ _ ?_
    try clear h0 K_h0
    refine T.seq_k (fun K_h2 h2 => ?_)
    by_cases hil : i < rows.length
    case neg =>
      refine T.cond (b := false) (by simp [ev]; omega) (fun h => by cases h) (fun _ => T.exit ?_)
      have hie : i = rows.length := by omega
      subst hie
      have hFr : Fronts keyO rows (List.replicate rows.length 0) l := F0.done
      have hNx : NxOk rows (List.replicate rows.length 0) next := fun j row k h1 h2 => by
        rw [rep_get h2, hnx j row h1, if_pos (List.getElem?_eq_some_iff.1 h1).1]
      have hTk : Taken keyO rows (List.replicate rows.length 0) [] := Taken.start (fun i k hk => rep_get hk)
      try simp only [List.cons_append, List.nil_append, List.replicate, then_normal, inBlock_exit, then_exit]
      refine h1 _ _ ?_
      try clear h1 K_h1
      refine T.seq_k (fun K_h0 h0 => ?_)
      refine T.regi hm ?_
      simp only [↓reduceIte, namesOf, List.any, I.names, aopsI, astep, ev, setd, List.set, then_normal, Bool.or_false, Bool.false_eq_true, up_zero]
      refine h0 _ _ ?_
      try clear h0 K_h0
      refine T.gh (Gh.keep [5, 7, 9]) ?_
      refine T.block ?_
      refine T.loopi (fun i ρ t => ∃ (c next : List Nat) (l : List (En On)) (G Gx : Option Nat) (turn : Nat) (ps : List (Nat × Nat)) (x : AV), (ps.length = i ∧ KStO t pn pr ph pl h nx G rows next l turn ∧ HeapL keyO l ∧ Fronts keyO rows c l ∧ Taken keyO rows c ps ∧ next.length = rows.length ∧
          NxOk rows c next ∧ KNmO σ t pn pr ph pl h nx G ∧ AccG σ t 3 (xsAVO (outP rows ps)) x Gx ∧ (∀ g, Gx = some g → (g ≠ pn ∧ g ≠ nx ∧ g ≠ pr ∧ g ≠ ph ∧ g ≠ pl ∧ g ≠ h) ∧ G ≠ some g) ∧ l.length ≤ turn ∧ turn ≤ rows.length + i) ∧
          ρ = [.any, .any, .any, .any, .any, .ptr ph 0, .any, .func n_kpushO [] [.ptr pn 0, .ptr pr 0, .ptr ph 0], .any, x] ++ List.replicate 34 .any)
        (rows.map List.length).sum 0 (Nat.zero_le _) ⟨_, next, l, G, none, turn, [], _, ⟨rfl, K, hh, hFr, hTk, hnl, hNx, N, .nil N.like, fun g e => (by cases e), hlt, by omega⟩, rfl⟩ ?_
      clear K hh F0 hnl hnx N hlt hti hFr hNx hTk
      rintro i ρ t hi ⟨c, next, l, G, Gx, turn, ps, x, ⟨hps, K, hh, hFr, hTk, hnl, hNx, N, hA, hsep, hlt, hti⟩, rfl⟩
      obtain ⟨b1, b2, b3, b4, b5, b6, b7⟩ := N.hi
      have hAlt := hA.lt
      have hnt := N.like.next
      have hph := K.ph_
      have K1 : KStO (t.up 8) pn pr ph pl h nx G rows next l turn := K.same fun n _ => rfl
      have N1 : KNmO σ (t.up 8) pn pr ph pl h nx G := N.up ((Like.refl t).up 8)
      refine T.block ?_
      refine T.seq_k (fun K_h2 h2 => ?_)
      refine T.regt hm (tbl := []) Tbl.ok_nil ?_
      refine aopsT_cut 2 (fun K_c h_c => ?_)
      try simp only [↓reduceIte, namesOf, List.any, I.names, aopsT, qstep, CPt, Tbl.get, astep, ev, setd, List.set, List.getD, List.getElem?_cons_zero, List.getElem?_cons_succ, List.cons_append, List.nil_append, List.length_cons, List.length_nil, List.replicate, Option.getD_some, Bool.or_false, Bool.or_true, Nat.reduceAdd, ↓opt_def, ldc, List.map_cons, List.map_nil, eq_self, List.take_succ_cons, List.take_zero, hph, St.up_res]
      cases l with
      | nil =>
        refine (hpopO_nil K1.hp).mono ?_
        rintro v τ ⟨rfl, rfl⟩
        refine h_c _ _ ?_
        clear h_c K_c
        simp only [List.drop_succ_cons, List.drop_zero, Nat.zero_add]
        try simp only [↓reduceIte, aopsT, qstep, astep, ev, setd, List.set, List.getD, List.getElem?_cons_zero, List.getElem?_cons_succ, List.cons_append, List.nil_append, List.length_cons, List.length_nil, List.replicate, then_normal, Option.getD_some, Nat.reduceAdd, ↓opt_def, AV.isAny, AV.cells, St.set_same, eq_self, decide_true, AV.fits, AV.one, List.all_cons, List.all_nil, Nat.reduceBEq, Bool.not_false, Bool.and_self, Nat.zero_add, splice, List.take, List.drop, Nat.reduceLeDiff, St.set_set]
        refine h2 _ _ ?_
        try clear h2 K_h2
        refine T.seq_k (fun K_h2 h2 => ?_)
        refine T.seq_k (fun K_h0 h0 => ?_)
        refine T.regi hm ?_
        simp only [↓reduceIte, namesOf, List.any, I.names, aopsI, astep, ev, setd, List.set, List.getD, List.getElem?_cons_zero, List.getElem?_cons_succ, List.cons_append, List.nil_append, List.replicate, then_normal, Option.getD_some, Bool.or_false, Bool.false_eq_true, up_zero]
        refine h0 _ _ ?_
        try clear h0 K_h0
        refine T.cond rfl (fun _ => ?_) (fun h => by cases h)
        refine T.seq_k (fun K_h0 h0 => ?_)
        refine T.regi hm ?_
        simp only [↓reduceIte, namesOf, List.any, I.names, aopsI, astep, ev, setd, List.set, List.getD, List.getElem?_cons_zero, List.getElem?_cons_succ, List.cons_append, List.nil_append, List.replicate, then_normal, Option.getD_some, Bool.or_false, Bool.false_eq_true, up_zero]
        refine h0 _ _ ?_
        try clear h0 K_h0
        have hA2 := hA.box (n := 8) (i := 5) (by omega) (.obj [.int .i64 0, .int .i64 0, .int .i64 0, .int .i64 0])
        exact T.ret (Fin.quietw rfl hA2.wk ⟨xsO_nb _ _, trivial⟩ (hA2.quiet wf) ⟨ps, hTk.done hFr, rfl, rfl⟩)
      | cons e r =>
        have hll' : (e :: r).length ≤ 1000000 := by omega
        refine (hpopO_ok K1.hp hh hll').mono ?_
        rintro v τ ⟨rfl, l', P⟩
        refine h_c _ _ ?_
        clear h_c K_c
        simp only [List.drop_succ_cons, List.drop_zero, Nat.zero_add]
        try simp only [↓reduceIte, aopsT, qstep, astep, ev, setd, List.set, List.getD, List.getElem?_cons_zero, List.getElem?_cons_succ, List.cons_append, List.nil_append, List.length_cons, List.length_nil, List.replicate, then_normal, Option.getD_some, Nat.reduceAdd, ↓opt_def, AV.isAny, AV.cells, St.set_same, eq_self, decide_true, AV.fits, AV.one, List.all_cons, List.all_nil, Nat.reduceBEq, Bool.not_false, Bool.and_self, Nat.zero_add, splice, List.take, List.drop, Nat.reduceLeDiff, St.set_set]
        obtain ⟨row, k, q1, q2, q3, hTk', hF1, hlt2⟩ := hTk.step (hFr.perm P.perm) hr (fun e' he' => by
          obtain ⟨j, hj⟩ := List.getElem?_of_mem (P.perm.mem_iff.1 he')
          exact hh.least (a := e) rfl j e' hj)
        have hk := (List.getElem?_eq_some_iff.1 q3).1
        have hrr := hrl row (List.mem_of_getElem? q1)
        have hnk : next[e.row]? = some (k + 1) := by rw [hNx e.row row k q1 q2]; congr 1; omega
        have hlen2 : l'.length + 1 = (e :: r).length := by rw [← P.perm.length_eq]; rfl
        have hph' := P.heap
        have hpf := P.fr
        have hpn := hpf.next
        simp only [St.up_next] at hpn
        have hq : (τ.set (t.next + 5) (.obj (fCO e))).res (t.next + 5) = some (.obj (fCO e)) := St.set_same _ _ _
        have hKF : KFrO t (τ.set (t.next + 5) (.obj (fCO e))) h nx G := ⟨by simp; omega, fun n a1 a2 a3 a4 => by
          rw [St.set_other _ _ (by omega), hpf.old n (by simp; omega) a2 a4]; rfl⟩
        have K2 : KStO (τ.set (t.next + 5) (.obj (fCO e))) pn pr ph pl h nx G rows next l' turn :=
          (K1.heap P.hp P.fr ⟨by simp; omega, by simp; omega, by simp; omega, by simp; omega⟩).same fun n hn => by
            rw [St.set_other _ _ ?_]
            rcases hn with rfl | rfl | rfl | rfl | rfl | rfl | hn
            · omega
            · omega
            · omega
            · omega
            · omega
            · omega
            · have := b7 n hn; omega
        have N2 : KNmO σ (τ.set (t.next + 5) (.obj (fCO e))) pn pr ph pl h nx G := N.step hKF (fun g e => ⟨.inl e, by have := b7 g e; simp; omega⟩)
        have hA2 : AccG σ (τ.set (t.next + 5) (.obj (fCO e))) 3 (xsAVO (outP rows ps)) x Gx := hA.keep (by simp; omega) (fun m hm => by
            have := N.lo
            exact hKF.old m (by omega) (by omega) (by omega) (fun g e => by have := N.lo.2.2 g e; omega)) (fun g e => by
            obtain ⟨⟨s1, s2, s3, s4, s5, s6⟩, s7⟩ := hsep g e
            exact hKF.old g (hAlt g e).2 s6 s2 (fun g' e' h' => s7 (by rw [h']; exact e')))
        have hsep2 := hsep
        have hql : t.next + 5 < (τ.set (t.next + 5) (.obj (fCO e))).next := by simp; omega
        have hqg : ∀ g, Gx = some g → t.next + 5 ≠ g := fun g e => by have := (hAlt g e).2; omega
        generalize (τ.set (t.next + 5) (.obj (fCO e))) = τ1 at hq hKF K2 N2 hA2 hql ⊢
        generalize t.next + 5 = q at hq hql hqg ⊢
        clear K1 N1 hpf hpn P hh hA hKF b1 b2 b3 b4 b5 b6 b7 hAlt
        obtain ⟨b1, b2, b3, b4, b5, b6, b7⟩ := N2.hi
        refine h2 _ _ ?_
        try clear h2 K_h2
        refine T.seq_k (fun K_h2 h2 => ?_)
        refine T.seq_k (fun K_h0 h0 => ?_)
        refine T.regi hm ?_
        simp only [↓reduceIte, namesOf, List.any, I.names, aopsI, astep, ev, setd, List.set, List.getD, List.getElem?_cons_zero, List.getElem?_cons_succ, List.cons_append, List.nil_append, List.replicate, then_normal, Option.getD_some, Bool.or_false, Bool.false_eq_true, up_zero]
        refine h0 _ _ ?_
        try clear h0 K_h0
        refine T.cond rfl (fun h => by cases h) (fun _ => T.skip ?_)
        refine h2 _ _ ?_
        try clear h2 K_h2
        refine T.seq_k (fun K_h2 h2 => ?_)
        have hqu : ∀ n, (τ1.up n).res q = some (.obj (fCO e)) := fun _ => hq
        refine T.regt hm (tbl := []) Tbl.ok_nil ?_
        refine aopsT_cut 4 (fun K_c h_c => ?_)
        simp only [List.take_succ_cons, List.take_zero]
        try simp only [↓reduceIte, namesOf, List.any, I.names, aopsT, qstep, astep, ev, setd, List.set, List.getD, List.getElem?_cons_zero, List.getElem?_cons_succ, List.length_cons, List.length_nil, Option.getD_some, Bool.or_false, Bool.or_true, Nat.reduceAdd, ↓opt_def, AV.isAny, AV.cells, ldc, List.map_cons, List.map_nil, eq_self, hqu, held, AV.er, AV.er1, AV.fits, AV.one, List.all_cons, List.all_nil, Nat.reduceBEq, Bool.not_false, Bool.and_self, Nat.zero_add, List.take, List.drop, Nat.reduceLeDiff]
        refine h_c _ _ ?_
        clear h_c K_c
        simp only [List.drop_succ_cons, List.drop_zero, Nat.zero_add]
        have hol := outP_le (rows := rows) ps
        refine aopsT_acc (hA2.up 6) (by have := hA2.like.next; omega) (by simp) rfl (ys := [.agg [.int .i64 e.x.n, .int .i64 e.x.row, .int .i64 e.x.at_]]) ?_ ?_ ?_ (fun x' t' G' hA3 hnx3 hGn hoth _ => ?_)
        · rfl
        · exact xsO_fits (outP rows ps ++ [e.x]) ▸ by simp [xsAVO]
        · have hss : [AV.agg [.int .i64 e.x.n, .int .i64 e.x.row, .int .i64 e.x.at_]].length = 1 := rfl
          rw [xsO_len, hss]; omega
        try simp only [aopsT, qstep, astep, ev, setd, List.set, List.getD, List.getElem?_cons_zero, List.getElem?_cons_succ, List.cons_append, List.nil_append, List.replicate, then_normal, Option.getD_some, ]
        refine h2 _ _ ?_
        try clear h2 K_h2
        simp only [St.up_next] at hnx3
        have hsame : ∀ n, n < τ1.next → (∀ g, Gx = some g → n ≠ g) → t'.res n = τ1.res n := fun n a1 a2 => (hoth n (by omega) a2).trans rfl
        have K3 : KStO t' pn pr ph pl h nx G rows next l' turn := K2.same fun n hn => by
          refine hsame n ?_ (fun g e => ?_)
          · rcases hn with rfl | rfl | rfl | rfl | rfl | rfl | hn
            · omega
            · omega
            · omega
            · omega
            · omega
            · omega
            · exact b7 n hn
          · obtain ⟨⟨s1, s2, s3, s4, s5, s6⟩, s7⟩ := hsep g e
            rcases hn with rfl | rfl | rfl | rfl | rfl | rfl | hn
            · exact Ne.symm s1
            · exact Ne.symm s2
            · exact Ne.symm s3
            · exact Ne.symm s4
            · exact Ne.symm s5
            · exact Ne.symm s6
            · exact fun h' => s7 (by rw [← h']; exact hn)
        have hq3 : t'.res q = some (.obj (fCO e)) := (hsame q hql hqg).trans hq
        have N3 : KNmO σ t' pn pr ph pl h nx G := ⟨N2.lo, ⟨by omega, by omega, by omega, by omega, by omega, by omega, fun g e => by have := b7 g e; omega⟩, hA3.like⟩
        have hxs : xsAVO (outP rows ps) ++ [.agg [.int .i64 e.x.n, .int .i64 e.x.row, .int .i64 e.x.at_]] = xsAVO (outP rows (ps ++ [(e.row, k)])) := by
          rw [outP_snoc (a := e.x) (by simp [atP, q1, q3])]; simp [xsAVO]
        rw [hxs] at hA3
        have hn3 : t'.next = τ1.next + 6 := hnx3
        have hsep3 : ∀ g, G' = some g → (g ≠ pn ∧ g ≠ nx ∧ g ≠ pr ∧ g ≠ ph ∧ g ≠ pl ∧ g ≠ h) ∧ G ≠ some g := fun g e => by
          have hg := hGn g e
          refine ⟨⟨by omega, by omega, by omega, by omega, by omega, by omega⟩, fun h' => ?_⟩
          have := b7 g h'; omega
        have hGl : ∀ g, G' = some g → g < τ1.next + 6 := fun g e => by have := hGn g e; omega
        clear hoth hGn hsame hA2 K2 N2 hq hqu
        refine T.regi hm ?_
        simp only [↓reduceIte, namesOf, List.any, I.names, aopsI, astep, ev, setd, List.set, List.getD, List.getElem?_cons_zero, List.getElem?_cons_succ, List.cons_append, List.nil_append, List.replicate, then_normal, inBlock_normal, Option.getD_some, Bool.or_false, Bool.false_eq_true, up_zero, ↓opt_def, ldc, List.map_cons, List.map_nil, hq3, Nat.zero_add]
        refine (kpushO_ok K3 hph' q1 hnk hrr (by omega) (by omega)).mono ?_
        rintro v τ4 ⟨rfl, hc⟩
        try simp only [↓reduceIte, namesOf, List.any, I.names, aops, aopsI, aopsT, qstep, CPt, qget, Tbl.get, astep, ev, setd, List.set, List.getD, List.getElem?_cons_zero, List.getElem?_cons_succ, List.getElem?_nil, List.cons_append, List.nil_append, List.length_cons, List.length_nil, List.replicate, then_normal, inBlock_normal, Option.getD_some, Option.getD_none, Bool.or_false, Bool.or_true, Bool.true_or, Bool.false_or, Bool.false_eq_true, if_false, if_true, up_zero, Nat.reduceAdd, Nat.reduceSub, binv, ↓opt_def, AV.isAny, AV.cells, ldc, List.map_cons, List.map_nil, St.set_next, St.set_same, St.up_next, Int.natCast_nonneg, lt_len, le_len, Int.toNat_natCast, true_and, and_true, eq_self, reduceCtorEq, decide_true, List.length_singleton, er_int, er_bool, er_str, srcR, up_zero]
        rcases hc with ⟨hc1, rfl⟩ | ⟨a, e2, l2, G2, ha, hex, her, K4, hp4, hh4, hf4, hG4⟩
        · exact ⟨by omega, _, _, Gh.keep [5, 7, 9], c.set e.row (k + 1), next, l', G, G', turn, ps ++ [(e.row, k)], x', ⟨by simp [hps], K3, hph', hF1.none q1 (by rw [List.getElem?_set_self (List.getElem?_eq_some_iff.1 q2).1]) hc1, hTk', hnl, hNx.none q1 q2 hc1, N3, hA3, hsep3, by omega, by omega⟩, rfl⟩
        · have hl2 : l2.length = l'.length + 1 := by rw [hp4.length_eq]; simp
          refine ⟨by omega, _, _, Gh.keep [5, 7, 9], c.set e.row (k + 1), next.set e.row (k + 2), l2, G2, G', turn + 1, ps ++ [(e.row, k)], x', ⟨by simp [hps], K4, hh4, ?_, hTk', by rw [List.length_set]; exact hnl, ?_, N3.step hf4 (fun g e => ⟨.inr (hG4 g e).1, (hG4 g e).2⟩), ?_, fun g e => ⟨(hsep3 g e).1, fun h' => ?_⟩, by omega, by omega⟩, rfl⟩
          · exact (hF1.push q1 (by rw [List.getElem?_set_self (List.getElem?_eq_some_iff.1 q2).1]) (by rw [hex]; exact ha) her).perm hp4
          · exact hNx.push hnl q1 (List.getElem?_eq_some_iff.1 ha).1
          · refine hA3.keep hf4.next (fun m hm => ?_) (fun g e => ?_)
            · have := N3.lo
              have := N3.like.next
              exact hf4.old m (by omega) (by omega) (by omega) (fun g e => by have := N3.lo.2.2 g e; omega)
            · obtain ⟨⟨s1, s2, s3, s4, s5, s6⟩, s7⟩ := hsep3 g e
              exact hf4.old g (by have := hGl g e; omega) s6 s2 (fun g' e' h' => s7 (by rw [h']; exact e'))
          · have := (hG4 g h').1
            have := hGl g e; omega
    · refine T.cond (b := true) (by simp [ev]; omega) (fun _ => T.skip ?_) (fun h => by cases h)
      refine h2 _ _ ?_
      try clear h2 K_h2
      have hw := inc64' hil (by omega)
      have hri : rows[i]? = some rows[i] := by simp [hil]
      have hrl' := hrl _ (List.getElem_mem hil)
      generalize rows[i] = row at hri hrl'
      have hni := hnx i row hri
      rw [if_neg (by omega)] at hni
      refine T.seq_k (fun K_h2 h2 => ?_)
      refine T.block ?_
      refine T.seq_k (fun K_h0 h0 => ?_)
      refine T.regi hm ?_
      simp only [↓reduceIte, namesOf, List.any, I.names, aopsI, astep, ev, setd, List.set, List.getD, List.getElem?_cons_zero, List.getElem?_cons_succ, List.cons_append, List.nil_append, List.replicate, then_normal, Option.getD_some, Bool.or_false, Bool.false_eq_true, up_zero]
      refine h0 _ _ ?_
      try clear h0 K_h0
      refine T.regi hm ?_
      simp only [↓reduceIte, namesOf, List.any, I.names, aopsI, astep, ev, setd, List.set, List.getD, List.getElem?_cons_zero, List.getElem?_cons_succ, List.cons_append, List.nil_append, List.replicate, then_normal, inBlock_normal, Option.getD_some, Bool.or_false, Bool.false_eq_true, up_zero, List.map_cons, List.map_nil]
      refine (kpushO_ok K hh hri hni hrl' (by omega) (by omega)).mono ?_
      rintro v τ ⟨rfl, hc⟩
      try simp only [↓reduceIte, namesOf, List.any, I.names, aops, aopsI, aopsT, qstep, CPt, qget, Tbl.get, astep, ev, setd, List.set, List.getD, List.getElem?_cons_zero, List.getElem?_cons_succ, List.getElem?_nil, List.cons_append, List.nil_append, List.length_cons, List.length_nil, List.replicate, then_normal, inBlock_normal, Option.getD_some, Option.getD_none, Bool.or_false, Bool.or_true, Bool.true_or, Bool.false_or, Bool.false_eq_true, if_false, if_true, up_zero, Nat.reduceAdd, Nat.reduceSub, binv, ↓opt_def, AV.isAny, AV.cells, ldc, List.map_cons, List.map_nil, St.set_next, St.set_same, St.up_next, Int.natCast_nonneg, lt_len, le_len, Int.toNat_natCast, true_and, and_true, eq_self, reduceCtorEq, decide_true, List.length_singleton, er_int, er_bool, er_str, srcR, up_zero]
      refine h2 _ _ ?_
      try clear h2 K_h2
      refine T.regi hm ?_
      simp only [↓reduceIte, namesOf, List.any, I.names, aopsI, astep, ev, setd, List.set, List.getD, List.getElem?_cons_zero, List.getElem?_cons_succ, List.cons_append, List.nil_append, List.replicate, then_normal, Option.getD_some, Bool.or_false, Bool.false_eq_true, up_zero, binv, ↓opt_def, eq_self, hw]
      rcases hc with ⟨h0, rfl⟩ | ⟨a, e, l', G', ha, hex, her, K', hp, hh', hf, hG'⟩
      · refine ⟨hil, _, _, Gh.keep [5, 7, 19, 20], next, l, G, turn, K, hh, F0.none hri h0, hnl, fun j row' hj => ?_, N, hlt, by omega, rfl⟩
        rw [hnx j row' hj]
        by_cases hji : j = i
        · subst hji
          rw [hri] at hj; cases hj
          rw [if_neg (by omega), if_pos (by omega)]; congr 1; omega
        · by_cases hj2 : j < i
          · rw [if_pos hj2, if_pos (by omega)]
          · rw [if_neg hj2, if_neg (by omega)]
      · have hl2 : l'.length = l.length + 1 := by rw [hp.length_eq]; simp
        refine ⟨hil, _, _, Gh.keep [5, 7, 19, 20], next.set i (0 + 1), l', G', turn + 1, K', hh', (F0.push hri (by rw [hex]; exact ha) her).perm hp, by rw [List.length_set]; exact hnl, fun j row' hj => ?_, N.step hf (fun g e => ⟨.inr (hG' g e).1, (hG' g e).2⟩), by omega, by omega, rfl⟩
        rw [List.getElem?_set]
        by_cases hji : i = j
        · subst hji
          rw [hri] at hj; cases hj
          have := (List.getElem?_eq_some_iff.1 ha).1
          rw [if_pos rfl, if_pos (by omega), if_pos (by omega)]; congr 1; omega
        · rw [if_neg hji, hnx j row' hj]
          by_cases hj2 : j < i
          · rw [if_pos hj2, if_pos (by omega)]
          · rw [if_neg hj2, if_neg (by omega)]

end Go.VL

namespace Go.VL

open Go.Proofs

abbrev n_hnewT : Nat := 139

def c_hnewT : C := (.seq (.reg [⟨(some 2), (.mv (.c .nilp)), none⟩]) (.seq (.reg [⟨(some 3), (.mv (.t 0)), none⟩, ⟨(some 4), (.build [.nilf, (.sl [] .nil), (.int .i64 0)] [(0, (1, (.t 3)))]), none⟩, ⟨(some 5), (.box (.t 4)), none⟩, ⟨(some 2), (.mv (.t 5)), none⟩]) .ret))

set_option maxRecDepth 100000 in
theorem k_hnewT : compileC Try.prog ann (Try.f139.body.getD .skip) = some c_hnewT := by kernel_rfl

theorem s_hnewT {args : List AV} {σ : St} {K : AV → St → Prop} (h : WF σ → T Try.prog ann c_hnewT (Fin σ [(.t 2)] K) (args ++ List.replicate (6 - args.length) (.tup [])) σ) : ACalls Try.prog n_hnewT args σ K :=
  calls_ok Try.func139 (by kernel_rfl) (by kernel_rfl) k_hnewT (by kernel_rfl) (by kernel_rfl) h

abbrev ann_haheadT : Ann := { errs := [(31, .i64)], loc := [(1, 16), (1, 17)], chk := [(1, 3), (1, 6), (1, 10), (1, 13)] }

abbrev n_haheadT : Nat := 163

def c_haheadT : C := (.seq (.reg [⟨(some 6), (.mv (.c (.bool false))), none⟩]) (.seq (.reg [⟨(some 9), (.mv (.t 0)), none⟩, ⟨(some 10), (.nilCheck (.t 9)), none⟩, ⟨(some 11), (.faddr 1 (.t 10)), none⟩, ⟨(some 12), (.qload 3 none (.t 11)), none⟩, ⟨(some 13), (.mv (.t 1)), none⟩, ⟨(some 14), (.iaddr 4 (.t 12) (.t 13)), none⟩, ⟨(some 15), (.qload 6 (some 4) (.t 14)), none⟩, ⟨(some 16), (.mv (.t 0)), none⟩, ⟨(some 17), (.nilCheck (.t 16)), none⟩, ⟨(some 18), (.faddr 1 (.t 17)), none⟩, ⟨(some 19), (.qload 10 none (.t 18)), none⟩, ⟨(some 20), (.mv (.t 2)), none⟩, ⟨(some 21), (.iaddr 4 (.t 19) (.t 20)), none⟩, ⟨(some 22), (.qload 13 (some 4) (.t 21)), none⟩, ⟨(some 7), (.alloc [(.int .u64 0), (.sl [] .nil), (.int .i64 0), (.int .i64 0)]), none⟩, ⟨(some 8), (.alloc [(.int .u64 0), (.sl [] .nil), (.int .i64 0), (.int .i64 0)]), none⟩, ⟨none, (.lstore 16 4 (.t 7) (.t 15)), none⟩, ⟨none, (.lstore 17 4 (.t 8) (.t 22)), none⟩]) (.seq (.reg [⟨(some 23), (.mv (.t 0)), none⟩, ⟨(some 24), (.nilCheck (.t 23)), none⟩, ⟨(some 25), (.faddr 0 (.t 24)), none⟩, ⟨(some 26), (.load none (.t 25)), none⟩, ⟨(some 27), (.faddr 0 (.t 7)), none⟩, ⟨(some 28), (.load (some 3) (.t 27)), none⟩, ⟨(some 29), (.faddr 0 (.t 8)), none⟩, ⟨(some 30), (.load (some 3) (.t 29)), none⟩, ⟨(some 31), (.qcallv (.t 26) [(.t 28), (.t 30)]), none⟩, ⟨(some 32), (.mv (.t 31)), none⟩, ⟨(some 33), (.mv (.t 0)), (some (32, false))⟩, ⟨(some 34), (.nilCheck (.t 33)), (some (32, false))⟩, ⟨(some 35), (.faddr 0 (.t 34)), (some (32, false))⟩, ⟨(some 36), (.load none (.t 35)), (some (32, false))⟩, ⟨(some 37), (.faddr 0 (.t 8)), (some (32, false))⟩, ⟨(some 38), (.load (some 3) (.t 37)), (some (32, false))⟩, ⟨(some 39), (.faddr 0 (.t 7)), (some (32, false))⟩, ⟨(some 40), (.load (some 3) (.t 39)), (some (32, false))⟩, ⟨(some 41), (.qcallv (.t 36) [(.t 38), (.t 40)]), (some (32, false))⟩, ⟨(some 42), (.not (.t 41)), (some (32, false))⟩, ⟨(some 43), (.mv (.t 42)), (some (32, false))⟩, ⟨(some 44), (.faddr 3 (.t 7)), (some (43, true))⟩, ⟨(some 45), (.load none (.t 44)), (some (43, true))⟩, ⟨(some 46), (.faddr 3 (.t 8)), (some (43, true))⟩, ⟨(some 47), (.load none (.t 46)), (some (43, true))⟩, ⟨(some 48), (.bin .lss .i64 (.t 45) (.t 47)), (some (43, true))⟩, ⟨(some 49), (.pick (.t 43) (.t 48) (.c (.bool false))), (some (32, false))⟩, ⟨(some 50), (.pick (.t 32) (.c (.bool true)) (.t 49)), none⟩, ⟨(some 6), (.mv (.t 50)), none⟩]) .ret)))

set_option maxRecDepth 100000 in
theorem k_haheadT : compileC Try.prog ann_haheadT (Try.f163.body.getD .skip) = some c_haheadT := by kernel_rfl

theorem s_haheadT {args : List AV} {σ : St} {K : AV → St → Prop} (h : WF σ → T Try.prog ann_haheadT c_haheadT (Fin σ [(.t 6)] K) (args ++ List.replicate (51 - args.length) (.tup [])) σ) : ACalls Try.prog n_haheadT args σ K :=
  calls_ok Try.func163 (by kernel_rfl) (by kernel_rfl) k_haheadT (by kernel_rfl) (by kernel_rfl) h

abbrev n_hswapT : Nat := 164

def c_hswapT : C := (.reg [⟨(some 6), (.mv (.t 0)), none⟩, ⟨(some 7), (.nilCheck (.t 6)), none⟩, ⟨(some 8), (.faddr 1 (.t 7)), none⟩, ⟨(some 9), (.load none (.t 8)), none⟩, ⟨(some 10), (.mv (.t 1)), none⟩, ⟨(some 11), (.mv (.t 0)), none⟩, ⟨(some 12), (.nilCheck (.t 11)), none⟩, ⟨(some 13), (.faddr 1 (.t 12)), none⟩, ⟨(some 14), (.load none (.t 13)), none⟩, ⟨(some 15), (.mv (.t 2)), none⟩, ⟨(some 16), (.mv (.t 0)), none⟩, ⟨(some 17), (.nilCheck (.t 16)), none⟩, ⟨(some 18), (.faddr 1 (.t 17)), none⟩, ⟨(some 19), (.load none (.t 18)), none⟩, ⟨(some 20), (.mv (.t 2)), none⟩, ⟨(some 21), (.iaddr 4 (.t 19) (.t 20)), none⟩, ⟨(some 22), (.load (some 4) (.t 21)), none⟩, ⟨(some 23), (.mv (.t 0)), none⟩, ⟨(some 24), (.nilCheck (.t 23)), none⟩, ⟨(some 25), (.faddr 1 (.t 24)), none⟩, ⟨(some 26), (.load none (.t 25)), none⟩, ⟨(some 27), (.mv (.t 1)), none⟩, ⟨(some 28), (.iaddr 4 (.t 26) (.t 27)), none⟩, ⟨(some 29), (.load (some 4) (.t 28)), none⟩, ⟨(some 30), (.iaddr 4 (.t 9) (.t 10)), none⟩, ⟨none, (.store 4 (.t 30) (.t 22)), none⟩, ⟨(some 31), (.iaddr 4 (.t 14) (.t 15)), none⟩, ⟨none, (.store 4 (.t 31) (.t 29)), none⟩])

set_option maxRecDepth 100000 in
theorem k_hswapT : compileC Try.prog ann (Try.f164.body.getD .skip) = some c_hswapT := by kernel_rfl

theorem s_hswapT {args : List AV} {σ : St} {K : AV → St → Prop} (h : WF σ → T Try.prog ann c_hswapT (Fin σ [] K) (args ++ List.replicate (32 - args.length) (.tup [])) σ) : ACalls Try.prog n_hswapT args σ K :=
  calls_ok Try.func164 (by kernel_rfl) (by kernel_rfl) k_hswapT (by kernel_rfl) (by kernel_rfl) h

abbrev ann_hpushT : Ann := { errs := [(31, .i64)], hold := [(2, 12, .grow)] }

abbrev n_hpushT : Nat := 142

def c_hpushT : C := (.seq (.reg [⟨(some 3), (.box (.t 1)), none⟩]) (.seq (.reg [⟨(some 5), (.mv (.t 0)), none⟩, ⟨(some 6), (.nilCheck (.t 5)), none⟩, ⟨(some 7), (.faddr 2 (.t 6)), none⟩, ⟨(some 8), (.load none (.t 7)), none⟩, ⟨(some 9), (.bin .add .i64 (.t 8) (.c (.int .i64 1))), none⟩, ⟨(some 10), (.nilCheck (.t 5)), none⟩, ⟨(some 11), (.faddr 2 (.t 10)), none⟩, ⟨none, (.store 1 (.t 11) (.t 9)), none⟩]) (.seq (.reg [⟨(some 12), (.mv (.t 0)), none⟩, ⟨(some 13), (.mv (.t 0)), none⟩, ⟨(some 14), (.nilCheck (.t 13)), none⟩, ⟨(some 15), (.faddr 1 (.t 14)), none⟩, ⟨(some 16), (.load none (.t 15)), none⟩, ⟨(some 17), (.load (some 3) (.t 3)), none⟩, ⟨(some 18), (.mv (.t 0)), none⟩, ⟨(some 19), (.nilCheck (.t 18)), none⟩, ⟨(some 20), (.faddr 2 (.t 19)), none⟩, ⟨(some 21), (.load none (.t 20)), none⟩, ⟨(some 22), (.build [(.int .u64 0), (.sl [] .nil), (.int .i64 0), (.int .i64 0)] [(0, (3, (.t 17))), (3, (1, (.t 21)))]), none⟩, ⟨(some 23), (.bslice 4 .val [(.t 22)]), none⟩, ⟨(some 24), (.appR 4 48 (.t 16) (.t 23)), none⟩, ⟨(some 25), (.nilCheck (.t 12)), none⟩, ⟨(some 26), (.faddr 1 (.t 25)), none⟩, ⟨none, (.store 1 (.t 26) (.t 24)), none⟩]) (.seq (.reg [⟨(some 27), (.mv (.t 0)), none⟩, ⟨(some 28), (.nilCheck (.t 27)), none⟩, ⟨(some 29), (.faddr 1 (.t 28)), none⟩, ⟨(some 30), (.load none (.t 29)), none⟩, ⟨(some 31), (.len (.t 30)), none⟩, ⟨(some 32), (.bin .sub .i64 (.t 31) (.c (.int .i64 1))), none⟩, ⟨(some 4), (.mv (.t 32)), none⟩]) (.block 0 (.loop (.seq (.seq (.reg [⟨(some 33), (.mv (.t 4)), none⟩, ⟨(some 34), (.bin .gtr .i64 (.t 33) (.c (.int .i64 0))), none⟩, ⟨(some 35), (.mv (.t 34)), none⟩, ⟨(some 36), (.mv (.t 0)), (some (35, true))⟩, ⟨(some 37), (.mv (.t 4)), (some (35, true))⟩, ⟨(some 38), (.mv (.t 4)), (some (35, true))⟩, ⟨(some 39), (.bin .sub .i64 (.t 38) (.c (.int .i64 1))), (some (35, true))⟩, ⟨(some 40), (.bin .quo .i64 (.t 39) (.c (.int .i64 2))), (some (35, true))⟩, ⟨(some 41), (.call 163 [(.t 36), (.t 37), (.t 40)]), (some (35, true))⟩, ⟨(some 42), (.pick (.t 35) (.t 41) (.c (.bool false))), none⟩]) (.cond (.t 42) .skip (.exit 0))) (.seq (.block 1 (.reg [⟨(some 46), (.mv (.t 0)), none⟩, ⟨(some 47), (.mv (.t 4)), none⟩, ⟨(some 48), (.mv (.t 4)), none⟩, ⟨(some 49), (.bin .sub .i64 (.t 48) (.c (.int .i64 1))), none⟩, ⟨(some 50), (.bin .quo .i64 (.t 49) (.c (.int .i64 2))), none⟩, ⟨(some 51), (.call 164 [(.t 46), (.t 47), (.t 50)]), none⟩])) (.reg [⟨(some 43), (.mv (.t 4)), none⟩, ⟨(some 44), (.bin .sub .i64 (.t 43) (.c (.int .i64 1))), none⟩, ⟨(some 45), (.bin .quo .i64 (.t 44) (.c (.int .i64 2))), none⟩, ⟨(some 4), (.mv (.t 45)), none⟩])))))))))

set_option maxRecDepth 100000 in
theorem k_hpushT : compileC Try.prog ann_hpushT (Try.f142.body.getD .skip) = some c_hpushT := by kernel_rfl

theorem s_hpushT {args : List AV} {σ : St} {K : AV → St → Prop} (h : WF σ → T Try.prog ann_hpushT c_hpushT (Fin σ [] K) (args ++ List.replicate (52 - args.length) (.tup [])) σ) : ACalls Try.prog n_hpushT args σ K :=
  calls_ok Try.func142 (by kernel_rfl) (by kernel_rfl) k_hpushT (by kernel_rfl) (by kernel_rfl) h

abbrev n_hpeekT : Nat := 165

def c_hpeekT : C := (.seq (.reg [⟨(some 2), (.alloc [(.int .u64 0), (.sl [] .nil), (.int .i64 0)]), none⟩, ⟨(some 3), (.mv (.c (.bool false))), none⟩]) (.seq (.seq (.reg [⟨(some 5), (.mv (.t 0)), none⟩, ⟨(some 6), (.nilCheck (.t 5)), none⟩, ⟨(some 7), (.faddr 1 (.t 6)), none⟩, ⟨(some 8), (.load none (.t 7)), none⟩, ⟨(some 9), (.len (.t 8)), none⟩, ⟨(some 10), (.bin .eql .i64 (.t 9) (.c (.int .i64 0))), none⟩]) (.cond (.t 10) (.seq (.reg [⟨(some 4), (.alloc [(.int .u64 0), (.sl [] .nil), (.int .i64 0)]), none⟩]) (.seq (.reg [⟨(some 11), (.load (some 3) (.t 4)), none⟩, ⟨none, (.store 3 (.t 2) (.t 11)), none⟩, ⟨(some 3), (.mv (.c (.bool false))), none⟩]) .ret)) .skip)) (.seq (.reg [⟨(some 12), (.mv (.t 0)), none⟩, ⟨(some 13), (.nilCheck (.t 12)), none⟩, ⟨(some 14), (.faddr 1 (.t 13)), none⟩, ⟨(some 15), (.load none (.t 14)), none⟩, ⟨(some 16), (.iaddr 4 (.t 15) (.c (.int .i64 0))), none⟩, ⟨(some 17), (.faddr 0 (.t 16)), none⟩, ⟨(some 18), (.load (some 3) (.t 17)), none⟩, ⟨none, (.store 3 (.t 2) (.t 18)), none⟩, ⟨(some 3), (.mv (.c (.bool true))), none⟩]) .ret)))

set_option maxRecDepth 100000 in
theorem k_hpeekT : compileC Try.prog ann (Try.f165.body.getD .skip) = some c_hpeekT := by kernel_rfl

theorem s_hpeekT {args : List AV} {σ : St} {K : AV → St → Prop} (h : WF σ → T Try.prog ann c_hpeekT (Fin σ [(.cell 2 (some 3)), (.t 3)] K) (args ++ List.replicate (19 - args.length) (.tup [])) σ) : ACalls Try.prog n_hpeekT args σ K :=
  calls_ok Try.func165 (by kernel_rfl) (by kernel_rfl) k_hpeekT (by kernel_rfl) (by kernel_rfl) h

abbrev n_hpopT : Nat := 143

def c_hpopT : C := (.seq (.reg [⟨(some 2), (.alloc [(.int .u64 0), (.sl [] .nil), (.int .i64 0)]), none⟩, ⟨(some 3), (.mv (.c (.bool false))), none⟩]) (.seq (.reg [⟨(some 11), (.mv (.t 0)), none⟩, ⟨(some 12), (.call 165 [(.t 11)]), none⟩, ⟨(some 10), (.mv (.t 12)), none⟩, ⟨(some 13), (.ext (.t 10) 0), none⟩, ⟨(some 14), (.ext (.t 10) 1), none⟩, ⟨(some 4), (.alloc [(.int .u64 0), (.sl [] .nil), (.int .i64 0)]), none⟩, ⟨none, (.store 3 (.t 4) (.t 13)), none⟩, ⟨(some 5), (.mv (.t 14)), none⟩]) (.seq (.seq (.reg [⟨(some 15), (.mv (.t 5)), none⟩, ⟨(some 16), (.not (.t 15)), none⟩]) (.cond (.t 16) (.seq (.reg [⟨(some 17), (.load (some 3) (.t 4)), none⟩, ⟨none, (.store 3 (.t 2) (.t 17)), none⟩, ⟨(some 3), (.mv (.c (.bool false))), none⟩]) .ret) .skip)) (.seq (.reg [⟨(some 18), (.mv (.t 0)), none⟩, ⟨(some 19), (.nilCheck (.t 18)), none⟩, ⟨(some 20), (.faddr 1 (.t 19)), none⟩, ⟨(some 21), (.load none (.t 20)), none⟩, ⟨(some 22), (.len (.t 21)), none⟩, ⟨(some 23), (.bin .sub .i64 (.t 22) (.c (.int .i64 1))), none⟩, ⟨(some 6), (.mv (.t 23)), none⟩]) (.seq (.reg [⟨(some 24), (.mv (.t 0)), none⟩, ⟨(some 25), (.mv (.t 6)), none⟩, ⟨(some 26), (.call 164 [(.t 24), (.c (.int .i64 0)), (.t 25)]), none⟩]) (.seq (.reg [⟨(some 27), (.mv (.t 0)), none⟩, ⟨(some 28), (.mv (.t 0)), none⟩, ⟨(some 29), (.nilCheck (.t 28)), none⟩, ⟨(some 30), (.faddr 1 (.t 29)), none⟩, ⟨(some 31), (.load none (.t 30)), none⟩, ⟨(some 32), (.mv (.t 6)), none⟩, ⟨(some 33), (.slice 4 (.t 31) none (some (.t 32))), none⟩, ⟨(some 34), (.nilCheck (.t 27)), none⟩, ⟨(some 35), (.faddr 1 (.t 34)), none⟩, ⟨none, (.store 1 (.t 35) (.t 33)), none⟩]) (.seq (.reg [⟨(some 7), (.mv (.c (.int .i64 0))), none⟩]) (.block 0 (.loop (.block 1 (.seq (.reg [⟨(some 36), (.mv (.t 7)), none⟩, ⟨(some 8), (.mv (.t 36)), none⟩]) (.seq (.seq (.reg [⟨(some 37), (.mv (.t 7)), none⟩, ⟨(some 38), (.bin .mul .i64 (.c (.int .i64 2)) (.t 37)), none⟩, ⟨(some 39), (.bin .add .i64 (.t 38) (.c (.int .i64 1))), none⟩, ⟨(some 9), (.mv (.t 39)), none⟩]) (.block 2 (.loop (.seq (.seq (.reg [⟨(some 40), (.mv (.t 9)), none⟩, ⟨(some 41), (.mv (.t 7)), none⟩, ⟨(some 42), (.bin .mul .i64 (.c (.int .i64 2)) (.t 41)), none⟩, ⟨(some 43), (.bin .add .i64 (.t 42) (.c (.int .i64 3))), none⟩, ⟨(some 44), (.mv (.t 6)), none⟩, ⟨(some 45), (.mn [(.t 43), (.t 44)]), none⟩, ⟨(some 46), (.bin .lss .i64 (.t 40) (.t 45)), none⟩]) (.cond (.t 46) .skip (.exit 2))) (.seq (.block 3 (.seq (.reg [⟨(some 49), (.mv (.t 0)), none⟩, ⟨(some 50), (.mv (.t 9)), none⟩, ⟨(some 51), (.mv (.t 8)), none⟩, ⟨(some 52), (.call 163 [(.t 49), (.t 50), (.t 51)]), none⟩]) (.cond (.t 52) (.reg [⟨(some 53), (.mv (.t 9)), none⟩, ⟨(some 8), (.mv (.t 53)), none⟩]) .skip))) (.reg [⟨(some 47), (.mv (.t 9)), none⟩, ⟨(some 48), (.bin .add .i64 (.t 47) (.c (.int .i64 1))), none⟩, ⟨(some 9), (.mv (.t 48)), none⟩])))))) (.seq (.seq (.reg [⟨(some 54), (.mv (.t 8)), none⟩, ⟨(some 55), (.mv (.t 7)), none⟩, ⟨(some 56), (.bin .eql .i64 (.t 54) (.t 55)), none⟩]) (.cond (.t 56) (.seq (.reg [⟨(some 57), (.load (some 3) (.t 4)), none⟩, ⟨none, (.store 3 (.t 2) (.t 57)), none⟩, ⟨(some 3), (.mv (.c (.bool true))), none⟩]) .ret) .skip)) (.seq (.reg [⟨(some 58), (.mv (.t 0)), none⟩, ⟨(some 59), (.mv (.t 7)), none⟩, ⟨(some 60), (.mv (.t 8)), none⟩, ⟨(some 61), (.call 164 [(.t 58), (.t 59), (.t 60)]), none⟩]) (.reg [⟨(some 62), (.mv (.t 8)), none⟩, ⟨(some 7), (.mv (.t 62)), none⟩])))))))))))))))

set_option maxRecDepth 100000 in
theorem k_hpopT : compileC Try.prog ann (Try.f143.body.getD .skip) = some c_hpopT := by kernel_rfl

theorem s_hpopT {args : List AV} {σ : St} {K : AV → St → Prop} (h : WF σ → T Try.prog ann c_hpopT (Fin σ [(.cell 2 (some 3)), (.t 3)] K) (args ++ List.replicate (63 - args.length) (.tup [])) σ) : ACalls Try.prog n_hpopT args σ K :=
  calls_ok Try.func143 (by kernel_rfl) (by kernel_rfl) k_hpopT (by kernel_rfl) (by kernel_rfl) h

abbrev n_ksortT : Nat := 99

def c_ksortT : C := (.seq (.reg [⟨(some 2), (.box (.t 0)), none⟩, ⟨(some 3), (.box (.t 1)), none⟩, ⟨(some 4), (.mv (.c (.sl [] .nil))), none⟩]) (.seq (.reg [⟨(some 12), (.mkF 140 [] [(.t 3)]), none⟩, ⟨(some 13), (.call 139 [(.t 12)]), none⟩, ⟨(some 5), (.alloc [.nilp]), none⟩, ⟨none, (.store 1 (.t 5) (.t 13)), none⟩]) (.seq (.reg [⟨(some 14), (.load none (.t 2)), none⟩, ⟨(some 15), (.len (.t 14)), none⟩, ⟨(some 16), (.mkS 1 8 .own (.int .i64 0) (.t 15) (.t 15)), none⟩, ⟨(some 6), (.alloc [(.sl [] .nil)]), none⟩, ⟨none, (.store 1 (.t 6) (.t 16)), none⟩]) (.seq (.reg [⟨(some 17), (.mkF 141 [] [(.t 6), (.t 2), (.t 5)]), none⟩, ⟨(some 7), (.mv (.t 17)), none⟩]) (.seq (.seq (.reg [⟨(some 18), (.load none (.t 2)), none⟩, ⟨(some 19), (.len (.t 18)), none⟩, ⟨(some 20), (.mv (.c (.int .i64 0))), none⟩]) (.block 0 (.loop (.seq (.reg [⟨(some 21), (.bin .lss .i64 (.t 20) (.t 19)), none⟩]) (.seq (.cond (.t 21) .skip (.exit 0)) (.seq (.block 1 (.seq (.reg [⟨(some 22), (.mv (.t 20)), none⟩, ⟨(some 8), (.mv (.t 22)), none⟩]) (.reg [⟨(some 23), (.mv (.t 7)), none⟩, ⟨(some 24), (.mv (.t 8)), none⟩, ⟨(some 25), (.callv (.t 23) [(.t 24)]), none⟩]))) (.reg [⟨(some 26), (.bin .add .i64 (.t 20) (.c (.int .i64 1))), none⟩, ⟨(some 20), (.mv (.t 26)), none⟩]))))))) (.seq (.reg [⟨(some 9), (.mv (.c (.sl [] .nil))), none⟩]) (.block 2 (.loop (.block 3 (.seq (.reg [⟨(some 28), (.load none (.t 5)), none⟩, ⟨(some 29), (.call 143 [(.t 28)]), none⟩, ⟨(some 27), (.mv (.t 29)), none⟩, ⟨(some 30), (.ext (.t 27) 0), none⟩, ⟨(some 31), (.ext (.t 27) 1), none⟩, ⟨(some 10), (.alloc [(.int .u64 0), (.sl [] .nil), (.int .i64 0)]), none⟩, ⟨none, (.store 3 (.t 10) (.t 30)), none⟩, ⟨(some 11), (.mv (.t 31)), none⟩]) (.seq (.seq (.reg [⟨(some 32), (.mv (.t 11)), none⟩, ⟨(some 33), (.not (.t 32)), none⟩]) (.cond (.t 33) (.seq (.reg [⟨(some 34), (.mv (.t 9)), none⟩, ⟨(some 4), (.mv (.t 34)), none⟩]) .ret) .skip)) (.seq (.reg [⟨(some 35), (.mv (.t 9)), none⟩, ⟨(some 36), (.faddr 0 (.t 10)), none⟩, ⟨(some 37), (.load (some 2) (.t 36)), none⟩, ⟨(some 38), (.bslice 2 .val [(.t 37)]), none⟩, ⟨(some 39), (.app 2 32 .tip (.t 35) (.t 38)), none⟩, ⟨(some 9), (.mv (.t 39)), none⟩]) (.reg [⟨(some 40), (.mv (.t 7)), none⟩, ⟨(some 41), (.faddr 2 (.t 10)), none⟩, ⟨(some 42), (.load none (.t 41)), none⟩, ⟨(some 43), (.callv (.t 40) [(.t 42)]), none⟩])))))))))))))

set_option maxRecDepth 100000 in
theorem k_ksortT : compileC Try.prog ann (Try.f99.body.getD .skip) = some c_ksortT := by kernel_rfl

theorem s_ksortT {args : List AV} {σ : St} {K : AV → St → Prop} (h : WF σ → T Try.prog ann c_ksortT (Fin σ [(.t 4)] K) (args ++ List.replicate (44 - args.length) (.tup [])) σ) : ACalls Try.prog n_ksortT args σ K :=
  calls_ok Try.func99 (by kernel_rfl) (by kernel_rfl) k_ksortT (by kernel_rfl) (by kernel_rfl) h

abbrev n_klessT : Nat := 140

def c_klessT : C := (.seq (.reg [⟨(some 3), (.box (.t 0)), none⟩, ⟨(some 4), (.box (.t 1)), none⟩, ⟨(some 5), (.mv (.c (.bool false))), none⟩]) (.seq (.reg [⟨(some 6), (.load none (.t 2)), none⟩, ⟨(some 7), (.faddr 0 (.t 3)), none⟩, ⟨(some 8), (.load (some 2) (.t 7)), none⟩, ⟨(some 9), (.faddr 0 (.t 4)), none⟩, ⟨(some 10), (.load (some 2) (.t 9)), none⟩, ⟨(some 11), (.callv (.t 6) [(.t 8), (.t 10)]), none⟩, ⟨(some 12), (.mv (.t 11)), none⟩, ⟨(some 13), (.load none (.t 2)), (some (12, false))⟩, ⟨(some 14), (.faddr 0 (.t 4)), (some (12, false))⟩, ⟨(some 15), (.load (some 2) (.t 14)), (some (12, false))⟩, ⟨(some 16), (.faddr 0 (.t 3)), (some (12, false))⟩, ⟨(some 17), (.load (some 2) (.t 16)), (some (12, false))⟩, ⟨(some 18), (.callv (.t 13) [(.t 15), (.t 17)]), (some (12, false))⟩, ⟨(some 19), (.not (.t 18)), (some (12, false))⟩, ⟨(some 20), (.mv (.t 19)), (some (12, false))⟩, ⟨(some 21), (.faddr 2 (.t 3)), (some (20, true))⟩, ⟨(some 22), (.load none (.t 21)), (some (20, true))⟩, ⟨(some 23), (.faddr 2 (.t 4)), (some (20, true))⟩, ⟨(some 24), (.load none (.t 23)), (some (20, true))⟩, ⟨(some 25), (.bin .lss .i64 (.t 22) (.t 24)), (some (20, true))⟩, ⟨(some 26), (.pick (.t 20) (.t 25) (.c (.bool false))), (some (12, false))⟩, ⟨(some 27), (.pick (.t 12) (.c (.bool true)) (.t 26)), none⟩, ⟨(some 5), (.mv (.t 27)), none⟩]) .ret))

set_option maxRecDepth 100000 in
theorem k_klessT : compileC Try.prog ann (Try.f140.body.getD .skip) = some c_klessT := by kernel_rfl

theorem s_klessT {args : List AV} {σ : St} {K : AV → St → Prop} (h : WF σ → T Try.prog ann c_klessT (Fin σ [(.t 5)] K) (args ++ List.replicate (28 - args.length) (.tup [])) σ) : ACalls Try.prog n_klessT args σ K :=
  calls_ok Try.func140 (by kernel_rfl) (by kernel_rfl) k_klessT (by kernel_rfl) (by kernel_rfl) h

abbrev ann_kpushT : Ann := { errs := [(31, .i64)], full := [(1, 13)] }

abbrev n_kpushT : Nat := 141

def c_kpushT : C := (.seq (.reg [⟨(some 5), (.load none (.t 1)), none⟩, ⟨(some 6), (.mv (.t 0)), none⟩, ⟨(some 7), (.iaddr 1 (.t 5) (.t 6)), none⟩, ⟨(some 8), (.load none (.t 7)), none⟩, ⟨(some 9), (.load none (.t 2)), none⟩, ⟨(some 10), (.mv (.t 0)), none⟩, ⟨(some 11), (.iaddr 1 (.t 9) (.t 10)), none⟩, ⟨(some 12), (.load none (.t 11)), none⟩, ⟨(some 13), (.len (.t 12)), none⟩, ⟨(some 14), (.bin .lss .i64 (.t 8) (.t 13)), none⟩]) (.cond (.t 14) (.seq (.reg [⟨(some 15), (.load none (.t 3)), none⟩, ⟨(some 16), (.load none (.t 2)), none⟩, ⟨(some 17), (.mv (.t 0)), none⟩, ⟨(some 18), (.iaddr 1 (.t 16) (.t 17)), none⟩, ⟨(some 19), (.load none (.t 18)), none⟩, ⟨(some 20), (.load none (.t 1)), none⟩, ⟨(some 21), (.mv (.t 0)), none⟩, ⟨(some 22), (.iaddr 1 (.t 20) (.t 21)), none⟩, ⟨(some 23), (.load none (.t 22)), none⟩, ⟨(some 24), (.iaddr 2 (.t 19) (.t 23)), none⟩, ⟨(some 25), (.load (some 2) (.t 24)), none⟩, ⟨(some 26), (.mv (.t 0)), none⟩, ⟨(some 27), (.build [(.int .u64 0), (.sl [] .nil), (.int .i64 0)] [(0, (2, (.t 25))), (2, (1, (.t 26)))]), none⟩, ⟨(some 28), (.call 142 [(.t 15), (.t 27)]), none⟩]) (.reg [⟨(some 29), (.load none (.t 1)), none⟩, ⟨(some 30), (.mv (.t 0)), none⟩, ⟨(some 31), (.iaddr 1 (.t 29) (.t 30)), none⟩, ⟨(some 32), (.load none (.t 31)), none⟩, ⟨(some 33), (.bin .add .i64 (.t 32) (.c (.int .i64 1))), none⟩, ⟨(some 34), (.iaddr 1 (.t 29) (.t 30)), none⟩, ⟨none, (.store 1 (.t 34) (.t 33)), none⟩])) .skip))

set_option maxRecDepth 100000 in
theorem k_kpushT : compileC Try.prog ann_kpushT (Try.f141.body.getD .skip) = some c_kpushT := by kernel_rfl

theorem s_kpushT {args : List AV} {σ : St} {K : AV → St → Prop} (h : WF σ → T Try.prog ann_kpushT c_kpushT (Fin σ [] K) (args ++ List.replicate (35 - args.length) (.tup [])) σ) : ACalls Try.prog n_kpushT args σ K :=
  calls_ok Try.func141 (by kernel_rfl) (by kernel_rfl) k_kpushT (by kernel_rfl) (by kernel_rfl) h

abbrev ann_kmerge : Ann := { errs := [(31, .i64)], hold := [(13, 5, .grow)] }

abbrev n_kmerge : Nat := 56

def c_kmerge : C := (.seq (.reg [⟨(some 2), (.mv (.c (.sl [] .nil))), none⟩, ⟨(some 3), (.mv (.c .nili)), none⟩]) (.seq (.seq (.reg [⟨(some 10), (.mv (.t 0)), none⟩, ⟨(some 11), (.len (.t 10)), none⟩, ⟨(some 12), (.mv (.c (.int .i64 0))), none⟩]) (.block 0 (.loop (.seq (.reg [⟨(some 13), (.bin .lss .i64 (.t 12) (.t 11)), none⟩]) (.seq (.cond (.t 13) .skip (.exit 0)) (.seq (.block 1 (.seq (.reg [⟨(some 14), (.iaddr 1 (.t 10) (.t 12)), none⟩, ⟨(some 15), (.load none (.t 14)), none⟩, ⟨(some 5), (.mv (.t 15)), none⟩]) (.seq (.reg [⟨(some 16), (.mv (.t 5)), none⟩, ⟨(some 17), (.call 61 [(.t 16)]), none⟩, ⟨(some 18), (.not (.t 17)), none⟩]) (.cond (.t 18) (.seq (.reg [⟨(some 19), (.mkI 31 (.c (.int .i64 1))), none⟩, ⟨(some 2), (.mv (.c (.sl [] .nil))), none⟩, ⟨(some 3), (.mv (.t 19)), none⟩]) .ret) .skip)))) (.reg [⟨(some 20), (.bin .add .i64 (.t 12) (.c (.int .i64 1))), none⟩, ⟨(some 12), (.mv (.t 20)), none⟩]))))))) (.seq (.reg [⟨(some 6), (.mv (.c (.sl [] .nil))), none⟩]) (.seq (.seq (.reg [⟨(some 21), (.mv (.t 0)), none⟩, ⟨(some 22), (.call 99 [(.t 21), (.c (.func 100 [] []))]), none⟩, ⟨(some 23), (.len (.t 22)), none⟩, ⟨(some 24), (.mv (.c (.int .i64 0))), none⟩]) (.block 2 (.loop (.seq (.reg [⟨(some 25), (.bin .lss .i64 (.t 24) (.t 23)), none⟩]) (.seq (.cond (.t 25) .skip (.exit 2)) (.seq (.block 3 (.seq (.reg [⟨(some 26), (.iaddr 2 (.t 22) (.t 24)), none⟩, ⟨(some 27), (.load (some 2) (.t 26)), none⟩, ⟨(some 8), (.alloc [(.int .u64 0), (.sl [] .nil)]), none⟩, ⟨none, (.store 2 (.t 8) (.t 27)), none⟩]) (.seq (.reg [⟨(some 28), (.mv (.t 6)), none⟩, ⟨(some 29), (.len (.t 28)), none⟩, ⟨(some 30), (.bin .sub .i64 (.t 29) (.c (.int .i64 1))), none⟩, ⟨(some 9), (.mv (.t 30)), none⟩]) (.seq (.seq (.reg [⟨(some 31), (.mv (.t 9)), none⟩, ⟨(some 32), (.bin .lss .i64 (.t 31) (.c (.int .i64 0))), none⟩, ⟨(some 33), (.mv (.t 32)), none⟩, ⟨(some 34), (.mv (.t 6)), (some (33, false))⟩, ⟨(some 35), (.mv (.t 9)), (some (33, false))⟩, ⟨(some 36), (.iaddr 2 (.t 34) (.t 35)), (some (33, false))⟩, ⟨(some 37), (.faddr 0 (.t 36)), (some (33, false))⟩, ⟨(some 38), (.load none (.t 37)), (some (33, false))⟩, ⟨(some 39), (.faddr 0 (.t 8)), (some (33, false))⟩, ⟨(some 40), (.load none (.t 39)), (some (33, false))⟩, ⟨(some 41), (.bin .neq .u64 (.t 38) (.t 40)), (some (33, false))⟩, ⟨(some 42), (.pick (.t 33) (.c (.bool true)) (.t 41)), none⟩]) (.cond (.t 42) (.seq (.reg [⟨(some 43), (.mv (.t 6)), none⟩, ⟨(some 44), (.faddr 0 (.t 8)), none⟩, ⟨(some 45), (.load none (.t 44)), none⟩, ⟨(some 46), (.build [(.int .u64 0), (.sl [] .nil)] [(0, (1, (.t 45)))]), none⟩, ⟨(some 47), (.bslice 2 .val [(.t 46)]), none⟩, ⟨(some 48), (.appR 2 32 (.t 43) (.t 47)), none⟩, ⟨(some 6), (.mv (.t 48)), none⟩]) (.reg [⟨(some 49), (.mv (.t 9)), none⟩, ⟨(some 50), (.bin .add .i64 (.t 49) (.c (.int .i64 1))), none⟩, ⟨(some 9), (.mv (.t 50)), none⟩])) .skip)) (.reg [⟨(some 51), (.mv (.t 6)), none⟩, ⟨(some 52), (.mv (.t 9)), none⟩, ⟨(some 53), (.mv (.t 6)), none⟩, ⟨(some 54), (.mv (.t 9)), none⟩, ⟨(some 55), (.iaddr 2 (.t 53) (.t 54)), none⟩, ⟨(some 56), (.faddr 1 (.t 55)), none⟩, ⟨(some 57), (.load none (.t 56)), none⟩, ⟨(some 58), (.faddr 1 (.t 8)), none⟩, ⟨(some 59), (.load none (.t 58)), none⟩, ⟨(some 60), (.qcall 28 [(.t 57), (.t 59)]), none⟩, ⟨(some 61), (.iaddr 2 (.t 51) (.t 52)), none⟩, ⟨(some 62), (.faddr 1 (.t 61)), none⟩, ⟨none, (.store 1 (.t 62) (.t 60)), none⟩]))))) (.reg [⟨(some 63), (.bin .add .i64 (.t 24) (.c (.int .i64 1))), none⟩, ⟨(some 24), (.mv (.t 63)), none⟩]))))))) (.seq (.seq (.reg [⟨(some 64), (.mv (.t 6)), none⟩, ⟨(some 65), (.call 61 [(.t 64)]), none⟩, ⟨(some 66), (.not (.t 65)), none⟩]) (.cond (.t 66) (.seq (.reg [⟨(some 67), (.mkI 31 (.c (.int .i64 3))), none⟩, ⟨(some 2), (.mv (.c (.sl [] .nil))), none⟩, ⟨(some 3), (.mv (.t 67)), none⟩]) .ret) .skip)) (.seq (.reg [⟨(some 68), (.mv (.t 6)), none⟩, ⟨(some 2), (.mv (.t 68)), none⟩, ⟨(some 3), (.mv (.c .nili)), none⟩]) .ret))))))

set_option maxRecDepth 100000 in
theorem k_kmerge : compileC Try.prog ann_kmerge (Try.f56.body.getD .skip) = some c_kmerge := by kernel_rfl

theorem s_kmerge {args : List AV} {σ : St} {K : AV → St → Prop} (h : WF σ → T Try.prog ann_kmerge c_kmerge (Fin σ [(.t 2), (.t 3)] K) (args ++ List.replicate (69 - args.length) (.tup [])) σ) : ACalls Try.prog n_kmerge args σ K :=
  calls_ok Try.func56 (by kernel_rfl) (by kernel_rfl) k_kmerge (by kernel_rfl) (by kernel_rfl) h

abbrev n_kmerge1 : Nat := 100

def c_kmerge1 : C := (.seq (.reg [⟨(some 2), (.box (.t 0)), none⟩, ⟨(some 3), (.box (.t 1)), none⟩, ⟨(some 4), (.mv (.c (.bool false))), none⟩]) (.seq (.reg [⟨(some 5), (.faddr 0 (.t 2)), none⟩, ⟨(some 6), (.load none (.t 5)), none⟩, ⟨(some 7), (.faddr 0 (.t 3)), none⟩, ⟨(some 8), (.load none (.t 7)), none⟩, ⟨(some 9), (.bin .lss .u64 (.t 6) (.t 8)), none⟩, ⟨(some 4), (.mv (.t 9)), none⟩]) .ret))

set_option maxRecDepth 100000 in
theorem k_kmerge1 : compileC Try.prog ann (Try.f100.body.getD .skip) = some c_kmerge1 := by kernel_rfl

theorem s_kmerge1 {args : List AV} {σ : St} {K : AV → St → Prop} (h : WF σ → T Try.prog ann c_kmerge1 (Fin σ [(.t 4)] K) (args ++ List.replicate (10 - args.length) (.tup [])) σ) : ACalls Try.prog n_kmerge1 args σ K :=
  calls_ok Try.func100 (by kernel_rfl) (by kernel_rfl) k_kmerge1 (by kernel_rfl) (by kernel_rfl) h

abbrev n_up10 : Nat := 54

def c_up10 : C := (.seq (.reg [⟨(some 0), (.mv (.c (.bool false))), none⟩]) (.seq (.reg [⟨(some 7), (.build [(.int .u64 0), (.int .u64 0), (.int .i64 0), (.int .i64 0), (.sl [] .nil)] [(0, (1, (.c (.int .u64 1)))), (1, (1, (.c (.int .u64 2))))]), none⟩, ⟨(some 8), (.bslice 5 .val [(.t 7)]), none⟩, ⟨(some 9), (.build [(.int .u64 0), (.sl [] .nil)] [(0, (1, (.c (.int .u64 1)))), (1, (1, (.t 8)))]), none⟩, ⟨(some 10), (.bslice 2 .val [(.t 9)]), none⟩, ⟨(some 1), (.mv (.t 10)), none⟩]) (.seq (.reg [⟨(some 11), (.build [(.int .u64 0), (.int .u64 0), (.int .i64 0), (.int .i64 0), (.sl [] .nil)] [(0, (1, (.c (.int .u64 1)))), (1, (1, (.c (.int .u64 1))))]), none⟩, ⟨(some 12), (.bslice 5 .val [(.t 11)]), none⟩, ⟨(some 13), (.build [(.int .u64 0), (.sl [] .nil)] [(0, (1, (.c (.int .u64 1)))), (1, (1, (.t 12)))]), none⟩, ⟨(some 14), (.bslice 2 .val [(.t 13)]), none⟩, ⟨(some 2), (.mv (.t 14)), none⟩]) (.seq (.reg [⟨(some 16), (.mv (.t 1)), none⟩, ⟨(some 17), (.mv (.t 2)), none⟩, ⟨(some 18), (.bslice 1 .val [(.t 16), (.t 17)]), none⟩, ⟨(some 19), (.call 56 [(.t 18)]), none⟩, ⟨(some 15), (.mv (.t 19)), none⟩, ⟨(some 20), (.ext (.t 15) 0), none⟩, ⟨(some 21), (.ext (.t 15) 1), none⟩, ⟨(some 3), (.mv (.t 20)), none⟩, ⟨(some 4), (.mv (.t 21)), none⟩]) (.seq (.reg [⟨(some 23), (.build [(.int .u64 0), (.sl [] .nil)] []), none⟩, ⟨(some 24), (.bslice 2 .val [(.t 23)]), none⟩, ⟨(some 25), (.bslice 1 .val [(.t 24)]), none⟩, ⟨(some 26), (.call 56 [(.t 25)]), none⟩, ⟨(some 22), (.mv (.t 26)), none⟩, ⟨(some 27), (.ext (.t 22) 0), none⟩, ⟨(some 28), (.ext (.t 22) 1), none⟩, ⟨(some 5), (.mv (.t 27)), none⟩, ⟨(some 6), (.mv (.t 28)), none⟩]) (.seq (.reg [⟨(some 29), (.mv (.t 4)), none⟩, ⟨(some 30), (.eqI false true [(31, .i64)] (.t 29) (.c .nili)), none⟩, ⟨(some 31), (.mv (.t 30)), none⟩, ⟨(some 32), (.mv (.t 3)), (some (31, true))⟩, ⟨(some 33), (.len (.t 32)), (some (31, true))⟩, ⟨(some 34), (.bin .eql .i64 (.t 33) (.c (.int .i64 1))), (some (31, true))⟩, ⟨(some 35), (.pick (.t 31) (.t 34) (.c (.bool false))), none⟩, ⟨(some 36), (.mv (.t 35)), none⟩, ⟨(some 37), (.mv (.t 3)), (some (36, true))⟩, ⟨(some 38), (.iaddr 2 (.t 37) (.c (.int .i64 0))), (some (36, true))⟩, ⟨(some 39), (.faddr 1 (.t 38)), (some (36, true))⟩, ⟨(some 40), (.load none (.t 39)), (some (36, true))⟩, ⟨(some 41), (.len (.t 40)), (some (36, true))⟩, ⟨(some 42), (.bin .eql .i64 (.t 41) (.c (.int .i64 2))), (some (36, true))⟩, ⟨(some 43), (.pick (.t 36) (.t 42) (.c (.bool false))), none⟩, ⟨(some 44), (.mv (.t 43)), none⟩, ⟨(some 45), (.mv (.t 3)), (some (44, true))⟩, ⟨(some 46), (.iaddr 2 (.t 45) (.c (.int .i64 0))), (some (44, true))⟩, ⟨(some 47), (.faddr 1 (.t 46)), (some (44, true))⟩, ⟨(some 48), (.load none (.t 47)), (some (44, true))⟩, ⟨(some 49), (.iaddr 5 (.t 48) (.c (.int .i64 0))), (some (44, true))⟩, ⟨(some 50), (.faddr 1 (.t 49)), (some (44, true))⟩, ⟨(some 51), (.load none (.t 50)), (some (44, true))⟩, ⟨(some 52), (.bin .eql .u64 (.t 51) (.c (.int .u64 1))), (some (44, true))⟩, ⟨(some 53), (.pick (.t 44) (.t 52) (.c (.bool false))), none⟩, ⟨(some 54), (.mv (.t 53)), none⟩, ⟨(some 55), (.mv (.t 6)), (some (54, true))⟩, ⟨(some 56), (.mkI 31 (.c (.int .i64 1))), (some (54, true))⟩, ⟨(some 57), (.eqI false false [(31, .i64)] (.t 55) (.t 56)), (some (54, true))⟩, ⟨(some 58), (.pick (.t 54) (.t 57) (.c (.bool false))), none⟩, ⟨(some 0), (.mv (.t 58)), none⟩]) .ret))))))

set_option maxRecDepth 100000 in
theorem k_up10 : compileC Try.prog ann (Try.f54.body.getD .skip) = some c_up10 := by kernel_rfl

theorem s_up10 {args : List AV} {σ : St} {K : AV → St → Prop} (h : WF σ → T Try.prog ann c_up10 (Fin σ [(.t 0)] K) (args ++ List.replicate (59 - args.length) (.tup [])) σ) : ACalls Try.prog n_up10 args σ K :=
  calls_ok Try.func54 (by kernel_rfl) (by kernel_rfl) k_up10 (by kernel_rfl) (by kernel_rfl) h

end Go.VL
