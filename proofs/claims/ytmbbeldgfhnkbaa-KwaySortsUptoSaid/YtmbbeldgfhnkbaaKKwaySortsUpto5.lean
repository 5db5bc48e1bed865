/- Texts put together, of these what the theorem needs: Contracts: the heap of fronts of rows (kway), at Tc. MADE BY PROGRAM (gen_heap.py, out of heap.tmpl). Contracts: kway.Sorted, at Tc. MADE BY PROGRAM (gen_heap.py, out of ksort.tmpl). A range over maps.Values of a map of spans, gathered by slices.AppendSeq: the values come, each once, in a new row. Gathering and sorting a row of spans: from memories to values. Gathering and sorting a row of spans, told over values. slices.SortFunc at a row of spans, told over values. bytes.Compare, whose work the model does itself. What gathers and sorts spans at this seat: numbers and facts. MADE BY PROGRAM (mksp.py). slices.SortFunc and AppendSeq over maps.Values, at this seat's spans. The compiled code of functions of this seat. MADE BY PROGRAM (mkc.py). The compiled code of functions of this seat. MADE BY PROGRAM (mkc.py). Contracts: a store's small parts. Contracts: what is done with a store. -/
import Derived.Test.YtmbbeldgfhnkbaaKKwaySortsUpto4
import Derived.Test.YtmbbeldgfhnkbaaChecked

set_option linter.unusedSimpArgs false
set_option linter.unusedVariables false

namespace Go.VL

open Go.Proofs

abbrev keyT : Tc → Int := fun t => (t.id : Int)

abbrev fCT (e : En Tc) : List AV := [.int .u64 (e.x.id : Int), .sl (spsAV e.x.sp) .none, .int .i64 (e.row : Int)]

abbrev eCT (e : En Tc) : List AV := [.int .u64 (e.x.id : Int), .sl (spsAV e.x.sp) .none, .int .i64 (e.row : Int), .int .i64 (e.turn : Int)]

theorem eCT_len (e : En Tc) : (eCT e).length = 4 := rfl

def hslT : Option Nat → Nat → AV
  | none, _ => .sl [] .nil
  | some nm, n => .refr nm 4 n

/-- a heap, at h; its row, at G; what it compares with -/
structure HpT (σ : St) (h pl : Nat) (G : Option Nat) (l : List (En Tc)) (turn : Nat) : Prop where
  obj : σ.res h = some (.obj [.func n_klessT [] [.ptr pl 0], hslT G l.length, .int .i64 (turn : Int)])
  less : σ.res pl = some (.obj [.func n_kmerge1 [] []])
  no : G = none → l = []
  row : ∀ nm, G = some nm → (nm ≠ h ∧ nm ≠ pl) ∧ ∃ cs, σ.res nm = some (.obj cs) ∧ l.length * 4 ≤ cs.length ∧ cs.take (l.length * 4) = l.flatMap eCT
  ne : pl ≠ h

theorem HpT.named {σ : St} {h pl : Nat} {G : Option Nat} {l : List (En Tc)} {turn : Nat} (H : HpT σ h pl G l turn) {i : Nat} {a : En Tc} (ha : l[i]? = some a) : ∃ nm, G = some nm := by
  cases G with
  | none => rw [H.no rfl] at ha; simp at ha
  | some nm => exact ⟨nm, rfl⟩

theorem HpT.keep {σ t : St} {h pl : Nat} {G : Option Nat} {l : List (En Tc)} {turn : Nat} (H : HpT σ h pl G l turn) (hk : ∀ n r, σ.res n = some r → t.res n = some r) : HpT t h pl G l turn :=
  ⟨hk _ _ H.obj, hk _ _ H.less, H.no, fun nm e => by
    obtain ⟨h1, cs, h2, h3⟩ := H.row nm e
    exact ⟨h1, cs, hk _ _ h2, h3⟩, H.ne⟩

theorem xlessT_ok {a b : Tc} {σ : St} : ACalls Try.prog n_kmerge1 [.agg [.int .u64 (a.id : Int), .sl (spsAV a.sp) .none], .agg [.int .u64 (b.id : Int), .sl (spsAV b.sp) .none]] σ (fun v σ' => v = .bool (decide (keyT a < keyT b)) ∧ σ' = σ) := by
  refine s_kmerge1 (fun wf => ?_)
  unfold c_kmerge1
  refine T.seq_k (fun K_h1 h1 => ?_)
  refine T.regi hm ?_
  simp only [↓reduceIte, namesOf, List.any, I.names, aopsI, astep, ev, setd, List.set, List.getD, List.getElem?_cons_zero, List.getElem?_cons_succ, List.cons_append, List.nil_append, List.length_cons, List.length_nil, List.replicate, then_normal, Option.getD_some, Bool.or_false, Bool.or_true, Bool.false_eq_true, Nat.reduceAdd, Nat.reduceSub, AV.isAny, AV.cells, eq_self]
  obtain ⟨h0, h0', hq⟩ := box2 wf 3 (.obj [.int .u64 (a.id : Int), .sl (spsAV a.sp) .none]) (.obj [.int .u64 (b.id : Int), .sl (spsAV b.sp) .none])
  generalize (((σ.up 3).set (σ.next + 0) (.obj [.int .u64 (a.id : Int), .sl (spsAV a.sp) .none])).set (σ.next + 1) (.obj [.int .u64 (b.id : Int), .sl (spsAV b.sp) .none])) = σ1 at h0 h0' hq ⊢
  refine h1 _ _ ?_
  try clear h1 K_h1
  refine T.seq_k (fun K_h1 h1 => ?_)
  refine T.regi hm ?_
  simp only [↓reduceIte, namesOf, List.any, I.names, aopsI, astep, ev, setd, List.set, List.getD, List.getElem?_cons_zero, List.getElem?_cons_succ, then_normal, Option.getD_some, Bool.or_false, Bool.false_eq_true, up_zero, Nat.reduceAdd, binv, ↓opt_def, ldc, eq_self, h0, h0']
  refine h1 _ _ ?_
  try clear h1 K_h1
  exact T.ret (Fin.quiet rfl trivial hq ⟨rfl, rfl⟩)

theorem klessT_ok {a b : En Tc} {pl : Nat} {σ : St} (hp : σ.res pl = some (.obj [.func n_kmerge1 [] []])) : ACalls Try.prog n_klessT [.agg (fCT a), .agg (fCT b), .ptr pl 0] σ (fun v σ' => v = .bool (flessE keyT a b) ∧ σ' = σ) := by
  refine s_klessT (fun wf => ?_)
  unfold c_klessT
  refine T.seq_k (fun K_h1 h1 => ?_)
  refine T.regi hm ?_
  simp only [↓reduceIte, namesOf, List.any, I.names, aopsI, astep, ev, setd, List.set, List.getD, List.getElem?_cons_zero, List.getElem?_cons_succ, List.cons_append, List.nil_append, List.length_cons, List.length_nil, List.replicate, then_normal, Option.getD_some, Bool.or_false, Bool.or_true, Bool.false_eq_true, Nat.reduceAdd, Nat.reduceSub, AV.isAny, AV.cells, eq_self]
  obtain ⟨h0, h0', hq⟩ := box2 wf 3 (.obj (fCT a)) (.obj (fCT b))
  have hp' := hq _ _ hp
  generalize (((σ.up 3).set (σ.next + 0) (.obj (fCT a))).set (σ.next + 1) (.obj (fCT b))) = σ1 at h0 h0' hq hp' ⊢
  generalize σ.next + 0 = p at h0
  generalize σ.next + 1 = q at h0'
  refine h1 _ _ ?_
  try clear h1 K_h1
  refine T.seq_k (fun K_h1 h1 => ?_)
  refine T.regt hm (tbl := []) Tbl.ok_nil ?_
  refine aopsT_cut 6 (fun K_c h_c => ?_)
  try simp only [↓reduceIte, namesOf, List.any, I.names, aopsT, qstep, CPt, Tbl.get, astep, ev, setd, List.set, List.getD, List.getElem?_cons_zero, List.getElem?_cons_succ, List.cons_append, List.nil_append, List.length_cons, List.length_nil, Option.getD_some, Bool.or_false, Bool.false_eq_true, up_zero, Nat.reduceAdd, ↓opt_def, ldc, List.map_cons, List.map_nil, List.take_succ_cons, hp', h0, h0', Nat.zero_add, List.take, List.drop, Nat.reduceLeDiff]
  refine (xlessT_ok (a := a.x) (b := b.x)).mono ?_
  rintro _ _ ⟨rfl, rfl⟩
  refine h_c _ _ ?_
  clear h_c K_c
  simp only [List.drop_succ_cons, List.drop_zero, Nat.zero_add]
  cases e1 : decide (keyT a.x < keyT b.x) with
  | true =>
    try simp only [↓reduceIte, aopsT, qstep, astep, ev, setd, List.set, List.getD, List.getElem?_cons_zero, List.getElem?_cons_succ, then_normal, Option.getD_some, eq_self, reduceCtorEq]
    refine h1 _ _ ?_
    try clear h1 K_h1
    exact T.ret (Fin.quiet rfl trivial hq ⟨by show AV.bool _ = _; unfold flessE; rw [e1]; rfl, rfl⟩)
  | false =>
    refine aopsT_cut 7 (fun K_c h_c => ?_)
    try simp only [↓reduceIte, aopsT, qstep, CPt, Tbl.get, astep, ev, setd, List.set, List.getD, List.getElem?_cons_zero, List.getElem?_cons_succ, List.cons_append, List.nil_append, List.length_cons, List.length_nil, Option.getD_some, Nat.reduceAdd, ↓opt_def, ldc, List.map_cons, List.map_nil, eq_self, List.take_succ_cons, hp', h0, h0', Nat.zero_add, List.take, List.drop, Nat.reduceLeDiff]
    refine (xlessT_ok (a := b.x) (b := a.x)).mono ?_
    rintro _ _ ⟨rfl, rfl⟩
    refine h_c _ _ ?_
    clear h_c K_c
    simp only [List.drop_succ_cons, List.drop_zero, Nat.reduceAdd]
    cases e2 : decide (keyT b.x < keyT a.x) with
    | true =>
      try simp only [↓reduceIte, aopsT, qstep, astep, ev, setd, List.set, List.getD, List.getElem?_cons_zero, List.getElem?_cons_succ, then_normal, Option.getD_some, Bool.false_eq_true, Nat.reduceAdd, binv, ↓opt_def, ldc, eq_self]
      refine h1 _ _ ?_
      try clear h1 K_h1
      exact T.ret (Fin.quiet rfl trivial hq ⟨by show AV.bool _ = _; unfold flessE; rw [e1, e2]; rfl, rfl⟩)
    | false =>
      try simp only [↓reduceIte, aopsT, qstep, astep, ev, setd, List.set, List.getD, List.getElem?_cons_zero, List.getElem?_cons_succ, then_normal, Option.getD_some, Bool.false_eq_true, binv, ↓opt_def, ldc, eq_self, h0, h0', Bool.not_false, Nat.zero_add]
      refine h1 _ _ ?_
      try clear h1 K_h1
      exact T.ret (Fin.quiet rfl trivial hq ⟨by show AV.bool _ = _; unfold flessE; rw [e1, e2]; rfl, rfl⟩)

set_option maxRecDepth 10000 in
theorem haheadT_ok {h pl : Nat} {G : Option Nat} {l : List (En Tc)} {turn i k : Nat} {a b : En Tc} {σ : St} (H : HpT σ h pl G l turn) (ha : l[i]? = some a) (hb : l[k]? = some b) :
    ACalls Try.prog n_haheadT [.ptr h 0, .int .i64 (i : Int), .int .i64 (k : Int)] σ (fun v σ' => v = .bool (aheadE keyT a b) ∧ σ' = σ) := by
  refine s_haheadT (fun wf => ?_)
  unfold c_haheadT
  obtain ⟨nm, rfl⟩ := H.named ha
  obtain ⟨_, cs, hr, hl, hc⟩ := H.row nm rfl
  have hobj := H.obj
  have hless := H.less
  simp only [hslT] at hobj
  obtain ⟨la, ga⟩ := rowk_get eCT_len hc hl ha
  obtain ⟨lb, gb⟩ := rowk_get eCT_len hc hl hb
  have hil := (List.getElem?_eq_some_iff.1 ha).1
  have hkl := (List.getElem?_eq_some_iff.1 hb).1
  have hhn := wf.lt hobj
  have hnn := wf.lt hr
  refine T.seq_k (fun K_h0 h0 => ?_)
  refine T.regi hm ?_
  simp only [↓reduceIte, namesOf, List.any, I.names, aopsI, astep, ev, setd, List.set, List.cons_append, List.nil_append, List.length_cons, List.length_nil, List.replicate, then_normal, Bool.or_false, Bool.false_eq_true, up_zero, Nat.reduceAdd, Nat.reduceSub]
  refine h0 _ _ ?_
  try clear h0 K_h0
  refine T.seq_k (fun K_h1 h1 => ?_)
  refine T.regt hm (tbl := []) Tbl.ok_nil ?_
  refine aopsT_cut 16 (fun K_c h_c => ?_)
  try simp only [↓reduceIte, namesOf, List.any, I.names, aopsT, qstep, astep, ev, setd, List.set, List.getD, List.getElem?_cons_zero, List.getElem?_cons_succ, List.length_cons, List.length_nil, Option.getD_some, Bool.or_false, Bool.or_true, Nat.reduceAdd, ↓opt_def, ldc, Int.natCast_nonneg, lt_len, Int.toNat_natCast, and_true, eq_self, List.take_succ_cons, List.take_zero, hobj, hr, la, ga, lb, gb, hil, hkl, hhn, hnn, Nat.add_lt_add_iff_right, St.up_res, Nat.zero_add]
  refine h_c _ _ ?_
  clear h_c K_c
  simp only [List.drop_succ_cons, List.drop_zero, Nat.zero_add]
  have hq : ∀ n x, σ.res n = some x → (((σ.up 18).set (σ.next + 14) (.obj [.int .u64 0, .sl [] .nil, .int .i64 0, .int .i64 0])).set (σ.next + 15) (.obj [.int .u64 0, .sl [] .nil, .int .i64 0, .int .i64 0])).res n = some x := set2_quiet wf _ _ (by omega) (by omega)
  have hz1 : (((σ.up 18).set (σ.next + 14) (.obj [.int .u64 0, .sl [] .nil, .int .i64 0, .int .i64 0])).set (σ.next + 15) (.obj [.int .u64 0, .sl [] .nil, .int .i64 0, .int .i64 0])).res (σ.next + 14) = some (.obj [.int .u64 0, .sl [] .nil, .int .i64 0, .int .i64 0]) := by rw [St.set_other _ _ (by omega)]; simp
  have hz2 : (((σ.up 18).set (σ.next + 14) (.obj [.int .u64 0, .sl [] .nil, .int .i64 0, .int .i64 0])).set (σ.next + 15) (.obj [.int .u64 0, .sl [] .nil, .int .i64 0, .int .i64 0])).res (σ.next + 15) = some (.obj [.int .u64 0, .sl [] .nil, .int .i64 0, .int .i64 0]) := by simp
  have hlo : σ.next ≤ σ.next + 14 := by omega
  have hlo2 : σ.next ≤ σ.next + 15 := by omega
  have hpq : σ.next + 15 ≠ σ.next + 14 := by omega
  generalize (((σ.up 18).set (σ.next + 14) (.obj [.int .u64 0, .sl [] .nil, .int .i64 0, .int .i64 0])).set (σ.next + 15) (.obj [.int .u64 0, .sl [] .nil, .int .i64 0, .int .i64 0])) = s at hq hz1 hz2 ⊢
  generalize σ.next + 14 = p at hz1 hlo hpq ⊢
  generalize σ.next + 15 = q at hz2 hlo2 hpq ⊢
  have hz3 : (s.set p (.obj (eCT a))).res q = some (.obj [.int .u64 0, .sl [] .nil, .int .i64 0, .int .i64 0]) := by rw [St.set_other _ _ hpq]; exact hz2
  have hq2 : ∀ n x, σ.res n = some x → ((s.set p (.obj (eCT a))).set q (.obj (eCT b))).res n = some x := fun n x hx => by
    have hn := wf.lt hx
    rw [St.set_other _ _ (by omega), St.set_other _ _ (by omega)]; exact hq n x hx
  have ha2 : ((s.set p (.obj (eCT a))).set q (.obj (eCT b))).res p = some (.obj (eCT a)) := by rw [St.set_other _ _ (Ne.symm hpq)]; simp
  have hb2 : ((s.set p (.obj (eCT a))).set q (.obj (eCT b))).res q = some (.obj (eCT b)) := by simp
  try simp only [↓reduceIte, aopsT, qstep, astep, ev, setd, List.getD, List.getElem?_cons_zero, List.getElem?_cons_succ, List.cons_append, List.nil_append, List.length_cons, List.length_nil, then_normal, Option.getD_some, Nat.reduceAdd, AV.isAny, AV.cells, eq_self, decide_true, hz1, hz3, Nat.add_le_add_iff_right, hlo, hlo2, AV.fits, AV.one, List.all_cons, List.all_nil, Nat.reduceBEq, Bool.not_false, Bool.and_self, Nat.zero_add, splice, List.take, List.drop, Nat.reduceLeDiff]
  generalize ((s.set p (.obj (eCT a))).set q (.obj (eCT b))) = τ at hq2 ha2 hb2 ⊢
  have ho := hq2 _ _ hobj
  have hll := hq2 _ _ hless
  clear hz1 hz2 hz3 hq hr
  refine h1 _ _ ?_
  try clear h1 K_h1
  refine T.seq_k (fun K_h1 h1 => ?_)
  refine T.regt hm (tbl := []) Tbl.ok_nil ?_
  refine aopsT_cut 9 (fun K_c h_c => ?_)
  try simp only [↓reduceIte, namesOf, List.any, I.names, aopsT, qstep, qget, Tbl.get, astep, ev, setd, List.set, List.getD, List.getElem?_cons_zero, List.getElem?_cons_succ, List.cons_append, List.nil_append, List.length_cons, List.length_nil, Option.getD_some, Bool.or_false, Bool.false_eq_true, up_zero, Nat.reduceAdd, ↓opt_def, ldc, List.map_cons, List.map_nil, List.take_succ_cons, ho, ha2, hb2, Nat.zero_add, List.take, List.drop, Nat.reduceLeDiff]
  refine ⟨_, klessT_ok (a := a) (b := b) hll, ?_⟩
  refine h_c _ _ ?_
  clear h_c K_c
  simp only [List.drop_succ_cons, List.drop_zero, Nat.zero_add]
  have hah := ahead_fless (key := keyT) a b
  cases e1 : flessE keyT a b with
  | true =>
    rw [e1] at hah
    try simp only [↓reduceIte, aopsT, qstep, astep, ev, setd, List.set, List.getD, List.getElem?_cons_zero, List.getElem?_cons_succ, then_normal, Option.getD_some, eq_self, reduceCtorEq]
    refine h1 _ _ ?_
    try clear h1 K_h1
    exact T.ret (Fin.quiet rfl trivial hq2 ⟨by rw [hah]; rfl, rfl⟩)
  | false =>
    rw [e1] at hah
    refine aopsT_cut 10 (fun K_c h_c => ?_)
    try simp only [↓reduceIte, aopsT, qstep, qget, Tbl.get, astep, ev, setd, List.set, List.getD, List.getElem?_cons_zero, List.getElem?_cons_succ, List.cons_append, List.nil_append, List.length_cons, List.length_nil, Option.getD_some, Nat.reduceAdd, ↓opt_def, ldc, List.map_cons, List.map_nil, eq_self, List.take_succ_cons, ho, ha2, hb2, Nat.zero_add, List.take, List.drop, Nat.reduceLeDiff]
    refine ⟨_, klessT_ok (a := b) (b := a) hll, ?_⟩
    refine h_c _ _ ?_
    clear h_c K_c
    simp only [List.drop_succ_cons, List.drop_zero, Nat.reduceAdd]
    cases e2 : flessE keyT b a with
    | true =>
      rw [e2] at hah
      try simp only [↓reduceIte, aopsT, qstep, astep, ev, setd, List.set, List.getD, List.getElem?_cons_zero, List.getElem?_cons_succ, then_normal, Option.getD_some, Bool.false_eq_true, Nat.reduceAdd, binv, ↓opt_def, ldc, eq_self]
      refine h1 _ _ ?_
      try clear h1 K_h1
      exact T.ret (Fin.quiet rfl trivial hq2 ⟨by rw [hah]; rfl, rfl⟩)
    | false =>
      rw [e2] at hah
      try simp only [↓reduceIte, aopsT, qstep, astep, ev, setd, List.set, List.getD, List.getElem?_cons_zero, List.getElem?_cons_succ, then_normal, Option.getD_some, Bool.false_eq_true, binv, ↓opt_def, ldc, eq_self, ha2, hb2, Bool.not_false, Nat.zero_add]
      refine h1 _ _ ?_
      try clear h1 K_h1
      exact T.ret (Fin.quiet rfl trivial hq2 ⟨by rw [hah]; rfl, rfl⟩)

/-- what a heap's doings leave as it was -/
structure HFrT (σ σ' : St) (h : Nat) (G : Option Nat) : Prop where
  next : σ.next ≤ σ'.next
  old : ∀ n, n < σ.next → n ≠ h → (∀ g, G = some g → n ≠ g) → σ'.res n = σ.res n

theorem HFrT.refl {σ : St} {h : Nat} {G : Option Nat} : HFrT σ σ h G := ⟨Nat.le_refl _, fun _ _ _ _ => rfl⟩

theorem HFrT.trans {a b c : St} {h : Nat} {G G' : Option Nat} (x : HFrT a b h G) (y : HFrT b c h G') (hG : ∀ g, G' = some g → G = some g ∨ a.next ≤ g) : HFrT a c h G :=
  ⟨Nat.le_trans x.next y.next, fun n h1 h2 h3 => (y.old n (Nat.lt_of_lt_of_le h1 x.next) h2 (fun g e => by
    rcases hG g e with h | h
    · exact h3 g h
    · omega)).trans (x.old n h1 h2 h3)⟩

set_option maxRecDepth 10000 in
theorem hswapT_ok {h pl : Nat} {G : Option Nat} {l : List (En Tc)} {turn i k : Nat} {a b : En Tc} {σ : St} (H : HpT σ h pl G l turn) (ha : l[i]? = some a) (hb : l[k]? = some b) :
    ACalls Try.prog n_hswapT [.ptr h 0, .int .i64 (i : Int), .int .i64 (k : Int)] σ (fun v σ' => v = .tup [] ∧ HpT σ' h pl G (sw l i k a b) turn ∧ HFrT σ σ' h G ∧ σ'.next = σ.next) := by
  refine s_hswapT (fun wf => ?_)
  unfold c_hswapT
  obtain ⟨nm, rfl⟩ := H.named ha
  obtain ⟨hne, cs, hr, hl, hc⟩ := H.row nm rfl
  have hobj := H.obj
  simp only [hslT] at hobj
  obtain ⟨la, ga⟩ := rowk_get eCT_len hc hl ha
  obtain ⟨lb, gb⟩ := rowk_get eCT_len hc hl hb
  have hil := (List.getElem?_eq_some_iff.1 ha).1
  have hkl := (List.getElem?_eq_some_iff.1 hb).1
  obtain ⟨s1, t1⟩ := rowk_set eCT_len hc hl hil b
  have hl1 : (l.set i b).length * 4 ≤ (splice cs (i * 4) (eCT b)).length := by rw [s1, List.length_set]; exact hl
  have hc1 : (splice cs (i * 4) (eCT b)).take ((l.set i b).length * 4) = (l.set i b).flatMap eCT := by rw [List.length_set]; exact t1
  obtain ⟨s2, t2⟩ := rowk_set eCT_len hc1 hl1 (i := k) (by rw [List.length_set]; exact hkl) a
  have la1 : i * 4 + 4 ≤ cs.length := la
  have lb1 : k * 4 + 4 ≤ (splice cs (i * 4) (eCT b)).length := by rw [s1]; exact lb
  generalize hcs1 : splice cs (i * 4) (eCT b) = cs1 at s1 t1 hl1 hc1 s2 t2 lb1
  generalize hcs2 : splice cs1 (k * 4) (eCT a) = cs2 at s2 t2
  have hfa : (AV.agg (eCT a)).fits 4 = true := rfl
  have hfb : (AV.agg (eCT b)).fits 4 = true := rfl
  refine T.regi hm ?_
  simp only [↓reduceIte, namesOf, List.any, I.names, aopsI, astep, ev, setd, List.set, List.getD, List.getElem?_cons_zero, List.getElem?_cons_succ, List.cons_append, List.nil_append, List.length_cons, List.length_nil, List.replicate, Option.getD_some, Bool.or_false, Bool.false_eq_true, up_zero, Nat.reduceAdd, Nat.reduceSub, ↓opt_def, AV.cells, ldc, St.set_same, Int.natCast_nonneg, lt_len, Int.toNat_natCast, and_true, eq_self, decide_true, hobj, hr, la, ga, lb, gb, hil, hkl, hcs1, hcs2, hfa, hfb, lb1, Nat.zero_add, St.set_set, Bool.and_self, decide_true]
  refine Fin.retn rfl ⟨rfl, ⟨?_, ?_, fun e => (by cases e), fun nm' e => ?_, H.ne⟩, ⟨Nat.le_refl _, fun n h1 h2 h3 => St.set_other _ _ (h3 nm rfl)⟩, rfl⟩
  · rw [St.set_other _ _ (Ne.symm hne.1), sw_len]; exact H.obj
  · rw [St.set_other _ _ (Ne.symm hne.2)]; exact H.less
  · cases e
    refine ⟨hne, cs2, St.set_same _ _ _, ?_, ?_⟩
    · rw [sw_len, s2, s1]; exact hl
    · rw [sw_len]; rw [List.length_set] at t2; exact t2

set_option maxRecDepth 10000 in
/-- one more -/
theorem hpushT_ok {h pl : Nat} {G : Option Nat} {l : List (En Tc)} {turn : Nat} {e : En Tc} {σ : St} (H : HpT σ h pl G l turn) (hh : HeapL keyT l) (ht : e.turn = turn + 1) (htu : turn < 9223372036854775807) (hlen : l.length ≤ 1000000) :
    ACalls Try.prog n_hpushT [.ptr h 0, .agg (fCT e)] σ (fun v σ' => v = .tup [] ∧ ∃ G' l', HpT σ' h pl G' l' (turn + 1) ∧ l'.Perm (l ++ [e]) ∧ HeapL keyT l' ∧ HFrT σ σ' h G ∧ ∀ g, G' = some g → σ.next ≤ g ∧ g < σ'.next) := by
  refine s_hpushT (fun wf => ?_)
  unfold c_hpushT
  have hobj := H.obj
  have hless := H.less
  have hhn := wf.lt hobj
  have hpn := wf.lt hless
  refine T.seq_k (fun K_h1 h1 => ?_)
  refine T.regi hm ?_
  simp only [↓reduceIte, namesOf, List.any, I.names, aopsI, astep, ev, setd, List.set, List.getD, List.getElem?_cons_zero, List.getElem?_cons_succ, List.cons_append, List.nil_append, List.length_cons, List.length_nil, List.replicate, then_normal, Option.getD_some, Bool.or_false, Bool.false_eq_true, Nat.reduceAdd, Nat.reduceSub, AV.isAny, AV.cells, eq_self]
  have hob1 : ((σ.up 1).set (σ.next + 0) (.obj (fCT e))).res h = _ := (St.set_other _ _ (by omega)).trans hobj
  have hbx : ((σ.up 1).set (σ.next + 0) (.obj (fCT e))).res (σ.next + 0) = some (.obj (fCT e)) := by simp
  have hLk : Like σ ((σ.up 1).set (σ.next + 0) (.obj (fCT e))) := (Like.refl σ).box (n := 1) (i := 0) _
  have hbn : σ.next + 0 < ((σ.up 1).set (σ.next + 0) (.obj (fCT e))).next := by simp
  have hbl : σ.next ≤ σ.next + 0 := by omega
  generalize ((σ.up 1).set (σ.next + 0) (.obj (fCT e))) = σ1 at hob1 hbx hLk hbn ⊢
  generalize σ.next + 0 = b at hbx hbn hbl ⊢
  refine h1 _ _ ?_
  try clear h1 K_h1
  refine T.seq_k (fun K_h1 h1 => ?_)
  have hw : IntKind.i64.wrap ((turn : Int) + 1) = ((turn + 1 : Nat) : Int) := inc64 htu (by omega)
  refine T.regi hm ?_
  simp only [↓reduceIte, namesOf, List.any, I.names, aopsI, astep, ev, setd, List.set, List.getD, List.getElem?_cons_zero, List.getElem?_cons_succ, List.cons_append, List.nil_append, List.length_cons, List.length_nil, then_normal, Option.getD_some, Bool.or_false, Bool.false_eq_true, up_zero, Nat.reduceAdd, binv, ↓opt_def, AV.isAny, AV.cells, ldc, eq_self, decide_true, hob1, hw, AV.fits, AV.one, List.all_cons, List.all_nil, Nat.reduceBEq, Bool.not_false, Bool.and_self, Nat.zero_add, splice, List.take, List.drop, Nat.reduceLeDiff]
  refine h1 _ _ ?_
  try clear h1 K_h1
  refine T.seq_k (fun K_h1 h1 => ?_)
  -- behind the append: it rises
  have key : ∀ (ρ : List AV) (τ : St) (nm : Nat), HpT τ h pl (some nm) (l ++ [e]) (turn + 1) → HFrT σ τ h G → σ.next ≤ nm → nm < τ.next → keep [0] 0 ρ = [.ptr h 0] ++ List.replicate 51 .any → K_h1 ρ τ := by
    clear hob1 hbx hLk hbn hbl
    intro ρ τ nm H1 hfr hn1 hn2 hk
    refine h1 _ _ ?_
    clear h1 K_h1
    refine T.gh (Gh.keep [0]) ?_
    rw [hk]
    have ho1 := H1.obj
    simp only [hslT] at ho1
    have hl1 : (l ++ [e]).length = l.length + 1 := by simp
    rw [hl1] at ho1
    have hw1 : IntKind.i64.wrap (((l.length + 1 : Nat) : Int) - 1) = (l.length : Int) := by rw [wrap64 (by omega) (by omega)]; omega
    refine T.seq_k (fun K_h0 h0 => ?_)
    refine T.regi hm ?_
    simp only [↓reduceIte, namesOf, List.any, I.names, aopsI, astep, ev, setd, List.set, List.getD, List.getElem?_cons_zero, List.getElem?_cons_succ, List.cons_append, List.nil_append, List.replicate, then_normal, Option.getD_some, Bool.or_false, Bool.false_eq_true, up_zero, Nat.reduceAdd, binv, ↓opt_def, ldc, eq_self, ho1, hw1]
    refine h0 _ _ ?_
    try clear h0 K_h0
    refine T.block ?_
    refine T.gh (Gh.keep [0, 4]) ?_
    refine T.loop (fun ρ t => ∃ (i : Nat) (l' : List (En Tc)), HpT t h pl (some nm) l' (turn + 1) ∧ l'.Perm (l ++ [e]) ∧ Rise keyT i l' ∧ i < l'.length ∧ HFrT σ t h G ∧ nm < t.next ∧ ρ = [.ptr h 0, .any, .any, .any, .int .i64 (i : Int)] ++ List.replicate 47 .any)
      (fun ρ _ => match ρ.getD 4 .any with | .int _ n => n.toNat | _ => 0) ⟨l.length, l ++ [e], H1, .refl _, Rise.start hh e, by simp, hfr, hn2, rfl⟩ ?_
    clear ho1 hw1 H1 hfr
    rintro ρ t ⟨i, l', H1, hp, hr, hil, hfr, hn2, rfl⟩
    have hl'l : l'.length = l.length + 1 := by rw [hp.length_eq]; simp
    refine T.seq_k (fun K_h1 h1 => ?_)
    refine T.seq_k (fun K_h2 h2 => ?_)
    rcases Nat.eq_zero_or_pos i with rfl | hi
    · have e0 : decide (((0 : Nat) : Int) > 0) = false := rfl
      refine T.regi hm ?_
      simp only [↓reduceIte, namesOf, List.any, I.names, aopsI, astep, ev, setd, List.set, List.getD, List.getElem?_cons_zero, List.getElem?_cons_succ, List.cons_append, List.nil_append, List.replicate, then_normal, Option.getD_some, Bool.or_false, Bool.false_eq_true, up_zero, binv, ↓opt_def, Int.toNat_natCast, eq_self, e0]
      refine h2 _ _ ?_
      try clear h2 K_h2
      refine T.cond rfl (fun h => by cases h) (fun _ => T.exit ?_)
      try simp only [List.getD, List.getElem?_cons_zero, List.getElem?_cons_succ, List.cons_append, List.nil_append, List.replicate, Option.getD_some, Int.toNat_natCast, inBlock_exit, then_exit]
      exact Fin.retn rfl ⟨rfl, _, l', H1, hp, hr.done (fun h => absurd h (by omega)), hfr, fun g e => by cases e; exact ⟨hn1, hn2⟩⟩
    · have e0 : decide ((i : Int) > 0) = true := decide_eq_true (by omega)
      have e1 : IntKind.i64.wrap ((i : Int) - 1) = ((i - 1 : Nat) : Int) := by rw [wrap64 (by omega) (by omega)]; omega
      have e2 : IntKind.i64.wrap (((i - 1 : Nat) : Int).tdiv 2) = (((i - 1) / 2 : Nat) : Int) := by
        have h1 : Int.tdiv ((i - 1 : Nat) : Int) 2 = (((i - 1) / 2 : Nat) : Int) := (Int.ofNat_tdiv (i - 1) 2).symm
        rw [h1, wrap64 (by omega) (by omega)]
      have e3 : ¬ ((2 : Int) = 0) := by omega
      have ha : l'[i]? = some l'[i] := by simp [hil]
      have hb : l'[(i - 1) / 2]? = some (l'[(i - 1) / 2]'(by omega)) := by simp
      generalize l'[i] = a at ha
      generalize l'[(i - 1) / 2]'(by omega) = b at hb
      refine T.regt hm (tbl := []) Tbl.ok_nil ?_
      refine aopsT_cut 9 (fun K_c h_c => ?_)
      try simp only [↓reduceIte, namesOf, List.any, I.names, aopsT, qstep, CPt, Tbl.get, astep, ev, setd, List.set, List.getD, List.getElem?_cons_zero, List.getElem?_cons_succ, List.cons_append, List.nil_append, List.replicate, Option.getD_some, Bool.or_false, Bool.false_eq_true, up_zero, binv, ↓opt_def, List.map_cons, List.map_nil, eq_self, List.take_succ_cons, List.take_zero, e0, e1, e2, e3]
      refine (haheadT_ok H1 ha hb).mono ?_
      rintro _ _ ⟨rfl, rfl⟩
      refine h_c _ _ ?_
      clear h_c K_c
      simp only [List.drop_succ_cons, List.drop_zero, Nat.zero_add]
      cases hab : aheadE keyT a b with
      | false =>
        try simp only [↓reduceIte, aopsT, qstep, astep, ev, setd, List.set, List.getD, List.getElem?_cons_zero, List.getElem?_cons_succ, List.cons_append, List.nil_append, List.replicate, then_normal, Option.getD_some, Int.toNat_natCast, eq_self]
        refine h2 _ _ ?_
        try clear h2 K_h2
        refine T.cond rfl (fun h => by cases h) (fun _ => T.exit ?_)
        try simp only [List.getD, List.getElem?_cons_zero, List.getElem?_cons_succ, List.cons_append, List.nil_append, List.replicate, Option.getD_some, Int.toNat_natCast, inBlock_exit, then_exit]
        refine Fin.retn rfl ⟨rfl, _, l', H1, hp, hr.done (fun _ a' b' ha' hb' => ?_), hfr, fun g e => by cases e; exact ⟨hn1, hn2⟩⟩
        rw [ha] at ha'; rw [hb] at hb'; cases ha'; cases hb'; exact hab
      | true =>
        try simp only [↓reduceIte, aopsT, qstep, astep, ev, setd, List.set, List.getD, List.getElem?_cons_zero, List.getElem?_cons_succ, List.cons_append, List.nil_append, List.replicate, then_normal, Option.getD_some, Int.toNat_natCast, eq_self]
        refine h2 _ _ ?_
        try clear h2 K_h2
        refine T.cond rfl (fun _ => T.skip ?_) (fun h => by cases h)
        refine h1 _ _ ?_
        try clear h1 K_h1
        refine T.seq_k (fun K_h1 h1 => ?_)
        refine T.block ?_
        refine T.regi hm ?_
        simp only [↓reduceIte, namesOf, List.any, I.names, aopsI, astep, ev, setd, List.set, List.getD, List.getElem?_cons_zero, List.getElem?_cons_succ, List.cons_append, List.nil_append, List.replicate, then_normal, inBlock_normal, Option.getD_some, Bool.or_false, Bool.false_eq_true, up_zero, binv, ↓opt_def, List.map_cons, List.map_nil, Int.toNat_natCast, eq_self, e1, e2, e3]
        refine (hswapT_ok H1 ha hb).mono ?_
        rintro v τ2 ⟨rfl, H2, hf2, hnx⟩
        try simp only [↓reduceIte, namesOf, List.any, I.names, aops, aopsI, aopsT, qstep, CPt, qget, Tbl.get, astep, ev, setd, List.set, List.getD, List.getElem?_cons_zero, List.getElem?_cons_succ, List.getElem?_nil, List.cons_append, List.nil_append, List.length_cons, List.length_nil, List.replicate, then_normal, inBlock_normal, Option.getD_some, Option.getD_none, Bool.or_false, Bool.or_true, Bool.true_or, Bool.false_or, Bool.false_eq_true, if_false, if_true, up_zero, Nat.reduceAdd, Nat.reduceSub, binv, ↓opt_def, AV.isAny, AV.cells, ldc, List.map_cons, List.map_nil, St.set_next, St.set_same, St.up_next, Int.natCast_nonneg, lt_len, le_len, Int.toNat_natCast, true_and, and_true, eq_self, reduceCtorEq, decide_true, List.length_singleton, er_int, er_bool, er_str, srcR, up_zero]
        refine h1 _ _ ?_
        try clear h1 K_h1
        refine T.regi hm ?_
        simp only [↓reduceIte, namesOf, List.any, I.names, aopsI, astep, ev, setd, List.set, List.getD, List.getElem?_cons_zero, List.getElem?_cons_succ, List.cons_append, List.nil_append, List.replicate, then_normal, Option.getD_some, Bool.or_false, Bool.false_eq_true, up_zero, binv, ↓opt_def, Int.toNat_natCast, eq_self, e1, e2, e3]
        refine ⟨_, _, Gh.keep [0, 4], ⟨(i - 1) / 2, sw l' i ((i - 1) / 2) a b, H2, (sw_perm ha hb).trans hp, hr.step hi ha hb hab, by rw [sw_len]; omega, hfr.trans hf2 (fun g e => by cases e; exact .inr hn1), by rw [hnx]; exact hn2, rfl⟩, ?_⟩
        simp only [keep, List.getElem?_cons_succ, List.getElem?_cons_zero, Option.getD_some]
        show (i - 1) / 2 < i
        omega
  have ht0 : (σ1.set h (.obj [.func n_klessT [] [.ptr pl 0], hslT G l.length, .int .i64 ((turn + 1 : Nat) : Int)])).res h = some (.obj [.func n_klessT [] [.ptr pl 0], hslT G l.length, .int .i64 ((turn + 1 : Nat) : Int)]) := St.set_same _ _ _
  have hbx0 : (σ1.set h (.obj [.func n_klessT [] [.ptr pl 0], hslT G l.length, .int .i64 ((turn + 1 : Nat) : Int)])).res b = some (.obj (fCT e)) := by rw [St.set_other _ _ (by omega)]; exact hbx
  have hk0 : ∀ n, n < σ.next → n ≠ h → (σ1.set h (.obj [.func n_klessT [] [.ptr pl 0], hslT G l.length, .int .i64 ((turn + 1 : Nat) : Int)])).res n = σ.res n := fun n h1 h2 => by rw [St.set_other _ _ h2]; exact hLk.same n h1
  have hn0 : σ.next ≤ (σ1.set h (.obj [.func n_klessT [] [.ptr pl 0], hslT G l.length, .int .i64 ((turn + 1 : Nat) : Int)])).next := hLk.next
  generalize (σ1.set h (.obj [.func n_klessT [] [.ptr pl 0], hslT G l.length, .int .i64 ((turn + 1 : Nat) : Int)])) = τ at ht0 hbx0 hk0 hn0 ⊢
  clear hob1 hbx hLk hbn
  have hbu : ∀ k, (τ.up k).res b = some (.obj (fCT e)) := fun _ => hbx0
  have hhu : ∀ k, (τ.up k).res h = some (.obj [.func n_klessT [] [.ptr pl 0], hslT G l.length, .int .i64 ((turn + 1 : Nat) : Int)]) := fun _ => ht0
  cases G with
  | none =>
    have hl0 := H.no rfl
    subst hl0
    simp only [hslT] at hhu
    refine T.regt hm (tbl := []) Tbl.ok_nil ?_
    refine aopsT_cut 13 (fun K_c h_c => ?_)
    try simp only [↓reduceIte, namesOf, List.any, I.names, aopsT, qstep, astep, ev, setd, List.set, List.getD, List.getElem?_cons_zero, List.getElem?_cons_succ, List.cons_append, List.nil_append, List.length_cons, List.length_nil, Option.getD_some, Bool.or_false, Bool.or_true, Bool.false_eq_true, Nat.reduceAdd, ↓opt_def, AV.isAny, AV.cells, ldc, List.map_cons, List.map_nil, eq_self, srcR, List.take_succ_cons, hbu, hhu, fillA, ↓Option.map_some, held, srcOf, AV.er, AV.er1, Ver.noRoom, AV.fits, AV.one, List.all_cons, List.all_nil, Nat.reduceBEq, Bool.not_false, Bool.and_self, Nat.zero_add, splice, List.take, List.drop, Nat.reduceLeDiff, Nat.one_mul, Nat.zero_add, and_self, List.isEmpty, List.flatMap_cons, List.flatMap_nil, List.append_nil]
    refine h_c _ _ ?_
    clear h_c K_c
    simp only [List.drop_succ_cons, List.drop_zero, Nat.zero_add]
    have hh2 : ((τ.up 16).set (τ.next + 12) (.obj [.int .u64 (e.x.id : Int), .sl (spsAV e.x.sp) .none, .int .i64 (e.row : Int), .int .i64 ((turn + 1 : Nat) : Int)])).res h = some (.obj [.func n_klessT [] [.ptr pl 0], .sl [] .nil, .int .i64 ((turn + 1 : Nat) : Int)]) := by rw [St.set_other _ _ (by omega)]; exact hhu 16
    try simp only [↓reduceIte, aopsT, qstep, astep, ev, setd, List.set, List.getD, List.getElem?_cons_zero, List.getElem?_cons_succ, List.cons_append, List.nil_append, List.length_cons, List.length_nil, then_normal, Option.getD_some, Nat.reduceAdd, AV.isAny, AV.cells, eq_self, decide_true, hh2, AV.fits, AV.one, List.all_cons, List.all_nil, Nat.reduceBEq, Bool.not_false, Bool.and_self, Nat.zero_add, splice, List.take, List.drop, Nat.reduceLeDiff]
    refine key _ _ (τ.next + 12) ⟨St.set_same _ _ _, ?_, fun e => (by cases e), fun nm' e' => ?_, H.ne⟩ ⟨by simp; omega, fun n h1 h2 _ => ?_⟩ (by omega) (by simp) rfl
    · rw [St.set_other _ _ H.ne, St.set_other _ _ (by omega)]; exact (hk0 pl hpn H.ne).trans hless
    · cases e'
      refine ⟨⟨by omega, by omega⟩, [.int .u64 (e.x.id : Int), .sl (spsAV e.x.sp) .none, .int .i64 (e.row : Int), .int .i64 ((turn + 1 : Nat) : Int)], ?_, by simp, ?_⟩
      · rw [St.set_other _ _ (by omega)]; simp
      · rw [← ht]; rfl
    · rw [St.set_other _ _ h2, St.set_other _ _ (by omega)]; exact hk0 n h1 h2
  | some nm =>
    obtain ⟨⟨hne1, hne2⟩, cs, hr, hl, hc⟩ := H.row nm rfl
    have hnn := wf.lt hr
    have hru : ∀ k, (τ.up k).res nm = some (.obj cs) := fun _ => (hk0 nm hnn hne1).trans hr
    simp only [hslT] at hhu
    have hb1 : (l.length + 1) * 48 ≤ 70368744177664 := by omega
    have hb2 : l.length + 1 ≤ 4611686018427387904 := by omega
    refine T.regt hm (tbl := []) Tbl.ok_nil ?_
    refine aopsT_cut 13 (fun K_c h_c => ?_)
    try simp only [↓reduceIte, namesOf, List.any, I.names, aopsT, qstep, astep, ev, setd, List.set, List.getD, List.getElem?_cons_zero, List.getElem?_cons_succ, List.cons_append, List.nil_append, List.length_cons, List.length_nil, Option.getD_some, Bool.or_false, Bool.or_true, Nat.reduceAdd, ↓opt_def, AV.isAny, AV.cells, ldc, List.map_cons, List.map_nil, eq_self, srcR, List.take_succ_cons, hbu, hhu, hru, hl, hb1, hb2, fillA, ↓Option.map_some, held, srcOf, AV.er, AV.er1, AV.fits, AV.one, List.all_cons, List.all_nil, Nat.reduceBEq, Bool.not_false, Bool.and_self, Nat.zero_add, splice, List.take, List.drop, Nat.reduceLeDiff, Nat.zero_add, and_self, List.flatMap_cons, List.flatMap_nil, List.append_nil]
    refine h_c _ _ ?_
    clear h_c K_c
    simp only [List.drop_succ_cons, List.drop_zero, Nat.zero_add]
    have hh2 : (((τ.up 16).del nm).set (τ.next + 12) (.obj (cs.take (l.length * 4) ++ [.int .u64 (e.x.id : Int), .sl (spsAV e.x.sp) .none, .int .i64 (e.row : Int), .int .i64 ((turn + 1 : Nat) : Int)]))).res h = some (.obj [.func n_klessT [] [.ptr pl 0], .refr nm 4 l.length, .int .i64 ((turn + 1 : Nat) : Int)]) := by
      rw [St.set_other _ _ (by omega)]
      simp only [St.del, if_neg (Ne.symm hne1)]; exact hhu 16
    try simp only [↓reduceIte, aopsT, qstep, astep, ev, setd, List.set, List.getD, List.getElem?_cons_zero, List.getElem?_cons_succ, List.cons_append, List.nil_append, List.length_cons, List.length_nil, then_normal, Option.getD_some, Nat.reduceAdd, AV.isAny, AV.cells, eq_self, decide_true, hh2, AV.fits, AV.one, List.all_cons, List.all_nil, Nat.reduceBEq, Bool.not_false, Bool.and_self, Nat.zero_add, splice, List.take, List.drop, Nat.reduceLeDiff]
    refine key _ _ (τ.next + 12) ⟨?_, ?_, fun e => (by cases e), fun nm' e' => ?_, H.ne⟩ ⟨by simp; omega, fun n h1 h2 h3 => ?_⟩ (by omega) (by simp) rfl
    · rw [St.set_same]; simp [hslT]
    · rw [St.set_other _ _ H.ne, St.set_other _ _ (by omega)]
      simp only [St.del, if_neg (Ne.symm hne2)]; exact (hk0 pl hpn H.ne).trans hless
    · cases e'
      refine ⟨⟨by omega, by omega⟩, cs.take (l.length * 4) ++ [.int .u64 (e.x.id : Int), .sl (spsAV e.x.sp) .none, .int .i64 (e.row : Int), .int .i64 ((turn + 1 : Nat) : Int)], ?_, ?_, ?_⟩
      · rw [St.set_other _ _ (by omega)]; simp
      · simp only [List.length_append, List.length_take, List.length_cons, List.length_nil]; omega
      · rw [List.take_of_length_le (by simp only [List.length_append, List.length_take, List.length_cons, List.length_nil]; omega), hc, List.flatMap_append, ← ht]; rfl
    · rw [St.set_other _ _ h2, St.set_other _ _ (by omega)]
      simp only [St.del, if_neg (h3 nm rfl)]; exact hk0 n h1 h2

theorem nb_fT (m : Nat) (e : En Tc) : (AV.agg (fCT e)).nb m := ⟨trivial, ⟨nbs_sps _ _, trivial⟩, trivial, trivial⟩

/-- what Peek and Pop tell -/
def topT : List (En Tc) → AV
  | [] => .tup [.agg [.int .u64 0, .sl [] .nil, .int .i64 0], .bool false]
  | e :: _ => .tup [.agg (fCT e), .bool true]

set_option maxRecDepth 10000 in
theorem hpeekT_ok {h pl : Nat} {G : Option Nat} {l : List (En Tc)} {turn : Nat} {σ : St} (H : HpT σ h pl G l turn) :
    ACalls Try.prog n_hpeekT [.ptr h 0] σ (fun v σ' => v = topT l ∧ σ' = σ) := by
  refine s_hpeekT (fun wf => ?_)
  unfold c_hpeekT
  have hobj := H.obj
  have hhn := wf.lt hobj
  refine T.seq_k (fun K_h1 h1 => ?_)
  refine T.regi hm ?_
  simp only [↓reduceIte, namesOf, List.any, I.names, aopsI, astep, ev, setd, List.set, List.cons_append, List.nil_append, List.length_cons, List.length_nil, List.replicate, then_normal, Bool.or_false, Nat.reduceAdd, Nat.reduceSub, eq_self]
  have hL1 : Like σ ((σ.up 2).set (σ.next + 0) (.obj [.int .u64 0, .sl [] .nil, .int .i64 0])) := (Like.refl σ).box (n := 2) (i := 0) _
  have hp1 : ((σ.up 2).set (σ.next + 0) (.obj [.int .u64 0, .sl [] .nil, .int .i64 0])).res (σ.next + 0) = some (.obj [.int .u64 0, .sl [] .nil, .int .i64 0]) := by simp
  have hpn : σ.next + 0 < ((σ.up 2).set (σ.next + 0) (.obj [.int .u64 0, .sl [] .nil, .int .i64 0])).next := by simp
  have hpl : σ.next ≤ σ.next + 0 := by omega
  generalize ((σ.up 2).set (σ.next + 0) (.obj [.int .u64 0, .sl [] .nil, .int .i64 0])) = σ1 at hL1 hp1 hpn ⊢
  generalize σ.next + 0 = p at hp1 hpn hpl ⊢
  have ho1 := hL1.get hhn hobj
  refine h1 _ _ ?_
  try clear h1 K_h1
  refine T.seq_k (fun K_h1 h1 => ?_)
  cases l with
  | nil =>
    cases G with
    | none =>
      refine T.seq_k (fun K_h2 h2 => ?_)
      simp only [hslT] at ho1
      refine T.regi hm ?_
      simp only [↓reduceIte, namesOf, List.any, I.names, aopsI, astep, ev, setd, List.set, List.getD, List.getElem?_cons_zero, List.getElem?_cons_succ, List.length_nil, then_normal, Option.getD_some, Bool.or_false, Bool.false_eq_true, up_zero, Nat.reduceAdd, binv, ↓opt_def, ldc, eq_self, ho1, List.length_nil, Int.natCast_zero, beq_self_eq_true]
      refine h2 _ _ ?_
      try clear h2 K_h2
      refine T.cond rfl (fun _ => ?_) (fun h => by cases h)
      refine T.seq_k (fun K_h2 h2 => ?_)
      refine T.regi hm ?_
      simp only [↓reduceIte, namesOf, List.any, I.names, aopsI, astep, setd, List.set, List.length_cons, List.length_nil, then_normal, Bool.or_false, Nat.reduceAdd, eq_self]
      have hp2 : ((σ1.up 1).set (σ1.next + 0) (.obj [.int .u64 0, .sl [] .nil, .int .i64 0])).res p = some (.obj [.int .u64 0, .sl [] .nil, .int .i64 0]) := by rw [St.set_other _ _ (by omega)]; exact hp1
      have hp3 : ((σ1.up 1).set (σ1.next + 0) (.obj [.int .u64 0, .sl [] .nil, .int .i64 0])).res (σ1.next + 0) = some (.obj [.int .u64 0, .sl [] .nil, .int .i64 0]) := by simp
      have hL2 : Like σ ((σ1.up 1).set (σ1.next + 0) (.obj [.int .u64 0, .sl [] .nil, .int .i64 0])) := hL1.box (n := 1) (i := 0) _
      generalize ((σ1.up 1).set (σ1.next + 0) (.obj [.int .u64 0, .sl [] .nil, .int .i64 0])) = σ2 at hp2 hp3 hL2 ⊢
      generalize σ1.next + 0 = q at hp3 ⊢
      refine h2 _ _ ?_
      try clear h2 K_h2
      refine T.seq_k (fun K_h2 h2 => ?_)
      refine T.regi hm ?_
      simp only [↓reduceIte, namesOf, List.any, I.names, aopsI, astep, ev, setd, List.set, List.getD, List.getElem?_cons_zero, List.getElem?_cons_succ, List.cons_append, List.nil_append, List.length_cons, List.length_nil, then_normal, Option.getD_some, Bool.or_false, Bool.false_eq_true, up_zero, Nat.reduceAdd, ↓opt_def, AV.isAny, AV.cells, ldc, eq_self, decide_true, hp2, hp3, AV.fits, AV.one, List.all_cons, List.all_nil, Nat.reduceBEq, Bool.not_false, Bool.and_self, Nat.zero_add, splice, List.take, List.drop, Nat.reduceLeDiff]
      have hL3 : Like σ (σ2.set p (.obj [.int .u64 0, .sl [] .nil, .int .i64 0])) := hL2.set _ hpl
      have hp4 : (σ2.set p (.obj [.int .u64 0, .sl [] .nil, .int .i64 0])).res p = some (.obj [.int .u64 0, .sl [] .nil, .int .i64 0]) := St.set_same _ _ _
      generalize (σ2.set p (.obj [.int .u64 0, .sl [] .nil, .int .i64 0])) = σ3 at hL3 hp4 ⊢
      refine h2 _ _ ?_
      try clear h2 K_h2
      exact T.ret (Fin.quiet (xs := [.agg [.int .u64 0, .sl [] .nil, .int .i64 0], .bool false]) (by simp [rvals, rval, hp4, ldc]) (⟨⟨trivial, ⟨trivial, trivial⟩, trivial, trivial⟩, trivial, trivial⟩) (hL3.quiet wf) ⟨rfl, rfl⟩)
    | some nm =>
      refine T.seq_k (fun K_h2 h2 => ?_)
      simp only [hslT] at ho1
      refine T.regi hm ?_
      simp only [↓reduceIte, namesOf, List.any, I.names, aopsI, astep, ev, setd, List.set, List.getD, List.getElem?_cons_zero, List.getElem?_cons_succ, List.length_nil, then_normal, Option.getD_some, Bool.or_false, Bool.false_eq_true, up_zero, Nat.reduceAdd, binv, ↓opt_def, ldc, eq_self, ho1, List.length_nil, Int.natCast_zero, beq_self_eq_true]
      refine h2 _ _ ?_
      try clear h2 K_h2
      refine T.cond rfl (fun _ => ?_) (fun h => by cases h)
      refine T.seq_k (fun K_h2 h2 => ?_)
      refine T.regi hm ?_
      simp only [↓reduceIte, namesOf, List.any, I.names, aopsI, astep, setd, List.set, List.length_cons, List.length_nil, then_normal, Bool.or_false, Nat.reduceAdd, eq_self]
      have hp2 : ((σ1.up 1).set (σ1.next + 0) (.obj [.int .u64 0, .sl [] .nil, .int .i64 0])).res p = some (.obj [.int .u64 0, .sl [] .nil, .int .i64 0]) := by rw [St.set_other _ _ (by omega)]; exact hp1
      have hp3 : ((σ1.up 1).set (σ1.next + 0) (.obj [.int .u64 0, .sl [] .nil, .int .i64 0])).res (σ1.next + 0) = some (.obj [.int .u64 0, .sl [] .nil, .int .i64 0]) := by simp
      have hL2 : Like σ ((σ1.up 1).set (σ1.next + 0) (.obj [.int .u64 0, .sl [] .nil, .int .i64 0])) := hL1.box (n := 1) (i := 0) _
      generalize ((σ1.up 1).set (σ1.next + 0) (.obj [.int .u64 0, .sl [] .nil, .int .i64 0])) = σ2 at hp2 hp3 hL2 ⊢
      generalize σ1.next + 0 = q at hp3 ⊢
      refine h2 _ _ ?_
      try clear h2 K_h2
      refine T.seq_k (fun K_h2 h2 => ?_)
      refine T.regi hm ?_
      simp only [↓reduceIte, namesOf, List.any, I.names, aopsI, astep, ev, setd, List.set, List.getD, List.getElem?_cons_zero, List.getElem?_cons_succ, List.cons_append, List.nil_append, List.length_cons, List.length_nil, then_normal, Option.getD_some, Bool.or_false, Bool.false_eq_true, up_zero, Nat.reduceAdd, ↓opt_def, AV.isAny, AV.cells, ldc, eq_self, decide_true, hp2, hp3, AV.fits, AV.one, List.all_cons, List.all_nil, Nat.reduceBEq, Bool.not_false, Bool.and_self, Nat.zero_add, splice, List.take, List.drop, Nat.reduceLeDiff]
      have hL3 : Like σ (σ2.set p (.obj [.int .u64 0, .sl [] .nil, .int .i64 0])) := hL2.set _ hpl
      have hp4 : (σ2.set p (.obj [.int .u64 0, .sl [] .nil, .int .i64 0])).res p = some (.obj [.int .u64 0, .sl [] .nil, .int .i64 0]) := St.set_same _ _ _
      generalize (σ2.set p (.obj [.int .u64 0, .sl [] .nil, .int .i64 0])) = σ3 at hL3 hp4 ⊢
      refine h2 _ _ ?_
      try clear h2 K_h2
      exact T.ret (Fin.quiet (xs := [.agg [.int .u64 0, .sl [] .nil, .int .i64 0], .bool false]) (by simp [rvals, rval, hp4, ldc]) (⟨⟨trivial, ⟨trivial, trivial⟩, trivial, trivial⟩, trivial, trivial⟩) (hL3.quiet wf) ⟨rfl, rfl⟩)
  | cons e r =>
    obtain ⟨nm, rfl⟩ := H.named (i := 0) (a := e) rfl
    obtain ⟨hne, cs, hr, hl, hc⟩ := H.row nm rfl
    obtain ⟨la, ga⟩ := rowk_get eCT_len hc hl (i := 0) (x := e) rfl
    have hr1 := hL1.get (wf.lt hr) hr
    have la3 : 3 ≤ cs.length := by omega
    have ga3 : cs.take 3 = fCT e := by
      have h3 : (cs.take 4).take 3 = (eCT e).take 3 := by rw [← ga]; simp
      rw [List.take_take] at h3
      exact h3
    simp only [hslT] at ho1
    have hpos : 0 < (e :: r).length := by simp
    have hlen : (((e :: r).length : Nat) : Int) = ((r.length + 1 : Nat) : Int) := rfl
    have hz : ((((e :: r).length : Nat) : Int) == 0) = false := by rw [beq_eq_false_iff_ne, hlen]; omega
    have hposI : (0 : Int) < (((e :: r).length : Nat) : Int) := by rw [hlen]; omega
    have hzz : ((0 : Int) ≤ 0) = True := eq_true (Int.le_refl 0)
    generalize hn : (e :: r).length = n at ho1 hpos hz hposI
    refine T.seq_k (fun K_h2 h2 => ?_)
    refine T.regi hm ?_
    simp only [↓reduceIte, namesOf, List.any, I.names, aopsI, astep, ev, setd, List.set, List.getD, List.getElem?_cons_zero, List.getElem?_cons_succ, then_normal, Option.getD_some, Bool.or_false, Bool.false_eq_true, up_zero, Nat.reduceAdd, binv, ↓opt_def, ldc, eq_self, ho1, hz]
    refine h2 _ _ ?_
    try clear h2 K_h2
    refine T.cond rfl (fun h => by cases h) (fun _ => T.skip ?_)
    refine h1 _ _ ?_
    try clear h1 K_h1
    refine T.seq_k (fun K_h1 h1 => ?_)
    have hfit : (AV.agg (fCT e)).fits 3 = true := rfl
    refine T.regi hm ?_
    simp only [↓reduceIte, namesOf, List.any, I.names, aopsI, astep, ev, setd, List.set, List.getD, List.getElem?_cons_zero, List.getElem?_cons_succ, List.cons_append, List.nil_append, List.length_cons, List.length_nil, then_normal, Option.getD_some, Bool.or_false, Bool.false_eq_true, up_zero, Nat.reduceAdd, ↓opt_def, AV.isAny, AV.cells, ldc, and_true, decide_true, ho1, hr1, hposI, hzz, Int.toNat_zero, Nat.zero_mul, Nat.add_zero, Nat.zero_add, la3, ga3, hp1, AV.fits, splice, List.take_zero, List.drop, Nat.reduceLeDiff, decide_true]
    have hL3 : Like σ (σ1.set p (.obj (fCT e))) := hL1.set _ hpl
    have hp4 : (σ1.set p (.obj (fCT e))).res p = some (.obj (fCT e)) := St.set_same _ _ _
    generalize (σ1.set p (.obj (fCT e))) = σ3 at hL3 hp4 ⊢
    refine h1 _ _ ?_
    try clear h1 K_h1
    exact T.ret (Fin.quiet (xs := [.agg (fCT e), .bool true]) (by simp [rvals, rval, hp4, ldc]) ⟨nb_fT _ e, trivial, trivial⟩ (hL3.quiet wf) ⟨rfl, rfl⟩)

theorem HpT.alike {σ t : St} {h pl : Nat} {G : Option Nat} {l : List (En Tc)} {turn : Nat} (wf : WF σ) (H : HpT σ h pl G l turn) (hk : Like σ t) : HpT t h pl G l turn := H.keep (hk.quiet wf)

set_option maxRecDepth 10000 in
set_option maxHeartbeats 1000000 in
theorem hpopT_nil {h pl : Nat} {G : Option Nat} {turn : Nat} {σ : St} (H : HpT σ h pl G [] turn) :
    ACalls Try.prog n_hpopT [.ptr h 0] σ (fun v σ' => v = .tup [.agg [.int .u64 0, .sl [] .nil, .int .i64 0], .bool false] ∧ σ' = σ) := by
  refine s_hpopT (fun wf => ?_)
  unfold c_hpopT
  refine T.seq_k (fun K_h1 h1 => ?_)
  refine T.regi hm ?_
  simp only [↓reduceIte, namesOf, List.any, I.names, aopsI, astep, ev, setd, List.set, List.cons_append, List.nil_append, List.length_cons, List.length_nil, List.replicate, then_normal, Bool.or_false, Nat.reduceAdd, Nat.reduceSub, eq_self]
  have hL1 : Like σ ((σ.up 2).set (σ.next + 0) (.obj [.int .u64 0, .sl [] .nil, .int .i64 0])) := (Like.refl σ).box (n := 2) (i := 0) _
  have hp1 : ((σ.up 2).set (σ.next + 0) (.obj [.int .u64 0, .sl [] .nil, .int .i64 0])).res (σ.next + 0) = some (.obj [.int .u64 0, .sl [] .nil, .int .i64 0]) := by simp
  have hpn : σ.next + 0 < ((σ.up 2).set (σ.next + 0) (.obj [.int .u64 0, .sl [] .nil, .int .i64 0])).next := by simp
  have hpl : σ.next ≤ σ.next + 0 := by omega
  generalize ((σ.up 2).set (σ.next + 0) (.obj [.int .u64 0, .sl [] .nil, .int .i64 0])) = σ1 at hL1 hp1 hpn ⊢
  generalize σ.next + 0 = p at hp1 hpn hpl ⊢
  refine h1 _ _ ?_
  try clear h1 K_h1
  refine T.seq_k (fun K_h1 h1 => ?_)
  refine T.regt hm (tbl := []) Tbl.ok_nil ?_
  refine aopsT_cut 2 (fun K_c h_c => ?_)
  try simp only [↓reduceIte, namesOf, List.any, I.names, aopsT, qstep, CPt, Tbl.get, astep, ev, setd, List.set, List.getD, List.getElem?_cons_zero, List.getElem?_cons_succ, List.length_cons, List.length_nil, Option.getD_some, Bool.or_false, Bool.or_true, Nat.reduceAdd, List.map_cons, List.map_nil, eq_self, List.take_succ_cons, List.take_zero]
  refine (hpeekT_ok ((H.alike wf hL1).keep (fun n r hr => by simpa using hr))).mono ?_
  rintro _ _ ⟨rfl, rfl⟩
  refine h_c _ _ ?_
  clear h_c K_c
  simp only [List.drop_succ_cons, List.drop_zero, Nat.zero_add, topT]
  try simp only [↓reduceIte, aopsT, qstep, astep, ev, setd, List.set, List.getD, List.getElem?_cons_zero, List.getElem?_cons_succ, List.cons_append, List.nil_append, List.length_cons, List.length_nil, then_normal, Option.getD_some, Nat.reduceAdd, ↓opt_def, AV.isAny, AV.cells, St.set_same, eq_self, decide_true, AV.fits, AV.one, List.all_cons, List.all_nil, Nat.reduceBEq, Bool.not_false, Bool.and_self, Nat.zero_add, splice, List.take, List.drop, Nat.reduceLeDiff, St.set_set]
  have hp2 : ((σ1.up 8).set (σ1.next + 5) (.obj [.int .u64 0, .sl [] .nil, .int .i64 0])).res p = some (.obj [.int .u64 0, .sl [] .nil, .int .i64 0]) := by rw [St.set_other _ _ (by omega)]; exact hp1
  have hp3 : ((σ1.up 8).set (σ1.next + 5) (.obj [.int .u64 0, .sl [] .nil, .int .i64 0])).res (σ1.next + 5) = some (.obj [.int .u64 0, .sl [] .nil, .int .i64 0]) := by simp
  have hL2 : Like σ ((σ1.up 8).set (σ1.next + 5) (.obj [.int .u64 0, .sl [] .nil, .int .i64 0])) := hL1.box (n := 8) (i := 5) _
  generalize ((σ1.up 8).set (σ1.next + 5) (.obj [.int .u64 0, .sl [] .nil, .int .i64 0])) = σ2 at hp2 hp3 hL2 ⊢
  generalize σ1.next + 5 = q at hp3 ⊢
  refine h1 _ _ ?_
  try clear h1 K_h1
  refine T.seq_k (fun K_h1 h1 => ?_)
  refine T.seq_k (fun K_h0 h0 => ?_)
  refine T.regi hm ?_
  simp only [↓reduceIte, namesOf, List.any, I.names, aopsI, astep, ev, setd, List.set, List.getD, List.getElem?_cons_zero, List.getElem?_cons_succ, then_normal, Option.getD_some, Bool.or_false, Bool.false_eq_true, up_zero]
  refine h0 _ _ ?_
  try clear h0 K_h0
  refine T.cond rfl (fun _ => ?_) (fun h => by cases h)
  refine T.seq_k (fun K_h1 h1 => ?_)
  refine T.regi hm ?_
  simp only [↓reduceIte, namesOf, List.any, I.names, aopsI, astep, ev, setd, List.set, List.getD, List.getElem?_cons_zero, List.getElem?_cons_succ, List.cons_append, List.nil_append, List.length_cons, List.length_nil, then_normal, Option.getD_some, Bool.or_false, Bool.false_eq_true, up_zero, Nat.reduceAdd, ↓opt_def, AV.isAny, AV.cells, ldc, eq_self, decide_true, hp2, hp3, AV.fits, AV.one, List.all_cons, List.all_nil, Nat.reduceBEq, Bool.not_false, Bool.and_self, Nat.zero_add, splice, List.take, List.drop, Nat.reduceLeDiff]
  have hL3 : Like σ (σ2.set p (.obj [.int .u64 0, .sl [] .nil, .int .i64 0])) := hL2.set _ hpl
  have hp4 : (σ2.set p (.obj [.int .u64 0, .sl [] .nil, .int .i64 0])).res p = some (.obj [.int .u64 0, .sl [] .nil, .int .i64 0]) := St.set_same _ _ _
  generalize (σ2.set p (.obj [.int .u64 0, .sl [] .nil, .int .i64 0])) = σ3 at hL3 hp4 ⊢
  refine h1 _ _ ?_
  try clear h1 K_h1
  exact T.ret (Fin.quiet (xs := [.agg [.int .u64 0, .sl [] .nil, .int .i64 0], .bool false]) (by simp [rvals, rval, hp4, ldc]) (⟨⟨trivial, ⟨trivial, trivial⟩, trivial, trivial⟩, trivial, trivial⟩) (hL3.quiet wf) ⟨rfl, rfl⟩)

/-- the least is gone -/
structure PopT (σ σ' : St) (h pl : Nat) (G : Option Nat) (e : En Tc) (l l' : List (En Tc)) (turn : Nat) : Prop where
  hp : HpT σ' h pl G l' turn
  perm : (e :: l').Perm l
  heap : HeapL keyT l'
  fr : HFrT σ σ' h G

set_option maxRecDepth 10000 in
set_option maxHeartbeats 2000000 in
theorem hpopT_ok {h pl : Nat} {G : Option Nat} {e : En Tc} {r : List (En Tc)} {turn : Nat} {σ : St} (H : HpT σ h pl G (e :: r) turn) (hh : HeapL keyT (e :: r)) (hlen : (e :: r).length ≤ 1000000) :
    ACalls Try.prog n_hpopT [.ptr h 0] σ (fun v σ' => v = .tup [.agg (fCT e), .bool true] ∧ ∃ l', PopT σ σ' h pl G e (e :: r) l' turn) := by
  refine s_hpopT (fun wf => ?_)
  unfold c_hpopT
  obtain ⟨nm, rfl⟩ := H.named (i := 0) (a := e) rfl
  obtain ⟨⟨hne1, hne2⟩, cs0, hr0, _, _⟩ := H.row nm rfl
  have hnn := wf.lt hr0
  have hhn := wf.lt H.obj
  have hpn0 := wf.lt H.less
  refine T.seq_k (fun K_h1 h1 => ?_)
  refine T.regi hm ?_
  simp only [↓reduceIte, namesOf, List.any, I.names, aopsI, astep, ev, setd, List.set, List.cons_append, List.nil_append, List.length_cons, List.length_nil, List.replicate, then_normal, Bool.or_false, Nat.reduceAdd, Nat.reduceSub, eq_self]
  have hL1 : Like σ ((σ.up 2).set (σ.next + 0) (.obj [.int .u64 0, .sl [] .nil, .int .i64 0])) := (Like.refl σ).box (n := 2) (i := 0) _
  have hp1 : ((σ.up 2).set (σ.next + 0) (.obj [.int .u64 0, .sl [] .nil, .int .i64 0])).res (σ.next + 0) = some (.obj [.int .u64 0, .sl [] .nil, .int .i64 0]) := by simp
  have hpn : σ.next + 0 < ((σ.up 2).set (σ.next + 0) (.obj [.int .u64 0, .sl [] .nil, .int .i64 0])).next := by simp
  have hpl : σ.next ≤ σ.next + 0 := by omega
  generalize ((σ.up 2).set (σ.next + 0) (.obj [.int .u64 0, .sl [] .nil, .int .i64 0])) = σ1 at hL1 hp1 hpn ⊢
  generalize σ.next + 0 = p at hp1 hpn hpl ⊢
  refine h1 _ _ ?_
  try clear h1 K_h1
  refine T.seq_k (fun K_h1 h1 => ?_)
  refine T.regt hm (tbl := []) Tbl.ok_nil ?_
  refine aopsT_cut 2 (fun K_c h_c => ?_)
  try simp only [↓reduceIte, namesOf, List.any, I.names, aopsT, qstep, CPt, Tbl.get, astep, ev, setd, List.set, List.getD, List.getElem?_cons_zero, List.getElem?_cons_succ, List.length_cons, List.length_nil, Option.getD_some, Bool.or_false, Bool.or_true, Nat.reduceAdd, List.map_cons, List.map_nil, eq_self, List.take_succ_cons, List.take_zero]
  refine (hpeekT_ok ((H.alike wf hL1).keep (fun n r hr => by simpa using hr))).mono ?_
  rintro _ _ ⟨rfl, rfl⟩
  refine h_c _ _ ?_
  clear h_c K_c
  simp only [List.drop_succ_cons, List.drop_zero, Nat.zero_add, topT]
  try simp only [↓reduceIte, aopsT, qstep, astep, ev, setd, List.set, List.getD, List.getElem?_cons_zero, List.getElem?_cons_succ, List.cons_append, List.nil_append, List.length_cons, List.length_nil, then_normal, Option.getD_some, Nat.reduceAdd, ↓opt_def, AV.isAny, AV.cells, St.set_same, eq_self, decide_true, AV.fits, AV.one, List.all_cons, List.all_nil, Nat.reduceBEq, Bool.not_false, Bool.and_self, Nat.zero_add, splice, List.take, List.drop, Nat.reduceLeDiff, St.set_set]
  have hp2 : ((σ1.up 8).set (σ1.next + 5) (.obj (fCT e))).res p = some (.obj [.int .u64 0, .sl [] .nil, .int .i64 0]) := by rw [St.set_other _ _ (by omega)]; exact hp1
  have hp3 : ((σ1.up 8).set (σ1.next + 5) (.obj (fCT e))).res (σ1.next + 5) = some (.obj (fCT e)) := by simp
  have hL2 : Like σ ((σ1.up 8).set (σ1.next + 5) (.obj (fCT e))) := hL1.box (n := 8) (i := 5) _
  have hpn2 : p < ((σ1.up 8).set (σ1.next + 5) (.obj (fCT e))).next := by simp; omega
  have hqn2 : σ1.next + 5 < ((σ1.up 8).set (σ1.next + 5) (.obj (fCT e))).next := by simp
  have hql : σ.next ≤ σ1.next + 5 := by omega
  have hpq : p ≠ σ1.next + 5 := by omega
  generalize ((σ1.up 8).set (σ1.next + 5) (.obj (fCT e))) = σ2 at hp2 hp3 hL2 hpn2 hqn2 ⊢
  generalize σ1.next + 5 = q at hp3 hqn2 hql hpq ⊢
  clear hp1 hpn hL1 σ1
  have H2 := H.alike wf hL2
  refine h1 _ _ ?_
  try clear h1 K_h1
  refine T.seq_k (fun K_h1 h1 => ?_)
  refine T.seq_k (fun K_h0 h0 => ?_)
  refine T.regi hm ?_
  simp only [↓reduceIte, namesOf, List.any, I.names, aopsI, astep, ev, setd, List.set, List.getD, List.getElem?_cons_zero, List.getElem?_cons_succ, then_normal, Option.getD_some, Bool.or_false, Bool.false_eq_true, up_zero]
  refine h0 _ _ ?_
  try clear h0 K_h0
  refine T.cond rfl (fun h => by cases h) (fun _ => T.skip ?_)
  refine h1 _ _ ?_
  try clear h1 K_h1
  have ho2 := H2.obj
  simp only [hslT] at ho2
  have hw1 : IntKind.i64.wrap ((((e :: r).length : Nat) : Int) - 1) = (r.length : Int) := by
    have : (((e :: r).length : Nat) : Int) = ((r.length + 1 : Nat) : Int) := rfl
    rw [this, wrap64 (by omega) (by simp at hlen; omega)]; omega
  generalize hln : (e :: r).length = ln at ho2 hw1
  refine T.seq_k (fun K_h0 h0 => ?_)
  refine T.regi hm ?_
  simp only [↓reduceIte, namesOf, List.any, I.names, aopsI, astep, ev, setd, List.set, List.getD, List.getElem?_cons_zero, List.getElem?_cons_succ, then_normal, Option.getD_some, Bool.or_false, Bool.false_eq_true, up_zero, Nat.reduceAdd, binv, ↓opt_def, ldc, eq_self, ho2, hw1]
  refine h0 _ _ ?_
  try clear h0 K_h0
  subst hln
  -- the last one comes first
  have ha : (e :: r)[0]? = some e := rfl
  have hb : (e :: r)[r.length]? = some ((e :: r)[r.length]'(by simp)) := by simp
  generalize (e :: r)[r.length]'(by simp) = b at hb
  refine T.seq_k (fun K_h1 h1 => ?_)
  refine T.regi hm ?_
  simp only [↓reduceIte, namesOf, List.any, I.names, aopsI, astep, ev, setd, List.set, List.getD, List.getElem?_cons_zero, List.getElem?_cons_succ, List.length_cons, then_normal, Option.getD_some, Bool.or_false, Bool.false_eq_true, up_zero, List.map_cons, List.map_nil]
  refine (hswapT_ok (i := 0) H2 ha hb).mono ?_
  rintro v σ3 ⟨rfl, H3, hf3, hnx3⟩
  try simp only [↓reduceIte, namesOf, List.any, I.names, aops, aopsI, aopsT, qstep, CPt, qget, Tbl.get, astep, ev, setd, List.set, List.getD, List.getElem?_cons_zero, List.getElem?_cons_succ, List.getElem?_nil, List.cons_append, List.nil_append, List.length_cons, List.length_nil, List.replicate, then_normal, inBlock_normal, Option.getD_some, Option.getD_none, Bool.or_false, Bool.or_true, Bool.true_or, Bool.false_or, Bool.false_eq_true, if_false, if_true, up_zero, Nat.reduceAdd, Nat.reduceSub, binv, ↓opt_def, AV.isAny, AV.cells, ldc, List.map_cons, List.map_nil, St.set_next, St.set_same, St.up_next, Int.natCast_nonneg, lt_len, le_len, Int.toNat_natCast, true_and, and_true, eq_self, reduceCtorEq, decide_true, List.length_singleton, er_int, er_bool, er_str, srcR, up_zero]
  refine h1 _ _ ?_
  try clear h1 K_h1
  refine T.seq_k (fun K_h1 h1 => ?_)
  have ho3 := H3.obj
  simp only [hslT, sw_len] at ho3
  have hle1 : ((r.length : Int) ≤ ((r.length + 1 : Nat) : Int)) = True := eq_true (by omega)
  refine T.regi hm ?_
  simp only [↓reduceIte, namesOf, List.any, I.names, aopsI, astep, ev, setd, List.set, List.getD, List.getElem?_cons_zero, List.getElem?_cons_succ, List.cons_append, List.nil_append, List.length_cons, List.length_nil, then_normal, Option.getD_some, Bool.or_false, Bool.false_eq_true, up_zero, Nat.reduceAdd, ↓opt_def, AV.isAny, AV.cells, ldc, Int.natCast_nonneg, Int.toNat_natCast, and_true, eq_self, decide_true, ho3, idx, hle1, AV.fits, AV.one, List.all_cons, List.all_nil, Nat.reduceBEq, Bool.not_false, Bool.and_self, Nat.zero_add, splice, List.take, List.drop, Nat.reduceLeDiff]
  obtain ⟨_, cs3, hr3, hl3, hc3⟩ := H3.row nm rfl
  have hsl : (sw (e :: r) 0 r.length e b).length = r.length + 1 := by rw [sw_len]; rfl
  obtain ⟨hl4, hc4⟩ := row_short eCT_len hc3 hl3 (n := r.length) (by rw [hsl]; omega)
  have hp30 : σ3.res p = some (.obj [.int .u64 0, .sl [] .nil, .int .i64 0]) := by rw [hf3.old p hpn2 (by omega) (fun g e => by cases e; omega)]; exact hp2
  have hq30 : σ3.res q = some (.obj (fCT e)) := by rw [hf3.old q hqn2 (by omega) (fun g e => by cases e; omega)]; exact hp3
  have hln4 : ((sw (e :: r) 0 r.length e b).take r.length).length = r.length := by rw [List.length_take, hsl]; omega
  have H4 : HpT (σ3.set h (.obj [.func n_klessT [] [.ptr pl 0], .refr nm 4 r.length, .int .i64 (turn : Int)])) h pl (some nm) ((sw (e :: r) 0 r.length e b).take r.length) turn := by
    refine ⟨?_, ?_, fun e => (by cases e), fun nm' e' => ?_, H.ne⟩
    · rw [St.set_same, hln4]; rfl
    · rw [St.set_other _ _ H.ne]; exact H3.less
    · cases e'
      exact ⟨⟨hne1, hne2⟩, cs3, by rw [St.set_other _ _ hne1]; exact hr3, hl4, hc4⟩
  have hperm : (e :: (sw (e :: r) 0 r.length e b).take r.length).Perm (e :: r) := by
    have h1 := sw_perm ha hb
    have h2 : sw (e :: r) 0 r.length e b = (sw (e :: r) 0 r.length e b).take r.length ++ [e] := by
      conv => lhs; rw [← List.take_append_drop r.length (sw (e :: r) 0 r.length e b)]
      congr 1
      have h3 := sw_get ha hb r.length
      rw [if_pos rfl] at h3
      obtain ⟨h4, h5⟩ := List.getElem?_eq_some_iff.1 h3
      rw [List.drop_eq_getElem_cons h4, h5, List.drop_eq_nil_of_le (by rw [hsl]; omega)]
    rw [h2] at h1
    exact (List.perm_append_singleton e _).symm.trans h1
  have hsink : Sink keyT 0 ((sw (e :: r) 0 r.length e b).take r.length) := Sink.start hh (by simp) ha hb
  have hfr4 : HFrT σ (σ3.set h (.obj [.func n_klessT [] [.ptr pl 0], .refr nm 4 r.length, .int .i64 (turn : Int)])) h (some nm) := by
    refine ⟨Nat.le_trans hL2.next (by rw [St.set_next, hnx3]; exact Nat.le_refl _), fun n h1 h2 h3 => ?_⟩
    rw [St.set_other _ _ h2, hf3.old n (Nat.lt_of_lt_of_le h1 hL2.next) h2 h3]
    exact hL2.same n h1
  have hp40 : (σ3.set h (.obj [.func n_klessT [] [.ptr pl 0], .refr nm 4 r.length, .int .i64 (turn : Int)])).res p = some (.obj [.int .u64 0, .sl [] .nil, .int .i64 0]) := by rw [St.set_other _ _ (by omega)]; exact hp30
  have hq40 : (σ3.set h (.obj [.func n_klessT [] [.ptr pl 0], .refr nm 4 r.length, .int .i64 (turn : Int)])).res q = some (.obj (fCT e)) := by rw [St.set_other _ _ (by omega)]; exact hq30
  have hpn4 : p < (σ3.set h (.obj [.func n_klessT [] [.ptr pl 0], .refr nm 4 r.length, .int .i64 (turn : Int)])).next := by rw [St.set_next, hnx3]; exact hpn2
  have hqn4 : q < (σ3.set h (.obj [.func n_klessT [] [.ptr pl 0], .refr nm 4 r.length, .int .i64 (turn : Int)])).next := by rw [St.set_next, hnx3]; exact hqn2
  generalize (σ3.set h (.obj [.func n_klessT [] [.ptr pl 0], .refr nm 4 r.length, .int .i64 (turn : Int)])) = σ4 at H4 hfr4 hp40 hq40 hpn4 hqn4 ⊢
  generalize (sw (e :: r) 0 r.length e b).take r.length = l4 at H4 hperm hsink hln4
  clear hp30 hq30 hl4 hc4 hsl hr3 hl3 hc3 ho3 hle1 hf3 hnx3 H3 H2 hp2 hp3 hL2 hpn2 hqn2 hb ha hr0
  have hrl : r.length ≤ 1000000 := by simp at hlen; omega
  refine h1 _ _ ?_
  try clear h1 K_h1
  refine T.seq_k (fun K_h0 h0 => ?_)
  refine T.regi hm ?_
  simp only [↓reduceIte, namesOf, List.any, I.names, aopsI, astep, ev, setd, List.set, then_normal, Bool.or_false, Bool.false_eq_true, up_zero]
  refine h0 _ _ ?_
  try clear h0 K_h0
  refine T.gh (Gh.keep [0, 2, 4, 6, 7]) ?_
  refine T.block ?_
  refine T.loop (fun ρ t => ∃ (i : Nat) (l' : List (En Tc)), HpT t h pl (some nm) l' turn ∧ (e :: l').Perm (e :: r) ∧ Sink keyT i l' ∧ l'.length = r.length ∧ (i < r.length ∨ i = 0) ∧ HFrT σ t h (some nm) ∧ t.res p = some (.obj [.int .u64 0, .sl [] .nil, .int .i64 0]) ∧ t.res q = some (.obj (fCT e)) ∧ p < t.next ∧ q < t.next ∧
      ρ = [.ptr h 0, .any, .ptr p 0, .any, .ptr q 0, .any, .int .i64 (r.length : Int), .int .i64 (i : Int)] ++ List.replicate 55 .any)
    (fun ρ _ => match ρ.getD 7 .any with | .int _ n => r.length - n.toNat | _ => 0) ⟨0, l4, H4, hperm, hsink, hln4, .inr rfl, hfr4, hp40, hq40, hpn4, hqn4, rfl⟩ ?_
  clear H4 hperm hsink hln4 hfr4 hp40 hq40 hpn4 hqn4 σ4 l4
  rintro ρ t ⟨i, l', H1, hperm, hsink, hln, hi, hfr, hp, hq, hpn, hqn, rfl⟩
  have e1 : IntKind.i64.wrap (2 * (i : Int)) = ((2 * i : Nat) : Int) := by rw [wrap64 (by omega) (by omega)]; omega
  have e2 : IntKind.i64.wrap (((2 * i : Nat) : Int) + 1) = ((2 * i + 1 : Nat) : Int) := by rw [wrap64 (by omega) (by omega)]; omega
  have e3 : IntKind.i64.wrap (((2 * i : Nat) : Int) + 3) = ((2 * i + 3 : Nat) : Int) := by rw [wrap64 (by omega) (by omega)]; omega
  have e4 : (if (r.length : Int) < ((2 * i + 3 : Nat) : Int) then (r.length : Int) else ((2 * i + 3 : Nat) : Int)) = ((min (2 * i + 3) r.length : Nat) : Int) := by
    split <;> omega
  refine T.block ?_
  refine T.seq_k (fun K_h0 h0 => ?_)
  refine T.regi hm ?_
  simp only [↓reduceIte, namesOf, List.any, I.names, aopsI, astep, ev, setd, List.set, List.getD, List.getElem?_cons_zero, List.getElem?_cons_succ, List.cons_append, List.nil_append, List.replicate, then_normal, Option.getD_some, Bool.or_false, Bool.false_eq_true, up_zero, Int.toNat_natCast]
  refine h0 _ _ ?_
  try clear h0 K_h0
  refine T.seq_k (fun K_h1 h1 => ?_)
  refine T.seq_k (fun K_h0 h0 => ?_)
  refine T.regi hm ?_
  simp only [↓reduceIte, namesOf, List.any, I.names, aopsI, astep, ev, setd, List.set, List.getD, List.getElem?_cons_zero, List.getElem?_cons_succ, List.cons_append, List.nil_append, List.replicate, then_normal, Option.getD_some, Bool.or_false, Bool.false_eq_true, up_zero, binv, ↓opt_def, Int.toNat_natCast, eq_self, e1, e2]
  refine h0 _ _ ?_
  try clear h0 K_h0
  refine T.block ?_
  refine T.gh (Gh.keep [0, 2, 4, 6, 7, 8, 9]) ?_
  refine T.loopi (fun k ρ t1 => t1 = t ∧ 2 * i + 1 ≤ k ∧ ∃ best, (best = i ∨ (2 * i + 1 ≤ best ∧ best < k ∧ best < r.length)) ∧ (∀ x, l'[best]? = some x → ∀ c y, (c = i ∨ (2 * i + 1 ≤ c ∧ c < k)) → l'[c]? = some y → leE keyT x y) ∧
      ρ = [.ptr h 0, .any, .ptr p 0, .any, .ptr q 0, .any, .int .i64 (r.length : Int), .int .i64 (i : Int), .int .i64 (best : Int), .int .i64 (k : Int)] ++ List.replicate 53 .any)
    (2 * i + 3) (2 * i + 1) (by omega) ⟨rfl, Nat.le_refl _, i, .inl rfl, fun x hx c y hc hy => ?_, rfl⟩ ?_
  · have : c = i := by omega
    subst this
    rw [hx] at hy; cases hy; exact .refl _
  rintro k ρ t1 hk ⟨rfl, hk1, best, hbest, hmin, rfl⟩
  refine T.seq_k (fun K_h2 h2 => ?_)
  refine T.seq_k (fun K_h3 h3 => ?_)
  by_cases hkm : k < min (2 * i + 3) r.length
  · have e5 : decide ((k : Int) < ((min (2 * i + 3) r.length : Nat) : Int)) = true := decide_eq_true (by omega)
    refine T.regi hm ?_
    simp only [↓reduceIte, namesOf, List.any, I.names, aopsI, astep, ev, setd, List.set, List.getD, List.getElem?_cons_zero, List.getElem?_cons_succ, List.cons_append, List.nil_append, List.replicate, then_normal, Option.getD_some, Bool.or_false, Bool.false_eq_true, up_zero, binv, ↓opt_def, List.map_cons, List.map_nil, Int.toNat_natCast, eq_self, e1, e3, e4, e5, mn2, List.foldlM, bind, Option.bind, pure]
    refine h3 _ _ ?_
    try clear h3 K_h3
    refine T.cond rfl (fun _ => T.skip ?_) (fun h => by cases h)
    refine h2 _ _ ?_
    try clear h2 K_h2
    have hkn : k < l'.length := by omega
    have hbn : best < l'.length := by omega
    have hka : l'[k]? = some l'[k] := by simp [hkn]
    have hba : l'[best]? = some l'[best] := by simp [hbn]
    generalize l'[k] = x at hka
    generalize l'[best] = y at hba
    have hkw : IntKind.i64.wrap ((k : Int) + 1) = ((k + 1 : Nat) : Int) := inc64' hkn (by omega)
    refine T.seq_k (fun K_h2 h2 => ?_)
    refine T.block ?_
    refine T.seq_k (fun K_h3 h3 => ?_)
    refine T.regi hm ?_
    simp only [↓reduceIte, namesOf, List.any, I.names, aopsI, astep, ev, setd, List.set, List.getD, List.getElem?_cons_zero, List.getElem?_cons_succ, List.cons_append, List.nil_append, List.replicate, then_normal, Option.getD_some, Bool.or_false, Bool.false_eq_true, up_zero, List.map_cons, List.map_nil, Int.toNat_natCast]
    refine (haheadT_ok H1 hka hba).mono ?_
    rintro v t2 ⟨rfl, rfl⟩
    try simp only [↓reduceIte, namesOf, List.any, I.names, aops, aopsI, aopsT, qstep, CPt, qget, Tbl.get, astep, ev, setd, List.set, List.getD, List.getElem?_cons_zero, List.getElem?_cons_succ, List.getElem?_nil, List.cons_append, List.nil_append, List.length_cons, List.length_nil, List.replicate, then_normal, inBlock_normal, Option.getD_some, Option.getD_none, Bool.or_false, Bool.or_true, Bool.true_or, Bool.false_or, Bool.false_eq_true, if_false, if_true, up_zero, Nat.reduceAdd, Nat.reduceSub, binv, ↓opt_def, AV.isAny, AV.cells, ldc, List.map_cons, List.map_nil, St.set_next, St.set_same, St.up_next, Int.natCast_nonneg, lt_len, le_len, Int.toNat_natCast, true_and, and_true, eq_self, reduceCtorEq, decide_true, List.length_singleton, er_int, er_bool, er_str, srcR, up_zero]
    refine h3 _ _ ?_
    try clear h3 K_h3
    cases hab : aheadE keyT x y with
    | true =>
      refine T.cond rfl (fun _ => ?_) (fun h => by cases h)
      refine T.regi hm ?_
      simp only [↓reduceIte, namesOf, List.any, I.names, aopsI, astep, ev, setd, List.set, List.getD, List.getElem?_cons_zero, List.getElem?_cons_succ, List.cons_append, List.nil_append, List.replicate, then_normal, inBlock_normal, Option.getD_some, Bool.or_false, Bool.false_eq_true, up_zero, Int.toNat_natCast]
      refine h2 _ _ ?_
      try clear h2 K_h2
      refine T.regi hm ?_
      simp only [↓reduceIte, namesOf, List.any, I.names, aopsI, astep, ev, setd, List.set, List.getD, List.getElem?_cons_zero, List.getElem?_cons_succ, List.cons_append, List.nil_append, List.replicate, then_normal, Option.getD_some, Bool.or_false, Bool.false_eq_true, up_zero, binv, ↓opt_def, Int.toNat_natCast, eq_self, hkw]
      refine ⟨by omega, _, _, Gh.keep [0, 2, 4, 6, 7, 8, 9], rfl, by omega, k, .inr ⟨by omega, by omega, by omega⟩, fun x' hx' c z hc hz => ?_, rfl⟩
      rw [hka] at hx'; cases hx'
      by_cases hck : c = k
      · subst hck; rw [hka] at hz; cases hz; exact .refl _
      · exact (ahead_le hab).trans (hmin y hba c z (by omega) hz)
    | false =>
      refine T.cond rfl (fun h => by cases h) (fun _ => T.skip ?_)
      try simp only [List.getD, List.getElem?_cons_zero, List.getElem?_cons_succ, List.cons_append, List.nil_append, List.replicate, then_normal, inBlock_normal, Option.getD_some, Int.toNat_natCast, inBlock_normal]
      refine h2 _ _ ?_
      try clear h2 K_h2
      refine T.regi hm ?_
      simp only [↓reduceIte, namesOf, List.any, I.names, aopsI, astep, ev, setd, List.set, List.getD, List.getElem?_cons_zero, List.getElem?_cons_succ, List.cons_append, List.nil_append, List.replicate, then_normal, Option.getD_some, Bool.or_false, Bool.false_eq_true, up_zero, binv, ↓opt_def, Int.toNat_natCast, eq_self, hkw]
      refine ⟨by omega, _, _, Gh.keep [0, 2, 4, 6, 7, 8, 9], rfl, by omega, best, by omega, fun x' hx' c z hc hz => ?_, rfl⟩
      rw [hba] at hx'; cases hx'
      by_cases hck : c = k
      · subst hck; rw [hka] at hz; cases hz; exact hab
      · exact hmin y hba c z (by omega) hz
  · have e5 : decide ((k : Int) < ((min (2 * i + 3) r.length : Nat) : Int)) = false := decide_eq_false (by omega)
    refine T.regi hm ?_
    simp only [↓reduceIte, namesOf, List.any, I.names, aopsI, astep, ev, setd, List.set, List.getD, List.getElem?_cons_zero, List.getElem?_cons_succ, List.cons_append, List.nil_append, List.replicate, then_normal, Option.getD_some, Bool.or_false, Bool.false_eq_true, up_zero, binv, ↓opt_def, List.map_cons, List.map_nil, Int.toNat_natCast, eq_self, e1, e3, e4, e5, mn2, List.foldlM, bind, Option.bind, pure]
    refine h3 _ _ ?_
    try clear h3 K_h3
    refine T.cond rfl (fun h => by cases h) (fun _ => T.exit ?_)
    try simp only [List.getD, List.getElem?_cons_zero, List.getElem?_cons_succ, List.cons_append, List.nil_append, List.replicate, then_normal, Option.getD_some, Int.toNat_natCast, inBlock_exit, then_exit]
    refine h1 _ _ ?_
    try clear h1 K_h1
    refine T.seq_k (fun K_h1 h1 => ?_)
    by_cases hbi : best = i
    · subst hbi
      refine T.seq_k (fun K_h0 h0 => ?_)
      refine T.regi hm ?_
      simp only [↓reduceIte, namesOf, List.any, I.names, aopsI, astep, ev, setd, List.set, List.getD, List.getElem?_cons_zero, List.getElem?_cons_succ, List.cons_append, List.nil_append, List.replicate, then_normal, Option.getD_some, Bool.or_false, Bool.false_eq_true, up_zero, binv, ↓opt_def, Int.toNat_natCast, eq_self, beq_self_eq_true]
      refine h0 _ _ ?_
      try clear h0 K_h0
      refine T.cond rfl (fun _ => ?_) (fun h => by cases h)
      refine T.seq_k (fun K_h1 h1 => ?_)
      have hfit : (AV.agg (fCT e)).fits 3 = true := rfl
      refine T.regi hm ?_
      simp only [↓reduceIte, namesOf, List.any, I.names, aopsI, astep, ev, setd, List.set, List.getD, List.getElem?_cons_zero, List.getElem?_cons_succ, List.cons_append, List.nil_append, List.length_cons, List.length_nil, List.replicate, then_normal, Option.getD_some, Bool.or_false, Bool.false_eq_true, up_zero, Nat.reduceAdd, ↓opt_def, AV.isAny, AV.cells, ldc, Int.toNat_natCast, eq_self, decide_true, hp, hq, AV.fits, AV.one, List.all_cons, List.all_nil, Nat.reduceBEq, Bool.not_false, Bool.and_self, Nat.zero_add, splice, List.take, List.drop, Nat.reduceLeDiff]
      have hp5 : (t1.set p (.obj (fCT e))).res p = some (.obj (fCT e)) := St.set_same _ _ _
      have hfr5 : HFrT σ (t1.set p (.obj (fCT e))) h (some nm) := ⟨hfr.next, fun n h1 h2 h3 => by rw [St.set_other _ _ (by omega)]; exact hfr.old n h1 h2 h3⟩
      have H5 : HpT (t1.set p (.obj (fCT e))) h pl (some nm) l' turn := by
        refine ⟨?_, ?_, fun e => (by cases e), fun nm' e' => ?_, H.ne⟩
        · rw [St.set_other _ _ (by omega)]; exact H1.obj
        · rw [St.set_other _ _ (by omega)]; exact H1.less
        · obtain ⟨g1, cs, g2, g3⟩ := H1.row nm' e'
          cases e'
          exact ⟨g1, cs, by rw [St.set_other _ _ (by omega)]; exact g2, g3⟩
      generalize (t1.set p (.obj (fCT e))) = σ5 at hp5 hfr5 H5 ⊢
      refine h1 _ _ ?_
      try clear h1 K_h1
      refine T.ret (Fin.ret (xs := [.agg (fCT e), .bool true]) (by simp [rvals, rval, hp5, ldc]) ⟨rfl, l', H5, hperm, hsink.done (fun a b j hj hji ha hb => ?_), hfr5⟩)
      have hjn := (List.getElem?_eq_some_iff.1 hb).1
      exact hmin a ha j b (.inr ⟨by omega, by omega⟩) hb
    · have hbn : best < l'.length := by omega
      have hin : i < l'.length := by omega
      have e6 : ((best : Int) == (i : Int)) = false := by rw [beq_eq_false_iff_ne]; omega
      have hia : l'[i]? = some l'[i] := by simp [hin]
      have hba : l'[best]? = some l'[best] := by simp [hbn]
      generalize l'[i] = x at hia
      generalize l'[best] = y at hba
      refine T.seq_k (fun K_h0 h0 => ?_)
      refine T.regi hm ?_
      simp only [↓reduceIte, namesOf, List.any, I.names, aopsI, astep, ev, setd, List.set, List.getD, List.getElem?_cons_zero, List.getElem?_cons_succ, List.cons_append, List.nil_append, List.replicate, then_normal, Option.getD_some, Bool.or_false, Bool.false_eq_true, up_zero, binv, ↓opt_def, Int.toNat_natCast, eq_self, e6]
      refine h0 _ _ ?_
      try clear h0 K_h0
      refine T.cond rfl (fun h => by cases h) (fun _ => T.skip ?_)
      refine h1 _ _ ?_
      try clear h1 K_h1
      refine T.seq_k (fun K_h1 h1 => ?_)
      refine T.regi hm ?_
      simp only [↓reduceIte, namesOf, List.any, I.names, aopsI, astep, ev, setd, List.set, List.getD, List.getElem?_cons_zero, List.getElem?_cons_succ, List.cons_append, List.nil_append, List.replicate, then_normal, Option.getD_some, Bool.or_false, Bool.false_eq_true, up_zero, List.map_cons, List.map_nil, Int.toNat_natCast]
      refine (hswapT_ok H1 hia hba).mono ?_
      rintro v t2 ⟨rfl, H2, hf2, hnx⟩
      try simp only [↓reduceIte, namesOf, List.any, I.names, aops, aopsI, aopsT, qstep, CPt, qget, Tbl.get, astep, ev, setd, List.set, List.getD, List.getElem?_cons_zero, List.getElem?_cons_succ, List.getElem?_nil, List.cons_append, List.nil_append, List.length_cons, List.length_nil, List.replicate, then_normal, inBlock_normal, Option.getD_some, Option.getD_none, Bool.or_false, Bool.or_true, Bool.true_or, Bool.false_or, Bool.false_eq_true, if_false, if_true, up_zero, Nat.reduceAdd, Nat.reduceSub, binv, ↓opt_def, AV.isAny, AV.cells, ldc, List.map_cons, List.map_nil, St.set_next, St.set_same, St.up_next, Int.natCast_nonneg, lt_len, le_len, Int.toNat_natCast, true_and, and_true, eq_self, reduceCtorEq, decide_true, List.length_singleton, er_int, er_bool, er_str, srcR, up_zero]
      refine h1 _ _ ?_
      try clear h1 K_h1
      refine T.regi hm ?_
      simp only [↓reduceIte, namesOf, List.any, I.names, aopsI, astep, ev, setd, List.set, List.getD, List.getElem?_cons_zero, List.getElem?_cons_succ, List.cons_append, List.nil_append, List.replicate, then_normal, inBlock_normal, Option.getD_some, Bool.or_false, Bool.false_eq_true, up_zero, Int.toNat_natCast]
      have hc := hbest.resolve_left hbi
      refine ⟨_, _, Gh.keep [0, 2, 4, 6, 7], ⟨best, sw l' i best x y, H2, ((sw_perm hia hba).cons e).trans hperm, hsink.step (by omega) (by omega) hia hba (hmin y hba i x (.inl rfl) hia) (fun j z hj hji hz => ?_), by rw [sw_len]; exact hln, .inl (by omega), hfr.trans hf2 (fun g e => .inl e), ?_, ?_, by rw [hnx]; exact hpn, by rw [hnx]; exact hqn, rfl⟩, ?_⟩
      · have hjn := (List.getElem?_eq_some_iff.1 hz).1
        exact hmin y hba j z (.inr ⟨by omega, by omega⟩) hz
      · rw [hf2.old p hpn (by omega) (fun g e => by cases e; omega)]; exact hp
      · rw [hf2.old q hqn (by omega) (fun g e => by cases e; omega)]; exact hq
      · simp only [keep, List.getElem?_cons_succ, List.getElem?_cons_zero, Option.getD_some]
        show r.length - best < r.length - i
        omega

theorem hnewT_ok {g : AV} {σ : St} (hg : ∃ f a b, g = .func f a b) : ACalls Try.prog n_hnewT [g] σ (fun v σ' => ∃ p, v = .ptr p 0 ∧ σ.next ≤ p ∧ p < σ'.next ∧ σ'.res p = some (.obj [g, .sl [] .nil, .int .i64 0]) ∧ Like σ σ') := by
  obtain ⟨f, a, b, rfl⟩ := hg
  refine s_hnewT (fun wf => ?_)
  unfold c_hnewT
  refine T.seq_k (fun K_h0 h0 => ?_)
  refine T.regi hm ?_
  simp only [↓reduceIte, namesOf, List.any, I.names, aopsI, astep, ev, setd, List.set, List.cons_append, List.nil_append, List.length_cons, List.length_nil, List.replicate, then_normal, Bool.or_false, Bool.false_eq_true, up_zero, Nat.reduceAdd, Nat.reduceSub]
  refine h0 _ _ ?_
  try clear h0 K_h0
  refine T.seq_k (fun K_h1 h1 => ?_)
  refine T.regi hm ?_
  simp only [↓reduceIte, namesOf, List.any, I.names, aopsI, astep, ev, setd, List.set, List.getD, List.getElem?_cons_zero, List.getElem?_cons_succ, List.cons_append, List.nil_append, List.length_cons, List.length_nil, then_normal, Option.getD_some, Bool.or_false, Bool.or_true, Bool.false_eq_true, Nat.reduceAdd, ↓opt_def, AV.isAny, AV.cells, and_true, eq_self, fillA, ↓Option.map_some, AV.fits, AV.one, List.all_cons, List.all_nil, Nat.reduceBEq, Bool.not_false, Bool.and_self, Nat.zero_add, splice, List.take, List.drop, Nat.reduceLeDiff]
  refine h1 _ _ ?_
  try clear h1 K_h1
  exact T.ret (Fin.ret rfl ⟨σ.next + 2, rfl, by omega, by simp, by simp, (Like.refl σ).box (n := 4) (i := 2) _⟩)

end Go.VL

namespace Go.VL

open Go.Proofs

def xsAVT (l : List Tc) : List AV := l.map fun t => .agg [.int .u64 (t.id : Int), .sl (spsAV t.sp) .none]

def rwAVT (l : List (List Tc)) : List AV := l.map fun p => .sl (xsAVT p) .none

theorem xsT_len (l : List Tc) : (xsAVT l).length = l.length := by simp [xsAVT]

theorem rwT_len (l : List (List Tc)) : (rwAVT l).length = l.length := by simp [rwAVT]

theorem xsT_get {l : List Tc} {i : Nat} {a : Tc} (h : l[i]? = some a) : (xsAVT l)[i]? = some (.agg [.int .u64 (a.id : Int), .sl (spsAV a.sp) .none]) := by simp [xsAVT, h]

theorem rwT_get {l : List (List Tc)} {i : Nat} {a : List Tc} (h : l[i]? = some a) : (rwAVT l)[i]? = some (.sl (xsAVT a) .none) := by simp [rwAVT, h]

theorem xsT_fits (l : List Tc) : (xsAVT l).all (AV.fits 2) = true := by
  simp [xsAVT, AV.fits, AV.isAny, AV.cells, AV.one]

theorem xsT_nb (m : Nat) (l : List Tc) : nbs m (xsAVT l) := by
  rw [nbs_iff]
  intro y hy
  obtain ⟨t, _, rfl⟩ := List.mem_map.1 hy
  exact ⟨trivial, ⟨nbs_sps _ _, trivial⟩, trivial⟩

/-- the rows, how far each is pushed, and the heap -/
structure KStT (σ : St) (pn pr ph pl h nx : Nat) (G : Option Nat) (rows : List (List Tc)) (next : List Nat) (l : List (En Tc)) (turn : Nat) : Prop where
  pn_ : σ.res pn = some (.obj [.ref nx 0 next.length])
  nx_ : σ.res nx = some (.obj (next.map fun k => AV.int .i64 ((k : Nat) : Int)))
  pr_ : ∃ g, σ.res pr = some (.obj [.sl (rwAVT rows) g])
  ph_ : σ.res ph = some (.obj [.ptr h 0])
  hp : HpT σ h pl G l turn
  ne : nx ≠ pn ∧ nx ≠ pr ∧ nx ≠ ph ∧ nx ≠ pl ∧ nx ≠ h ∧ pn ≠ h ∧ pr ≠ h ∧ ph ≠ h
  neG : ∀ g, G = some g → g ≠ pn ∧ g ≠ nx ∧ g ≠ pr ∧ g ≠ ph

structure KFrT (σ σ' : St) (h nx : Nat) (G : Option Nat) : Prop where
  next : σ.next ≤ σ'.next
  old : ∀ n, n < σ.next → n ≠ h → n ≠ nx → (∀ g, G = some g → n ≠ g) → σ'.res n = σ.res n

theorem splice_nxT {next : List Nat} {r k : Nat} (h : r < next.length) : splice (next.map fun k => AV.int .i64 ((k : Nat) : Int)) r [.int .i64 ((k : Nat) : Int)] = (next.set r k).map fun k => AV.int .i64 ((k : Nat) : Int) := by
  unfold splice
  rw [List.set_eq_take_append_cons_drop, if_pos h]
  simp [List.map_take, List.map_drop]

set_option maxRecDepth 10000 in
theorem kpushT_ok {pn pr ph pl h nx : Nat} {G : Option Nat} {rows : List (List Tc)} {next : List Nat} {l : List (En Tc)} {turn r k : Nat} {row : List Tc} {σ : St} (K : KStT σ pn pr ph pl h nx G rows next l turn) (hh : HeapL keyT l)
    (h1 : rows[r]? = some row) (h2 : next[r]? = some k) (hrl : row.length ≤ 1000000) (hll : l.length ≤ 1000000) (htu : turn < 9223372036854775807) :
    ACalls Try.prog n_kpushT [.int .i64 (r : Int), .ptr pn 0, .ptr pr 0, .ptr ph 0] σ (fun v σ' => v = .tup [] ∧ ((row.length ≤ k ∧ σ' = σ) ∨
      ∃ (a : Tc) (e : En Tc) (l' : List (En Tc)) (G' : Option Nat), row[k]? = some a ∧ e.x = a ∧ e.row = r ∧ KStT σ' pn pr ph pl h nx G' rows (next.set r (k + 1)) l' (turn + 1) ∧ l'.Perm (l ++ [e]) ∧ HeapL keyT l' ∧ KFrT σ σ' h nx G ∧ ∀ g, G' = some g → σ.next ≤ g ∧ g < σ'.next)) := by
  refine s_kpushT (fun wf => ?_)
  unfold c_kpushT
  obtain ⟨gr, hpr⟩ := K.pr_
  have hpn := K.pn_
  have hnx := K.nx_
  have hph := K.ph_
  have hrn := (List.getElem?_eq_some_iff.1 h2).1
  have hrr := (List.getElem?_eq_some_iff.1 h1).1
  have hrrI : (r : Int) < ((rwAVT rows).length : Int) := by rw [rwT_len]; omega
  have hg1 : (next.map fun k => AV.int .i64 ((k : Nat) : Int))[r]? = some (.int .i64 (k : Int)) := by simp [h2]
  have hg2 := rwT_get h1
  have hrrS : r < (rwAVT rows).length := by rw [rwT_len]; exact hrr
  refine T.seq_k (fun K_hA hA => ?_)
  refine T.regi hm ?_
  simp only [↓reduceIte, namesOf, List.any, I.names, aopsI, astep, ev, setd, List.set, List.getD, List.getElem?_cons_zero, List.getElem?_cons_succ, List.cons_append, List.nil_append, List.length_cons, List.length_nil, List.replicate, then_normal, Option.getD_some, Bool.or_false, Bool.false_eq_true, up_zero, Nat.reduceAdd, Nat.reduceSub, binv, ↓opt_def, AV.cells, ldc, Int.natCast_nonneg, lt_len, Int.toNat_natCast, and_true, eq_self, hpn, hnx, hpr, hg1, hg2, hrn, hrrS, Nat.mul_one, Nat.zero_add, xsT_len]
  refine hA _ _ ?_
  try clear hA K_hA
  by_cases hk : k < row.length
  case neg =>
    refine T.cond (b := false) (by simp [ev]; omega) (fun h => by cases h) (fun _ => T.skip ?_)
    exact Fin.retn rfl ⟨rfl, .inl ⟨by omega, rfl⟩⟩
  refine T.cond (b := true) (by simp [ev]; omega) (fun _ => ?_) (fun h => by cases h)
  have hka : row[k]? = some row[k] := by simp [hk]
  generalize row[k] = a at hka
  have hg3 := xsT_get hka
  have hkS : k < (xsAVT row).length := by rw [xsT_len]; exact hk
  refine T.seq_k (fun K_hA hA => ?_)
  refine T.regt hm (tbl := []) Tbl.ok_nil ?_
  have hpush := hpushT_ok (e := ⟨a, r, turn + 1⟩) K.hp hh rfl htu hll
  refine aopsT_cut 14 (fun K_c h_c => ?_)
  try simp only [↓reduceIte, namesOf, List.any, I.names, aopsT, qstep, CPt, Tbl.get, astep, ev, setd, List.set, List.getD, List.getElem?_cons_zero, List.getElem?_cons_succ, List.cons_append, List.nil_append, List.length_cons, List.length_nil, Option.getD_some, Bool.or_false, Bool.false_eq_true, up_zero, Nat.reduceAdd, ↓opt_def, AV.isAny, AV.cells, ldc, List.map_cons, List.map_nil, Int.natCast_nonneg, lt_len, Int.toNat_natCast, and_true, eq_self, List.take_succ_cons, hpn, hnx, hpr, hph, hg1, hg2, hg3, hrn, hrrS, hkS, Nat.mul_one, Nat.zero_add, fillA, ↓Option.map_some, AV.fits, AV.one, List.all_cons, List.all_nil, Nat.reduceBEq, Bool.not_false, Bool.and_self, Nat.zero_add, splice, List.take, List.drop, Nat.reduceLeDiff]
  refine hpush.mono ?_
  rintro v σ1 ⟨rfl, G', l', H1, hperm, hh1, hf, hG'⟩
  refine h_c _ _ ?_
  clear h_c K_c
  simp only [List.drop_succ_cons, List.drop_zero, Nat.zero_add]
  try simp only [aopsT, then_normal]
  refine hA _ _ ?_
  try clear hA K_hA
  obtain ⟨n1, n2, n3, n4, n5, n6, n7, n8⟩ := K.ne
  have hkeep : ∀ {n : Nat} {x : Res}, σ.res n = some x → n ≠ h → (∀ g, G = some g → n ≠ g) → σ1.res n = some x := fun hx a b => by rw [hf.old _ (wf.lt hx) a b]; exact hx
  have hpn1 := hkeep hpn n6 (fun g e => Ne.symm (K.neG g e).1)
  have hnx1 := hkeep hnx n5 (fun g e => Ne.symm (K.neG g e).2.1)
  have hpr1 := hkeep hpr n7 (fun g e => Ne.symm (K.neG g e).2.2.1)
  have hph1 := hkeep hph n8 (fun g e => Ne.symm (K.neG g e).2.2.2)
  have hw : IntKind.i64.wrap ((k : Int) + 1) = ((k + 1 : Nat) : Int) := inc64' hk (by omega)
  have hsp := splice_nxT (k := k + 1) hrn
  have hl1 : r + 1 ≤ (next.map fun k => AV.int .i64 ((k : Nat) : Int)).length := by rw [List.length_map]; exact hrn
  refine T.regi hm ?_
  simp only [↓reduceIte, namesOf, List.any, I.names, aopsI, astep, ev, setd, List.set, List.getD, List.getElem?_cons_zero, List.getElem?_cons_succ, List.length_cons, List.length_nil, Option.getD_some, Bool.or_false, Bool.false_eq_true, up_zero, binv, ↓opt_def, AV.isAny, AV.cells, ldc, Int.natCast_nonneg, lt_len, Int.toNat_natCast, and_true, eq_self, decide_true, hpn1, hnx1, hg1, hrn, hw, hsp, hl1, Nat.mul_one, Nat.zero_add, AV.fits, AV.one, List.all_cons, List.all_nil, Nat.reduceBEq, Bool.not_false, Bool.and_self, decide_true]
  have hGn : ∀ g, G' = some g → g ≠ pn ∧ g ≠ nx ∧ g ≠ pr ∧ g ≠ ph := fun g e => by
    have := (hG' g e).1
    have b1 := wf.lt hpn
    have b2 := wf.lt hnx
    have b3 := wf.lt hpr
    have b4 := wf.lt hph
    refine ⟨?_, ?_, ?_, ?_⟩ <;> omega
  refine Fin.retn rfl ⟨rfl, .inr ⟨a, ⟨a, r, turn + 1⟩, l', G', hka, rfl, rfl, ⟨?_, St.set_same _ _ _, ⟨gr, ?_⟩, ?_, ?_, K.ne, hGn⟩, hperm, hh1, ⟨hf.next, fun n a b c d => ?_⟩, hG'⟩⟩
  · rw [St.set_other _ _ (Ne.symm n1), List.length_set]; exact hpn1
  · rw [St.set_other _ _ (Ne.symm n2)]; exact hpr1
  · rw [St.set_other _ _ (Ne.symm n3)]; exact hph1
  · refine ⟨?_, ?_, H1.no, fun nm e => ?_, H1.ne⟩
    · rw [St.set_other _ _ (Ne.symm n5)]; exact H1.obj
    · rw [St.set_other _ _ (Ne.symm n4)]; exact H1.less
    · obtain ⟨g1, cs, g2, g3⟩ := H1.row nm e
      exact ⟨g1, cs, by rw [St.set_other _ _ (hGn nm e).2.1]; exact g2, g3⟩
  · rw [St.set_other _ _ c]; exact hf.old n a b d

theorem HpT.same {σ t : St} {h pl : Nat} {G : Option Nat} {l : List (En Tc)} {turn : Nat} (H : HpT σ h pl G l turn) (hs : ∀ n, (n = pl ∨ n = h ∨ G = some n) → t.res n = σ.res n) : HpT t h pl G l turn :=
  ⟨by rw [hs h (by simp)]; exact H.obj, by rw [hs pl (by simp)]; exact H.less, H.no, fun nm e => by
    obtain ⟨g1, cs, g2, g3⟩ := H.row nm e
    exact ⟨g1, cs, by rw [hs nm (by simp [e])]; exact g2, g3⟩, H.ne⟩

theorem KStT.same {σ t : St} {pn pr ph pl h nx : Nat} {G : Option Nat} {rows : List (List Tc)} {next : List Nat} {l : List (En Tc)} {turn : Nat} (K : KStT σ pn pr ph pl h nx G rows next l turn)
    (hs : ∀ n, (n = pn ∨ n = nx ∨ n = pr ∨ n = ph ∨ n = pl ∨ n = h ∨ G = some n) → t.res n = σ.res n) : KStT t pn pr ph pl h nx G rows next l turn :=
  ⟨by rw [hs pn (by simp)]; exact K.pn_, by rw [hs nx (by simp)]; exact K.nx_, by rw [hs pr (by simp)]; exact K.pr_, by rw [hs ph (by simp)]; exact K.ph_,
    K.hp.same fun n hn => hs n (by rcases hn with h | h | h <;> simp [h]), K.ne, K.neG⟩

/-- after a change of the heap alone -/
theorem KStT.heap {σ t : St} {pn pr ph pl h nx : Nat} {G : Option Nat} {rows : List (List Tc)} {next : List Nat} {l l' : List (En Tc)} {turn : Nat} (K : KStT σ pn pr ph pl h nx G rows next l turn)
    (H : HpT t h pl G l' turn) (hf : HFrT σ t h G) (hlt : pn < σ.next ∧ nx < σ.next ∧ pr < σ.next ∧ ph < σ.next) : KStT t pn pr ph pl h nx G rows next l' turn := by
  obtain ⟨n1, n2, n3, n4, n5, n6, n7, n8⟩ := K.ne
  obtain ⟨b1, b2, b3, b4⟩ := hlt
  have hk : ∀ n, n < σ.next → n ≠ h → (∀ g, G = some g → n ≠ g) → t.res n = σ.res n := fun n a b c => hf.old n a b c
  exact ⟨by rw [hk pn b1 n6 (fun g e => Ne.symm (K.neG g e).1)]; exact K.pn_, by rw [hk nx b2 n5 (fun g e => Ne.symm (K.neG g e).2.1)]; exact K.nx_, by rw [hk pr b3 n7 (fun g e => Ne.symm (K.neG g e).2.2.1)]; exact K.pr_,
    by rw [hk ph b4 n8 (fun g e => Ne.symm (K.neG g e).2.2.2)]; exact K.ph_, H, K.ne, K.neG⟩

/-- where the names stand -/
structure KNmT (σ t : St) (pn pr ph pl h nx : Nat) (G : Option Nat) : Prop where
  lo : σ.next ≤ h ∧ σ.next ≤ nx ∧ ∀ g, G = some g → σ.next ≤ g
  hi : pn < t.next ∧ pr < t.next ∧ ph < t.next ∧ pl < t.next ∧ h < t.next ∧ nx < t.next ∧ ∀ g, G = some g → g < t.next
  like : Like σ t

theorem KNmT.up {σ t t' : St} {pn pr ph pl h nx : Nat} {G : Option Nat} (N : KNmT σ t pn pr ph pl h nx G) (hl : Like t t') : KNmT σ t' pn pr ph pl h nx G := by
  obtain ⟨a1, a2, a3, a4, a5, a6, a7⟩ := N.hi
  have := hl.next
  exact ⟨N.lo, ⟨by omega, by omega, by omega, by omega, by omega, by omega, fun g e => by have := a7 g e; omega⟩, N.like.trans hl⟩

theorem KNmT.step {σ t t' : St} {pn pr ph pl h nx : Nat} {G G' : Option Nat} (N : KNmT σ t pn pr ph pl h nx G) (hf : KFrT t t' h nx G) (hG : ∀ g, G' = some g → (G = some g ∨ t.next ≤ g) ∧ g < t'.next) : KNmT σ t' pn pr ph pl h nx G' := by
  obtain ⟨a1, a2, a3, a4, a5, a6, a7⟩ := N.hi
  obtain ⟨b1, b2, b3⟩ := N.lo
  have h0 := hf.next
  have h1 := N.like.next
  refine ⟨⟨b1, b2, fun g e => ?_⟩, ⟨by omega, by omega, by omega, by omega, by omega, by omega, fun g e => (hG g e).2⟩, ⟨by omega, fun n hn => ?_⟩⟩
  · rcases (hG g e).1 with h | h
    · exact b3 g h
    · omega
  · rw [hf.old n (by omega) (by omega) (by omega) (fun g e => by have := b3 g e; omega)]
    exact N.like.same n hn

set_option maxRecDepth 10000 in
set_option maxHeartbeats 2000000 in
theorem ksortT_ok {rows : List (List Tc)} {g : Ver} {σ : St} (hr : ∀ row ∈ rows, Rising keyT row) (hrn : rows.length ≤ 1000) (hrl : ∀ row ∈ rows, row.length ≤ 1000000) (htot : (rows.map List.length).sum ≤ 900000) :
    ACalls Try.prog n_ksortT [.sl (rwAVT rows) g, .func n_kmerge1 [] []] σ (fun v σ' => ∃ ps, KOut keyT rows ps ∧ v = .sl (xsAVT (outP rows ps)) .none ∧ σ' = σ) := by
  refine s_ksortT (fun wf => ?_)
  unfold c_ksortT
  refine T.seq_k (fun K_h1 h1 => ?_)
  refine T.regi hm ?_
  simp only [↓reduceIte, namesOf, List.any, I.names, aopsI, astep, ev, setd, List.set, List.getD, List.getElem?_cons_zero, List.getElem?_cons_succ, List.cons_append, List.nil_append, List.length_cons, List.length_nil, List.replicate, then_normal, Option.getD_some, Bool.or_false, Bool.or_true, Bool.false_eq_true, Nat.reduceAdd, Nat.reduceSub, AV.isAny, AV.cells, eq_self]
  obtain ⟨hpr, hpl, _⟩ := box2 wf 3 (.obj [.sl (rwAVT rows) g]) (.obj [.func n_kmerge1 [] []])
  have hL1 : Like σ (((σ.up 3).set (σ.next + 0) (.obj [.sl (rwAVT rows) g])).set (σ.next + 1) (.obj [.func n_kmerge1 [] []])) := ((Like.refl σ).box (n := 3) (i := 0) _).set _ (by omega)
  have hb1 : σ.next + 1 < (((σ.up 3).set (σ.next + 0) (.obj [.sl (rwAVT rows) g])).set (σ.next + 1) (.obj [.func n_kmerge1 [] []])).next := by simp
  have hb0 : σ.next ≤ σ.next + 0 := by omega
  have hb2 : σ.next + 0 < σ.next + 1 := by omega
  generalize (((σ.up 3).set (σ.next + 0) (.obj [.sl (rwAVT rows) g])).set (σ.next + 1) (.obj [.func n_kmerge1 [] []])) = σ1 at hpr hpl hL1 hb1 ⊢
  generalize σ.next + 0 = pr at hpr hb0 hb2 ⊢
  generalize σ.next + 1 = pl at hpl hb1 hb2 ⊢
  refine h1 _ _ ?_
  try clear h1 K_h1
  refine T.seq_k (fun K_h1 h1 => ?_)
  refine T.regt hm (tbl := []) Tbl.ok_nil ?_
  refine aopsT_cut 2 (fun K_c h_c => ?_)
  try simp only [↓reduceIte, namesOf, List.any, I.names, aopsT, qstep, CPt, Tbl.get, astep, ev, setd, List.set, List.getD, List.getElem?_cons_zero, List.getElem?_cons_succ, List.length_cons, List.length_nil, Option.getD_some, Bool.or_false, Bool.or_true, Nat.reduceAdd, List.map_cons, List.map_nil, eq_self, List.take_succ_cons, List.take_zero]
  refine (hnewT_ok ⟨_, _, _, rfl⟩).mono ?_
  rintro v σ2 ⟨h, rfl, hh1, hh2, hho, hL2⟩
  refine h_c _ _ ?_
  clear h_c K_c
  simp only [List.drop_succ_cons, List.drop_zero, Nat.zero_add]
  simp only [St.up_next] at hh1
  have hL2' : Like σ1 σ2 := ⟨Nat.le_trans (Nat.le_add_right _ _) hL2.next, fun n hn => hL2.same n (by simp; omega)⟩
  try simp only [↓reduceIte, aopsT, qstep, astep, ev, setd, List.set, List.getD, List.getElem?_cons_zero, List.getElem?_cons_succ, List.cons_append, List.nil_append, List.length_cons, List.length_nil, then_normal, Option.getD_some, AV.isAny, AV.cells, St.set_same, eq_self, decide_true, AV.fits, AV.one, List.all_cons, List.all_nil, Nat.reduceBEq, Bool.not_false, Bool.and_self, Nat.zero_add, splice, List.take, List.drop, Nat.reduceLeDiff, St.set_set]
  have hph : (σ2.set (σ1.next + 2) (.obj [.ptr h 0])).res (σ1.next + 2) = some (.obj [.ptr h 0]) := St.set_same _ _ _
  have hho3 : (σ2.set (σ1.next + 2) (.obj [.ptr h 0])).res h = _ := (St.set_other _ _ (by omega)).trans hho
  have hL3 : Like σ1 (σ2.set (σ1.next + 2) (.obj [.ptr h 0])) := hL2'.set _ (by omega)
  have hn3 : h < (σ2.set (σ1.next + 2) (.obj [.ptr h 0])).next := hh2
  have hq1 : σ1.next + 2 < h := by omega
  have hq0 : σ1.next ≤ σ1.next + 2 := by omega
  generalize (σ2.set (σ1.next + 2) (.obj [.ptr h 0])) = σ3 at hph hho3 hL3 hn3 ⊢
  generalize σ1.next + 2 = ph at hph hq1 hq0 ⊢
  clear hho hL2 hL2' hh2 hh1 σ2
  have hpr3 := hL3.get (by omega) hpr
  have hpl3 := hL3.get hb1 hpl
  refine h1 _ _ ?_
  try clear h1 K_h1
  refine T.seq_k (fun K_h1 h1 => ?_)
  have hpr4 : ∀ k, (σ3.up k).res pr = some (.obj [.sl (rwAVT rows) g]) := fun _ => hpr3
  have hm1 : (rows.length : Int) * ((8 : Nat) : Int) ≤ 140737488355328 := by omega
  have hm2 : (rows.length : Int) ≤ 9223372036854775807 := by omega
  have hpr5 : ∀ r, ((σ3.up 5).set (σ3.next + 2) r).res pr = some (.obj [.sl (rwAVT rows) g]) := fun r => by
    have := hL3.next
    rw [St.set_other _ _ (by omega)]; exact hpr3
  refine T.regi hm ?_
  simp only [↓reduceIte, namesOf, List.any, I.names, aopsI, astep, ev, setd, List.set, List.getD, List.getElem?_cons_zero, List.getElem?_cons_succ, List.cons_append, List.nil_append, List.length_cons, List.length_nil, then_normal, Option.getD_some, Bool.or_false, Bool.or_true, Nat.reduceAdd, ↓opt_def, AV.isAny, AV.cells, ldc, St.set_same, Int.natCast_nonneg, Int.toNat_natCast, eq_self, decide_true, hpr4, rwT_len, hm1, hm2, Int.le_refl, held, AV.fits, AV.one, List.all_cons, List.all_nil, Bool.not_false, Bool.and_self, and_self, List.length_replicate, beq_self_eq_true, Nat.zero_add, splice, List.take, List.drop, Nat.reduceLeDiff, St.set_set]
  have hfm : (List.replicate rows.length (AV.int .i64 0)).flatMap AV.cells = (List.replicate rows.length 0).map fun k => AV.int .i64 ((k : Nat) : Int) := by
    generalize rows.length = n
    induction n with
    | zero => rfl
    | succ n ih => simp only [List.replicate_succ, List.flatMap_cons, ih, List.map_cons]; rfl
  rw [hfm]
  have hL13 := hL1.trans hL3
  have hn13 := hL3.next
  -- all is laid
  have K0 : KStT (((σ3.up 5).set (σ3.next + 2) (.obj ((List.replicate rows.length 0).map fun k => AV.int .i64 ((k : Nat) : Int)))).set (σ3.next + 3) (.obj [.ref (σ3.next + 2) 0 rows.length])) (σ3.next + 3) pr ph pl h (σ3.next + 2) none rows (List.replicate rows.length 0) [] 0 := by
    refine ⟨?_, ?_, ⟨g, ?_⟩, ?_, ⟨?_, ?_, fun _ => rfl, fun nm e => (by cases e), by omega⟩, ⟨by omega, by omega, by omega, by omega, by omega, by omega, by omega, by omega⟩, fun g e => (by cases e)⟩
    · rw [St.set_same, List.length_replicate]
    · rw [St.set_other _ _ (by omega), St.set_same]
    · rw [St.set_other _ _ (by omega), St.set_other _ _ (by omega)]; exact hpr3
    · rw [St.set_other _ _ (by omega), St.set_other _ _ (by omega)]; exact hph
    · rw [St.set_other _ _ (by omega), St.set_other _ _ (by omega)]; exact hho3
    · rw [St.set_other _ _ (by omega), St.set_other _ _ (by omega)]; exact hpl3
  have N0 : KNmT σ (((σ3.up 5).set (σ3.next + 2) (.obj ((List.replicate rows.length 0).map fun k => AV.int .i64 ((k : Nat) : Int)))).set (σ3.next + 3) (.obj [.ref (σ3.next + 2) 0 rows.length])) (σ3.next + 3) pr ph pl h (σ3.next + 2) none := by
    have := hL1.next
    refine ⟨⟨by omega, by omega, fun g e => (by cases e)⟩, ⟨by simp, by simp; omega, by simp; omega, by simp; omega, by simp; omega, by simp, fun g e => (by cases e)⟩, ((hL13.up 5).set _ (by omega)).set _ (by omega)⟩
  generalize (((σ3.up 5).set (σ3.next + 2) (.obj ((List.replicate rows.length 0).map fun k => AV.int .i64 ((k : Nat) : Int)))).set (σ3.next + 3) (.obj [.ref (σ3.next + 2) 0 rows.length])) = σ4 at K0 N0 ⊢
  generalize σ3.next + 2 = nx at K0 N0 ⊢
  generalize σ3.next + 3 = pn at K0 N0 ⊢
  clear hpr hpl hL1 hb1 hb0 hb2 hph hho3 hL3 hn3 hq1 hq0 hpr3 hpl3 hpr4 hm1 hm2 hpr5 hfm hL13 hn13 σ1 σ3
  refine h1 _ _ ?_
  try clear h1 K_h1
  refine T.seq_k (fun K_h0 h0 => ?_)
  refine T.regi hm ?_
  simp only [↓reduceIte, namesOf, List.any, I.names, aopsI, astep, ev, setd, List.set, List.getD, List.getElem?_cons_zero, List.getElem?_cons_succ, then_normal, Option.getD_some, Bool.or_false, Bool.false_eq_true, up_zero, List.map_cons, List.map_nil]
  refine h0 _ _ ?_
  try clear h0 K_h0
  refine T.seq_k (fun K_h1 h1 => ?_)
  have hpr6 := K0.pr_
  obtain ⟨g6, hpr6⟩ := hpr6
  refine T.seq_k (fun K_h0 h0 => ?_)
  refine T.regi hm ?_
  simp only [↓reduceIte, namesOf, List.any, I.names, aopsI, astep, ev, setd, List.set, List.getD, List.getElem?_cons_zero, List.getElem?_cons_succ, then_normal, Option.getD_some, Bool.or_false, Bool.false_eq_true, up_zero, ↓opt_def, ldc, hpr6, rwT_len]
  refine h0 _ _ ?_
  try clear h0 K_h0
  refine T.block ?_
  refine T.gh (Gh.keep [5, 7, 19, 20]) ?_
  refine T.loopi (fun i ρ t => ∃ (next : List Nat) (l : List (En Tc)) (G : Option Nat) (turn : Nat), KStT t pn pr ph pl h nx G rows next l turn ∧ HeapL keyT l ∧ Fronts0 rows i l ∧ next.length = rows.length ∧
      (∀ (j : Nat) (row : List Tc), rows[j]? = some row → next[j]? = some (if j < i then min 1 row.length else 0)) ∧ KNmT σ t pn pr ph pl h nx G ∧ l.length ≤ turn ∧ turn ≤ i ∧
      ρ = [.any, .any, .any, .any, .any, .ptr ph 0, .any, .func n_kpushT [] [.ptr pn 0, .ptr pr 0, .ptr ph 0], .any, .any, .any, .any, .any, .any, .any, .any, .any, .any, .any, .int .i64 (rows.length : Int), .int .i64 (i : Int)] ++ List.replicate 23 .any)
    rows.length 0 (Nat.zero_le _) ⟨_, [], none, 0, K0, .nil, .start, by simp, fun j row hj => ?_, N0, Nat.le_refl _, Nat.le_refl _, rfl⟩ ?_
  · have := (List.getElem?_eq_some_iff.1 hj).1
    simp [this]
  · clear K0 N0 hpr6
    rintro i ρ t hi ⟨next, l, G, turn, K, hh, F0, hnl, hnx, N, hlt, hti, rfl⟩
    refine T.seq_k (fun K_h0 h0 => ?_)
    refine T.regi hm ?_
    simp only [↓reduceIte, namesOf, List.any, I.names, aopsI, astep, ev, setd, List.set, List.getD, List.getElem?_cons_zero, List.getElem?_cons_succ, List.cons_append, List.nil_append, List.replicate, then_normal, Option.getD_some, Bool.or_false, Bool.false_eq_true, up_zero, binv, ↓opt_def, lt_len, eq_self]
    refine h0 _ _ ?_
    try clear h0 K_h0
    refine T.seq_k (fun K_h2 h2 => ?_)
    by_cases hil : i < rows.length
    case neg =>
      refine T.cond (b := false) (by simp [ev]; omega) (fun h => by cases h) (fun _ => T.exit ?_)
      have hie : i = rows.length := by omega
      subst hie
      have hFr : Fronts keyT rows (List.replicate rows.length 0) l := F0.done
      have hNx : NxOk rows (List.replicate rows.length 0) next := fun j row k h1 h2 => by
        rw [rep_get h2, hnx j row h1, if_pos (List.getElem?_eq_some_iff.1 h1).1]
      have hTk : Taken keyT rows (List.replicate rows.length 0) [] := Taken.start (fun i k hk => rep_get hk)
      try simp only [List.cons_append, List.nil_append, List.replicate, then_normal, inBlock_exit, then_exit]
      refine h1 _ _ ?_
      try clear h1 K_h1
      refine T.seq_k (fun K_h0 h0 => ?_)
      refine T.regi hm ?_
      simp only [↓reduceIte, namesOf, List.any, I.names, aopsI, astep, ev, setd, List.set, then_normal, Bool.or_false, Bool.false_eq_true, up_zero]
      refine h0 _ _ ?_
      try clear h0 K_h0
      refine T.gh (Gh.keep [5, 7, 9]) ?_
      refine T.block ?_
      refine T.loopi (fun i ρ t => ∃ (c next : List Nat) (l : List (En Tc)) (G Gx : Option Nat) (turn : Nat) (ps : List (Nat × Nat)) (x : AV), (ps.length = i ∧ KStT t pn pr ph pl h nx G rows next l turn ∧ HeapL keyT l ∧ Fronts keyT rows c l ∧ Taken keyT rows c ps ∧ next.length = rows.length ∧
          NxOk rows c next ∧ KNmT σ t pn pr ph pl h nx G ∧ AccG σ t 2 (xsAVT (outP rows ps)) x Gx ∧ (∀ g, Gx = some g → (g ≠ pn ∧ g ≠ nx ∧ g ≠ pr ∧ g ≠ ph ∧ g ≠ pl ∧ g ≠ h) ∧ G ≠ some g) ∧ l.length ≤ turn ∧ turn ≤ rows.length + i) ∧
          ρ = [.any, .any, .any, .any, .any, .ptr ph 0, .any, .func n_kpushT [] [.ptr pn 0, .ptr pr 0, .ptr ph 0], .any, x] ++ List.replicate 34 .any)
        (rows.map List.length).sum 0 (Nat.zero_le _) ⟨_, next, l, G, none, turn, [], _, ⟨rfl, K, hh, hFr, hTk, hnl, hNx, N, .nil N.like, fun g e => (by cases e), hlt, by omega⟩, rfl⟩ ?_
      clear K hh F0 hnl hnx N hlt hti hFr hNx hTk
      rintro i ρ t hi ⟨c, next, l, G, Gx, turn, ps, x, ⟨hps, K, hh, hFr, hTk, hnl, hNx, N, hA, hsep, hlt, hti⟩, rfl⟩
      obtain ⟨b1, b2, b3, b4, b5, b6, b7⟩ := N.hi
      have hAlt := hA.lt
      have hnt := N.like.next
      have hph := K.ph_
      have K1 : KStT (t.up 8) pn pr ph pl h nx G rows next l turn := K.same fun n _ => rfl
      have N1 : KNmT σ (t.up 8) pn pr ph pl h nx G := N.up ((Like.refl t).up 8)
      refine T.block ?_
      refine T.seq_k (fun K_h2 h2 => ?_)
      refine T.regt hm (tbl := []) Tbl.ok_nil ?_
      refine aopsT_cut 2 (fun K_c h_c => ?_)
      try simp only [↓reduceIte, namesOf, List.any, I.names, aopsT, qstep, CPt, Tbl.get, astep, ev, setd, List.set, List.getD, List.getElem?_cons_zero, List.getElem?_cons_succ, List.cons_append, List.nil_append, List.length_cons, List.length_nil, List.replicate, Option.getD_some, Bool.or_false, Bool.or_true, Nat.reduceAdd, ↓opt_def, ldc, List.map_cons, List.map_nil, eq_self, List.take_succ_cons, List.take_zero, hph, St.up_res]
      cases l with
      | nil =>
        refine (hpopT_nil K1.hp).mono ?_
        rintro v τ ⟨rfl, rfl⟩
        refine h_c _ _ ?_
        clear h_c K_c
        simp only [List.drop_succ_cons, List.drop_zero, Nat.zero_add]
        try simp only [↓reduceIte, aopsT, qstep, astep, ev, setd, List.set, List.getD, List.getElem?_cons_zero, List.getElem?_cons_succ, List.cons_append, List.nil_append, List.length_cons, List.length_nil, List.replicate, then_normal, Option.getD_some, Nat.reduceAdd, ↓opt_def, AV.isAny, AV.cells, St.set_same, eq_self, decide_true, AV.fits, AV.one, List.all_cons, List.all_nil, Nat.reduceBEq, Bool.not_false, Bool.and_self, Nat.zero_add, splice, List.take, List.drop, Nat.reduceLeDiff, St.set_set]
        refine h2 _ _ ?_
        try clear h2 K_h2
        refine T.seq_k (fun K_h2 h2 => ?_)
        refine T.seq_k (fun K_h0 h0 => ?_)
        refine T.regi hm ?_
        simp only [↓reduceIte, namesOf, List.any, I.names, aopsI, astep, ev, setd, List.set, List.getD, List.getElem?_cons_zero, List.getElem?_cons_succ, List.cons_append, List.nil_append, List.replicate, then_normal, Option.getD_some, Bool.or_false, Bool.false_eq_true, up_zero]
        refine h0 _ _ ?_
        try clear h0 K_h0
        refine T.cond rfl (fun _ => ?_) (fun h => by cases h)
        refine T.seq_k (fun K_h0 h0 => ?_)
        refine T.regi hm ?_
        simp only [↓reduceIte, namesOf, List.any, I.names, aopsI, astep, ev, setd, List.set, List.getD, List.getElem?_cons_zero, List.getElem?_cons_succ, List.cons_append, List.nil_append, List.replicate, then_normal, Option.getD_some, Bool.or_false, Bool.false_eq_true, up_zero]
        refine h0 _ _ ?_
        try clear h0 K_h0
        have hA2 := hA.box (n := 8) (i := 5) (by omega) (.obj [.int .u64 0, .sl [] .nil, .int .i64 0])
        exact T.ret (Fin.quietw rfl hA2.wk ⟨xsT_nb _ _, trivial⟩ (hA2.quiet wf) ⟨ps, hTk.done hFr, rfl, rfl⟩)
      | cons e r =>
        have hll' : (e :: r).length ≤ 1000000 := by omega
        refine (hpopT_ok K1.hp hh hll').mono ?_
        rintro v τ ⟨rfl, l', P⟩
        refine h_c _ _ ?_
        clear h_c K_c
        simp only [List.drop_succ_cons, List.drop_zero, Nat.zero_add]
        try simp only [↓reduceIte, aopsT, qstep, astep, ev, setd, List.set, List.getD, List.getElem?_cons_zero, List.getElem?_cons_succ, List.cons_append, List.nil_append, List.length_cons, List.length_nil, List.replicate, then_normal, Option.getD_some, Nat.reduceAdd, ↓opt_def, AV.isAny, AV.cells, St.set_same, eq_self, decide_true, AV.fits, AV.one, List.all_cons, List.all_nil, Nat.reduceBEq, Bool.not_false, Bool.and_self, Nat.zero_add, splice, List.take, List.drop, Nat.reduceLeDiff, St.set_set]
        obtain ⟨row, k, q1, q2, q3, hTk', hF1, hlt2⟩ := hTk.step (hFr.perm P.perm) hr (fun e' he' => by
          obtain ⟨j, hj⟩ := List.getElem?_of_mem (P.perm.mem_iff.1 he')
          exact hh.least (a := e) rfl j e' hj)
        have hk := (List.getElem?_eq_some_iff.1 q3).1
        have hrr := hrl row (List.mem_of_getElem? q1)
        have hnk : next[e.row]? = some (k + 1) := by rw [hNx e.row row k q1 q2]; congr 1; omega
        have hlen2 : l'.length + 1 = (e :: r).length := by rw [← P.perm.length_eq]; rfl
        have hph' := P.heap
        have hpf := P.fr
        have hpn := hpf.next
        simp only [St.up_next] at hpn
        have hq : (τ.set (t.next + 5) (.obj (fCT e))).res (t.next + 5) = some (.obj (fCT e)) := St.set_same _ _ _
        have hKF : KFrT t (τ.set (t.next + 5) (.obj (fCT e))) h nx G := ⟨by simp; omega, fun n a1 a2 a3 a4 => by
          rw [St.set_other _ _ (by omega), hpf.old n (by simp; omega) a2 a4]; rfl⟩
        have K2 : KStT (τ.set (t.next + 5) (.obj (fCT e))) pn pr ph pl h nx G rows next l' turn :=
          (K1.heap P.hp P.fr ⟨by simp; omega, by simp; omega, by simp; omega, by simp; omega⟩).same fun n hn => by
            rw [St.set_other _ _ ?_]
            rcases hn with rfl | rfl | rfl | rfl | rfl | rfl | hn
            · omega
            · omega
            · omega
            · omega
            · omega
            · omega
            · have := b7 n hn; omega
        have N2 : KNmT σ (τ.set (t.next + 5) (.obj (fCT e))) pn pr ph pl h nx G := N.step hKF (fun g e => ⟨.inl e, by have := b7 g e; simp; omega⟩)
        have hA2 : AccG σ (τ.set (t.next + 5) (.obj (fCT e))) 2 (xsAVT (outP rows ps)) x Gx := hA.keep (by simp; omega) (fun m hm => by
            have := N.lo
            exact hKF.old m (by omega) (by omega) (by omega) (fun g e => by have := N.lo.2.2 g e; omega)) (fun g e => by
            obtain ⟨⟨s1, s2, s3, s4, s5, s6⟩, s7⟩ := hsep g e
            exact hKF.old g (hAlt g e).2 s6 s2 (fun g' e' h' => s7 (by rw [h']; exact e')))
        have hsep2 := hsep
        have hql : t.next + 5 < (τ.set (t.next + 5) (.obj (fCT e))).next := by simp; omega
        have hqg : ∀ g, Gx = some g → t.next + 5 ≠ g := fun g e => by have := (hAlt g e).2; omega
        generalize (τ.set (t.next + 5) (.obj (fCT e))) = τ1 at hq hKF K2 N2 hA2 hql ⊢
        generalize t.next + 5 = q at hq hql hqg ⊢
        clear K1 N1 hpf hpn P hh hA hKF b1 b2 b3 b4 b5 b6 b7 hAlt
        obtain ⟨b1, b2, b3, b4, b5, b6, b7⟩ := N2.hi
        refine h2 _ _ ?_
        try clear h2 K_h2
        refine T.seq_k (fun K_h2 h2 => ?_)
        refine T.seq_k (fun K_h0 h0 => ?_)
        refine T.regi hm ?_
        simp only [↓reduceIte, namesOf, List.any, I.names, aopsI, astep, ev, setd, List.set, List.getD, List.getElem?_cons_zero, List.getElem?_cons_succ, List.cons_append, List.nil_append, List.replicate, then_normal, Option.getD_some, Bool.or_false, Bool.false_eq_true, up_zero]
        refine h0 _ _ ?_
        try clear h0 K_h0
        refine T.cond rfl (fun h => by cases h) (fun _ => T.skip ?_)
        refine h2 _ _ ?_
        try clear h2 K_h2
        refine T.seq_k (fun K_h2 h2 => ?_)
        have hqu : ∀ n, (τ1.up n).res q = some (.obj (fCT e)) := fun _ => hq
        refine T.regt hm (tbl := []) Tbl.ok_nil ?_
        refine aopsT_cut 4 (fun K_c h_c => ?_)
        simp only [List.take_succ_cons, List.take_zero]
        try simp only [↓reduceIte, namesOf, List.any, I.names, aopsT, qstep, astep, ev, setd, List.set, List.getD, List.getElem?_cons_zero, List.getElem?_cons_succ, List.length_cons, List.length_nil, Option.getD_some, Bool.or_false, Bool.or_true, Nat.reduceAdd, ↓opt_def, AV.isAny, AV.cells, ldc, List.map_cons, List.map_nil, eq_self, hqu, held, AV.er, AV.er1, AV.fits, AV.one, List.all_cons, List.all_nil, Nat.reduceBEq, Bool.not_false, Bool.and_self, Nat.zero_add, List.take, List.drop, Nat.reduceLeDiff]
        refine h_c _ _ ?_
        clear h_c K_c
        simp only [List.drop_succ_cons, List.drop_zero, Nat.zero_add]
        have hol := outP_le (rows := rows) ps
        refine aopsT_acc (hA2.up 6) (by have := hA2.like.next; omega) (by simp) rfl (ys := [.agg [.int .u64 (e.x.id : Int), .sl (spsAV e.x.sp) .none]]) ?_ ?_ ?_ (fun x' t' G' hA3 hnx3 hGn hoth _ => ?_)
        · rfl
        · exact xsT_fits (outP rows ps ++ [e.x]) ▸ by simp [xsAVT]
        · have hss : [AV.agg [.int .u64 (e.x.id : Int), .sl (spsAV e.x.sp) .none]].length = 1 := rfl
          rw [xsT_len, hss]; omega
        try simp only [aopsT, qstep, astep, ev, setd, List.set, List.getD, List.getElem?_cons_zero, List.getElem?_cons_succ, List.cons_append, List.nil_append, List.replicate, then_normal, Option.getD_some, ]
        refine h2 _ _ ?_
        try clear h2 K_h2
        simp only [St.up_next] at hnx3
        have hsame : ∀ n, n < τ1.next → (∀ g, Gx = some g → n ≠ g) → t'.res n = τ1.res n := fun n a1 a2 => (hoth n (by omega) a2).trans rfl
        have K3 : KStT t' pn pr ph pl h nx G rows next l' turn := K2.same fun n hn => by
          refine hsame n ?_ (fun g e => ?_)
          · rcases hn with rfl | rfl | rfl | rfl | rfl | rfl | hn
            · omega
            · omega
            · omega
            · omega
            · omega
            · omega
            · exact b7 n hn
          · obtain ⟨⟨s1, s2, s3, s4, s5, s6⟩, s7⟩ := hsep g e
            rcases hn with rfl | rfl | rfl | rfl | rfl | rfl | hn
            · exact Ne.symm s1
            · exact Ne.symm s2
            · exact Ne.symm s3
            · exact Ne.symm s4
            · exact Ne.symm s5
            · exact Ne.symm s6
            · exact fun h' => s7 (by rw [← h']; exact hn)
        have hq3 : t'.res q = some (.obj (fCT e)) := (hsame q hql hqg).trans hq
        have N3 : KNmT σ t' pn pr ph pl h nx G := ⟨N2.lo, ⟨by omega, by omega, by omega, by omega, by omega, by omega, fun g e => by have := b7 g e; omega⟩, hA3.like⟩
        have hxs : xsAVT (outP rows ps) ++ [.agg [.int .u64 (e.x.id : Int), .sl (spsAV e.x.sp) .none]] = xsAVT (outP rows (ps ++ [(e.row, k)])) := by
          rw [outP_snoc (a := e.x) (by simp [atP, q1, q3])]; simp [xsAVT]
        rw [hxs] at hA3
        have hn3 : t'.next = τ1.next + 6 := hnx3
        have hsep3 : ∀ g, G' = some g → (g ≠ pn ∧ g ≠ nx ∧ g ≠ pr ∧ g ≠ ph ∧ g ≠ pl ∧ g ≠ h) ∧ G ≠ some g := fun g e => by
          have hg := hGn g e
          refine ⟨⟨by omega, by omega, by omega, by omega, by omega, by omega⟩, fun h' => ?_⟩
          have := b7 g h'; omega
        have hGl : ∀ g, G' = some g → g < τ1.next + 6 := fun g e => by have := hGn g e; omega
        clear hoth hGn hsame hA2 K2 N2 hq hqu
        refine T.regi hm ?_
        simp only [↓reduceIte, namesOf, List.any, I.names, aopsI, astep, ev, setd, List.set, List.getD, List.getElem?_cons_zero, List.getElem?_cons_succ, List.cons_append, List.nil_append, List.replicate, then_normal, inBlock_normal, Option.getD_some, Bool.or_false, Bool.false_eq_true, up_zero, ↓opt_def, ldc, List.map_cons, List.map_nil, hq3, Nat.zero_add]
        refine (kpushT_ok K3 hph' q1 hnk hrr (by omega) (by omega)).mono ?_
        rintro v τ4 ⟨rfl, hc⟩
        try simp only [↓reduceIte, namesOf, List.any, I.names, aops, aopsI, aopsT, qstep, CPt, qget, Tbl.get, astep, ev, setd, List.set, List.getD, List.getElem?_cons_zero, List.getElem?_cons_succ, List.getElem?_nil, List.cons_append, List.nil_append, List.length_cons, List.length_nil, List.replicate, then_normal, inBlock_normal, Option.getD_some, Option.getD_none, Bool.or_false, Bool.or_true, Bool.true_or, Bool.false_or, Bool.false_eq_true, if_false, if_true, up_zero, Nat.reduceAdd, Nat.reduceSub, binv, ↓opt_def, AV.isAny, AV.cells, ldc, List.map_cons, List.map_nil, St.set_next, St.set_same, St.up_next, Int.natCast_nonneg, lt_len, le_len, Int.toNat_natCast, true_and, and_true, eq_self, reduceCtorEq, decide_true, List.length_singleton, er_int, er_bool, er_str, srcR, up_zero]
        rcases hc with ⟨hc1, rfl⟩ | ⟨a, e2, l2, G2, ha, hex, her, K4, hp4, hh4, hf4, hG4⟩
        · exact ⟨by omega, _, _, Gh.keep [5, 7, 9], c.set e.row (k + 1), next, l', G, G', turn, ps ++ [(e.row, k)], x', ⟨by simp [hps], K3, hph', hF1.none q1 (by rw [List.getElem?_set_self (List.getElem?_eq_some_iff.1 q2).1]) hc1, hTk', hnl, hNx.none q1 q2 hc1, N3, hA3, hsep3, by omega, by omega⟩, rfl⟩
        · have hl2 : l2.length = l'.length + 1 := by rw [hp4.length_eq]; simp
          refine ⟨by omega, _, _, Gh.keep [5, 7, 9], c.set e.row (k + 1), next.set e.row (k + 2), l2, G2, G', turn + 1, ps ++ [(e.row, k)], x', ⟨by simp [hps], K4, hh4, ?_, hTk', by rw [List.length_set]; exact hnl, ?_, N3.step hf4 (fun g e => ⟨.inr (hG4 g e).1, (hG4 g e).2⟩), ?_, fun g e => ⟨(hsep3 g e).1, fun h' => ?_⟩, by omega, by omega⟩, rfl⟩
          · exact (hF1.push q1 (by rw [List.getElem?_set_self (List.getElem?_eq_some_iff.1 q2).1]) (by rw [hex]; exact ha) her).perm hp4
          · exact hNx.push hnl q1 (List.getElem?_eq_some_iff.1 ha).1
          · refine hA3.keep hf4.next (fun m hm => ?_) (fun g e => ?_)
            · have := N3.lo
              have := N3.like.next
              exact hf4.old m (by omega) (by omega) (by omega) (fun g e => by have := N3.lo.2.2 g e; omega)
            · obtain ⟨⟨s1, s2, s3, s4, s5, s6⟩, s7⟩ := hsep3 g e
              exact hf4.old g (by have := hGl g e; omega) s6 s2 (fun g' e' h' => s7 (by rw [h']; exact e'))
          · have := (hG4 g h').1
            have := hGl g e; omega
    · refine T.cond (b := true) (by simp [ev]; omega) (fun _ => T.skip ?_) (fun h => by cases h)
      refine h2 _ _ ?_
      try clear h2 K_h2
      have hw := inc64' hil (by omega)
      have hri : rows[i]? = some rows[i] := by simp [hil]
      have hrl' := hrl _ (List.getElem_mem hil)
      generalize rows[i] = row at hri hrl'
      have hni := hnx i row hri
      rw [if_neg (by omega)] at hni
      refine T.seq_k (fun K_h2 h2 => ?_)
      refine T.block ?_
      refine T.seq_k (fun K_h0 h0 => ?_)
      refine T.regi hm ?_
      simp only [↓reduceIte, namesOf, List.any, I.names, aopsI, astep, ev, setd, List.set, List.getD, List.getElem?_cons_zero, List.getElem?_cons_succ, List.cons_append, List.nil_append, List.replicate, then_normal, Option.getD_some, Bool.or_false, Bool.false_eq_true, up_zero]
      refine h0 _ _ ?_
      try clear h0 K_h0
      refine T.regi hm ?_
      simp only [↓reduceIte, namesOf, List.any, I.names, aopsI, astep, ev, setd, List.set, List.getD, List.getElem?_cons_zero, List.getElem?_cons_succ, List.cons_append, List.nil_append, List.replicate, then_normal, inBlock_normal, Option.getD_some, Bool.or_false, Bool.false_eq_true, up_zero, List.map_cons, List.map_nil]
      refine (kpushT_ok K hh hri hni hrl' (by omega) (by omega)).mono ?_
      rintro v τ ⟨rfl, hc⟩
      try simp only [↓reduceIte, namesOf, List.any, I.names, aops, aopsI, aopsT, qstep, CPt, qget, Tbl.get, astep, ev, setd, List.set, List.getD, List.getElem?_cons_zero, List.getElem?_cons_succ, List.getElem?_nil, List.cons_append, List.nil_append, List.length_cons, List.length_nil, List.replicate, then_normal, inBlock_normal, Option.getD_some, Option.getD_none, Bool.or_false, Bool.or_true, Bool.true_or, Bool.false_or, Bool.false_eq_true, if_false, if_true, up_zero, Nat.reduceAdd, Nat.reduceSub, binv, ↓opt_def, AV.isAny, AV.cells, ldc, List.map_cons, List.map_nil, St.set_next, St.set_same, St.up_next, Int.natCast_nonneg, lt_len, le_len, Int.toNat_natCast, true_and, and_true, eq_self, reduceCtorEq, decide_true, List.length_singleton, er_int, er_bool, er_str, srcR, up_zero]
      refine h2 _ _ ?_
      try clear h2 K_h2
      refine T.regi hm ?_
      simp only [↓reduceIte, namesOf, List.any, I.names, aopsI, astep, ev, setd, List.set, List.getD, List.getElem?_cons_zero, List.getElem?_cons_succ, List.cons_append, List.nil_append, List.replicate, then_normal, Option.getD_some, Bool.or_false, Bool.false_eq_true, up_zero, binv, ↓opt_def, eq_self, hw]
      rcases hc with ⟨h0, rfl⟩ | ⟨a, e, l', G', ha, hex, her, K', hp, hh', hf, hG'⟩
      · refine ⟨hil, _, _, Gh.keep [5, 7, 19, 20], next, l, G, turn, K, hh, F0.none hri h0, hnl, fun j row' hj => ?_, N, hlt, by omega, rfl⟩
        rw [hnx j row' hj]
        by_cases hji : j = i
        · subst hji
          rw [hri] at hj; cases hj
          rw [if_neg (by omega), if_pos (by omega)]; congr 1; omega
        · by_cases hj2 : j < i
          · rw [if_pos hj2, if_pos (by omega)]
          · rw [if_neg hj2, if_neg (by omega)]
      · have hl2 : l'.length = l.length + 1 := by rw [hp.length_eq]; simp
        refine ⟨hil, _, _, Gh.keep [5, 7, 19, 20], next.set i (0 + 1), l', G', turn + 1, K', hh', (F0.push hri (by rw [hex]; exact ha) her).perm hp, by rw [List.length_set]; exact hnl, fun j row' hj => ?_, N.step hf (fun g e => ⟨.inr (hG' g e).1, (hG' g e).2⟩), by omega, by omega, rfl⟩
        rw [List.getElem?_set]
        by_cases hji : i = j
        · subst hji
          rw [hri] at hj; cases hj
          have := (List.getElem?_eq_some_iff.1 ha).1
          rw [if_pos rfl, if_pos (by omega), if_pos (by omega)]; congr 1; omega
        · rw [if_neg hji, hnx j row' hj]
          by_cases hj2 : j < i
          · rw [if_pos hj2, if_pos (by omega)]
          · rw [if_neg hj2, if_neg (by omega)]

end Go.VL

namespace Go.Proofs

open Go.RowKit Go.Maps Go.Sort Go.Shelf

variable {P : Program}

theorem ask_dr {α : Type} : ∀ (k : Ask α) (w : World), w.drawn ≤ (w.ask k).2.drawn
  | .done a, w => Nat.le_refl _
  | .ask what range k, w => by
    unfold World.ask
    dsimp only
    split
    · exact ask_dr _ w
    · exact Nat.le_trans (Nat.le_succ _) (ask_dr _ { w with drawn := w.drawn + 1 })

theorem sys_dr (w : World) (c : Sys) : w.drawn ≤ (w.sys c).2.drawn := by
  unfold World.sys
  have := ask_dr (Kernel.perform c w.os) w
  split
  · exact Nat.le_refl _
  · rename_i r os w1 h heq
    rw [heq] at this
    exact this

theorem vs_dr {w : World} {a : Addr} {u : TypeId} {k : Addr} {v : Value} {at_ : Bool} {r : World × List Addr} (h : w.viewStore P a u k v at_ = .ok r) : r.1.drawn = w.drawn := by
  unfold World.viewStore at h
  simp only [bind, Except.bind, pure, Except.pure] at h
  repeat' (split at h)
  all_goals first
    | (cases h; done)
    | (cases h; rfl)
    | skip
  all_goals trace_state

theorem fs_dr {w : World} {a : Addr} {v : Value} {at_ : Bool} {r : World × List Addr} (h : w.farStore P a v at_ = .ok r) : r.1.drawn = w.drawn := by
  unfold World.farStore at h
  split at h
  · split at h
    · rename_i hh
      cases h
      exact vs_dr hh
    · cases h
  · cases h

theorem run_dr {α : Type} (s : Sem α) : ∀ (w : World) (b : α) (w' : World), s.run P w = .ok b w' → w.drawn ≤ w'.drawn := by
  induction s with
  | pure a => intro w b w' h; cases h; exact Nat.le_refl _
  | load m a k ih =>
    intro w b w' h
    rw [Sem.run] at h
    split at h
    · exact ih _ w b w' h
    · split at h
      · exact ih _ w b w' h
      · cases h
  | store m a v k ih =>
    intro w b w' h
    cases v with
    | agg c => rw [Sem.run] at h; cases h
    | tuple c => rw [Sem.run] at h; cases h
    | _ =>
      simp only [Sem.run] at h
      split at h
      · split at h
        · cases h
        · exact ih (w.setCell a _) b w' h
      · split at h
        · rename_i hh
          rw [← fs_dr hh]
          exact ih _ b w' h
        · cases h
  | new o k ih => intro w b w' h; rw [Sem.run] at h; exact ih _ { w with heap := w.heap.push o } b w' h
  | shape r k ih => intro w b w' h; rw [Sem.run] at h; exact ih _ w b w' h
  | freeze a n k ih =>
    intro w b w' h
    rw [Sem.run] at h
    have := ih _ b w' h
    unfold World.freeze at this
    split at this <;> exact this
  | frozen a k ih => intro w b w' h; rw [Sem.run] at h; exact ih _ w b w' h
  | getObj r k ih =>
    intro w b w' h
    rw [Sem.run] at h
    split at h
    · cases h
    · exact ih _ w b w' h
    · cases h
  | setObj r o k ih =>
    intro w b w' h
    rw [Sem.run] at h
    split at h
    · cases h
    · exact ih { w with heap := w.heap.setIfInBounds r o } b w' h
    · cases h
  | choose q k ih =>
    intro w b w' h
    rw [Sem.run] at h
    split at h
    · exact ih _ w b w' h
    · exact Nat.le_trans (Nat.le_succ _) (ih _ { w with drawn := w.drawn + 1 } b w' h)
  | sys c k ih => intro w b w' h; rw [Sem.run] at h; exact Nat.le_trans (sys_dr w c) (ih _ _ b w' h)
  | program k ih => intro w b w' h; rw [Sem.run] at h; exact ih _ w b w' h
  | mark m k ih => intro w b w' h; rw [Sem.run] at h; exact ih w b w' h
  | halt h => intro w b w' e; cases e

/-- what an invariant abides: an iterator's step -/
def AbD {β : Type} (B : Nat) (J : β → World → Prop) : Prop :=
  ∀ s W W' row, J s W → W.grownBy W' row → W.drawn ≤ W'.drawn → (∀ r, row = some r → B ≤ r ∧ ∃ o : Obj, W.heap[r]? = some o ∧ o.isWalk = true) → J s W'

/-- what an iterator's value gives -/
def SeqD {α : Type} (F : Fence) (n : Nat) (P : Program) (g : Nat) (lb : Array Value) (enc : α → Value) (S : List α → Prop) (N : Nat) (w : World) : Prop :=
  ∀ (l : Nat) (J : List α → World → Prop) (W : World), Below w.heap.size w W → AbD W.heap.size J →
    (∀ pre x W1, J pre W1 → pre.length < N → YieldAt F (n - 1) P l #[enc x] W1 fun e W' => e = .returned (.bool true) ∧ J (pre ++ [x]) W' ∧ KeepsWalks W1 W') →
    J [] W →
    CallsIn F n P g (#[.func (.yield l) #[] #[]] ++ lb) W fun e W' => (∃ v, e = .returned v) ∧ ∃ xs, S xs ∧ J xs W'

theorem wpListIn_append_dr {F : Fence} {n : Nat} (w : World) {ops : Array Oper} {rest : List Oper} {o : Oper} {a : Act} {Q : Exit → Act → World → Prop}
    (hg : o.guard = none) (s x : Operand) (t : TypeId) (hop : o.op = Op.call { callee := Callee.builtin Builtin.append, args := #[s, x], argTypes := #[t, t] })
    (base : Nat) (e : TypeId) (i : TypeInfo) (z : Value) (size bytes : Nat) (h1 : P.underlying t = some (.slice e)) (h2 : P.info? e = some i) (h3 : i.zero = some z) (h4 : i.size = size) (h5 : i.bytes = bytes) (h6 : z.cells.size = size) (h7 : 0 < size)
    (v : Value) (k : Nat) (xs : List Value) (hs : a.eval s = v) (hown : w.ownsRow base e size v k xs) (ad : Addr) (m c : Nat) (news : List Value) (hx : a.eval x = .slice (some ad) m c) (hn : news.length = m * size)
    (hc : ∀ j u, news[j]? = some u → w.cell? (ad.add j) = some u) (h1c : ∀ u ∈ news, u.oneCell' = true) (b1 : k + m ≤ maxLen) (b2 : (k + m) * bytes ≤ 140737488355328) (b3 : base ≤ w.heap.size)
    (hK : ∀ v' w', w'.ownsRow base e size v' (k + m) (xs ++ news) → w.grownBy w' v.ownBlock → w.drawn ≤ w'.drawn → wpListIn F n P ops Q rest (a.put o.dst v') w') :
    wpListIn F n P ops Q (o :: rest) a w := by
  refine wpListIn_plain hg fun K hK' => ?_
  obtain ⟨v', w', hrun, r1, r2, _⟩ := run_append_own (P := P) w base t o.type e i z size bytes h1 h2 h3 h4 h5 h6 h7 v k xs hown ad m c news hn hc h1c b1 b2 b3
  unfold Oper.wpIn
  refine ⟨by simp [Oper.about, hop, resolve, Target.leads, Sem.run_pure], ?_⟩
  rw [Oper.semAt_plain F _ _ (by rw [hop]; intro c hc'; cases hc')]
  simp [execOp, hop, resolve, invoke, builtin, hs, hx, hrun, Result.andThen]
  exact hK' _ _ (hK v' w' r1 r2 (run_dr _ _ _ _ hrun))

structure Walks (b r : Nat) (es : List MapEntry) (clk : Nat) (seen : List Nat) (w : World) : Prop where
  m : w.heap[b]? = some (.map ⟨es⟩ clk)
  it : w.heap[r]? = some (.mapIter (some b) clk ⟨seen⟩ clk)
  nd : (es.map (·.born)).Nodup
  lt : ∀ e ∈ es, e.born < clk

theorem Walks.ne {b r : Nat} {es : List MapEntry} {clk : Nat} {seen : List Nat} {w : World} (h : Walks b r es clk seen w) : b ≠ r := fun e => by
  have := h.m; rw [e, h.it] at this; cases this

theorem Walks.keep {b r : Nat} {es : List MapEntry} {clk : Nat} {seen : List Nat} {w w' : World} (h : Walks b r es clk seen w) (hk : KeepsWalks w w') : Walks b r es clk seen w' :=
  ⟨hk.same _ _ h.m rfl, hk.same _ _ h.it rfl, h.nd, h.lt⟩

theorem Walks.start {b : Nat} {es : List MapEntry} {clk : Nat} {w : World} (hm : w.heap[b]? = some (.map ⟨es⟩ clk)) (nd : (es.map (·.born)).Nodup) (lt : ∀ e ∈ es, e.born < clk) :
    Walks b w.heap.size es clk [] (w.alloc (.mapIter (some b) clk #[] clk)) :=
  ⟨(Below.heap_alloc _ _ b (Array.getElem?_eq_some_iff.1 hm).1).trans hm, World.alloc_heap_new w _, nd, lt⟩

theorem raw_getObj {b : Nat} {w : World} {ob : Obj} (h : w.heap[b]? = some ob) (ho : ∀ c e f, ob ≠ .cells c e f) : (getObj b).run P w = .ok ob w := by
  cases ob <;> first | (exact absurd rfl (ho _ _ _)) | simp [getObj, Sem.run, h]

theorem raw_setObj {b : Nat} {w : World} {ob : Obj} (h : w.heap[b]? = some ob) (ho : ∀ c e f, ob ≠ .cells c e f) (ob' : Obj) : (setObj b ob').run P w = .ok () (w.putObj b ob') := by
  cases ob <;> first | (exact absurd rfl (ho _ _ _)) | simp [setObj, Sem.run, h, World.putObj]

theorem Walks.range {b : Nat} {es : List MapEntry} {clk : Nat} {w : World} {t k e : TypeId} (ht : P.underlying t = some (.map k e)) (hm : w.heap[b]? = some (.map ⟨es⟩ clk)) :
    (Instr.range t (.map (some b))).run P w = .ok (.pointer (some ⟨w.heap.size, 0, none⟩)) (w.alloc (.mapIter (some b) clk #[] clk)) := by
  have hg := raw_getObj (P := P) hm (by simp)
  simp [Instr.range, run_underlying ht, hg]

theorem Walks.next {b r : Nat} {es : List MapEntry} {clk : Nat} {seen : List Nat} {w : World} (h : Walks b r es clk seen w) (ty : TypeId) :
    ((∀ e ∈ es, e.born ∈ seen) ∧ ∃ q, w.drawn ≤ q ∧ (Instr.next (.pointer (some ⟨r, 0, none⟩)) false ty).run P w = .ok (.tuple #[.bool false]) { w with drawn := q }) ∨
    (∃ e w', e ∈ es ∧ e.born ∉ seen ∧ (Instr.next (.pointer (some ⟨r, 0, none⟩)) false ty).run P w = .ok (.tuple #[.bool true, e.key, e.val]) w' ∧ Walks b r es clk (seen ++ [e.born]) w' ∧ w.grownBy w' (some r) ∧ w.drawn ≤ w'.drawn ∧ w'.heap.size = w.heap.size ∧
      (Instr.entry (.pointer (some ⟨r, 0, none⟩))).run P w' = .ok (.tuple #[e.key, e.val]) w') := by
  have hg := raw_getObj (P := P) h.it (by simp)
  have hg2 := raw_getObj (P := P) h.m (by simp)
  have hcond : (!(⟨seen⟩ : Array Nat).isEmpty && !(⟨es⟩ : Array MapEntry).isEmpty && (⟨es⟩ : Array MapEntry).all (fun e => decide (e.born ≥ clk))) = false := by
    cases hents : es with
    | nil => simp
    | cons e r =>
      have := h.lt e (by rw [hents]; simp)
      have : decide (e.born ≥ clk) = false := by simp; omega
      simp [this]
  let L : List MapEntry := es.filter fun e => !seen.contains e.born
  have hleft : (⟨es⟩ : Array MapEntry).filter (fun e => !(⟨seen⟩ : Array Nat).contains e.born) = ⟨L⟩ := by
    apply Array.ext'; simp [L]
  have hold : (⟨L⟩ : Array MapEntry).filter (fun e => decide (e.born < clk)) = ⟨L⟩ := by
    apply Array.ext'
    simp only [List.filter_toArray]
    rw [List.filter_eq_self.2]
    intro e he
    simpa using h.lt e ((List.mem_filter.1 he).1)
  have hnew : (⟨L⟩ : Array MapEntry).filter (fun e => decide (e.born ≥ clk)) = ⟨[]⟩ := by
    apply Array.ext'
    simp only [List.filter_toArray]
    rw [List.filter_eq_nil_iff.2]
    intro e he
    have := h.lt e ((List.mem_filter.1 he).1)
    simp; omega
  let Cn : List (Option MapEntry) := (if L = [] then [none] else []) ++ L.map some
  have hcand : (if (⟨L⟩ : Array MapEntry).isEmpty = true then #[none] else #[]) ++ ((⟨L⟩ : Array MapEntry) ++ (⟨[]⟩ : Array MapEntry)).map some = (⟨Cn⟩ : Array (Option MapEntry)) := by
    by_cases hl : L = []
    · rw [hl]; simp [Cn, hl]
    · have : (⟨L⟩ : Array MapEntry).isEmpty = false := by
        cases hL : L with
        | nil => exact absurd hL hl
        | cons _ _ => simp
      rw [this]; simp [Cn, hl]
  have hpos : 0 < Cn.length := by
    cases hL : L with
    | nil => simp [Cn, hL]
    | cons _ _ => simp [Cn, hL]
  obtain ⟨j, wq, hjl, hch, hwq⟩ : ∃ j wq, j < Cn.length ∧ (choose (.mapNext Cn.length)).run P w = .ok j wq ∧ ∃ q, w.drawn ≤ q ∧ wq = { w with drawn := q } := by
    rw [run_choose_drew]
    split
    · exact ⟨0, w, hpos, rfl, w.drawn, Nat.le_refl _, rfl⟩
    · exact ⟨_, _, Nat.mod_lt _ hpos, rfl, _, Nat.le_succ _, rfl⟩
  obtain ⟨q, hq, rfl⟩ := hwq
  have hrun : ∀ {z : Value} {w' : World}, ((match Cn[j]? with
      | some (some e) => (do setObj r (.mapIter (some b) clk ((⟨seen⟩ : Array Nat).push e.born) clk); pure (.tuple #[.bool true, e.key, e.val]) : Sem Value)
      | some none => pure (.tuple #[.bool false])
      | none => stuck "Next: no such candidate").run P { w with drawn := q }) = .ok z w' → (Instr.next (.pointer (some ⟨r, 0, none⟩)) false ty).run P w = .ok z w' := by
    intro z w' hz
    have hsz : (⟨Cn⟩ : Array (Option MapEntry)).size = Cn.length := rfl
    simp only [Instr.next, Sem.run_bind, hg, Result.andThen_ok, hg2, hcond, Bool.false_eq_true, if_false, Sem.run_pure, hleft, hold, hnew, hcand, hsz, hch, List.getElem?_toArray]
    split at hz <;> rename_i hz0 <;> (try simp only [hz0]) <;> (try simp only [Sem.run_bind] at hz ⊢) <;> exact hz
  by_cases hL : L = []
  · left
    have hCn : Cn = [none] := by simp [Cn, hL]
    have hj0 : j = 0 := by rw [hCn] at hjl; simpa using hjl
    refine ⟨fun e he => ?_, q, hq, hrun ?_⟩
    · by_cases hs : e.born ∈ seen
      · exact hs
      · have : e ∈ L := List.mem_filter.2 ⟨he, by simpa using hs⟩
        rw [hL] at this; cases this
    · rw [hCn, hj0]; simp
  · right
    have hCn : Cn = L.map some := by simp [Cn, hL]
    have hjL : j < L.length := by rw [hCn] at hjl; simpa using hjl
    have hcj : Cn[j]? = some (some L[j]) := by rw [hCn]; simp [hjL]
    have hmem : L[j] ∈ L := List.getElem_mem _
    generalize L[j] = e0 at hcj hmem
    obtain ⟨hme, hns⟩ := List.mem_filter.1 hmem
    have hnin : e0.born ∉ seen := by simpa using hns
    have hrl : r < w.heap.size := (Array.getElem?_eq_some_iff.1 h.it).1
    have hset := raw_setObj (P := P) (w := { w with drawn := q }) h.it (by simp) (.mapIter (some b) clk ((⟨seen⟩ : Array Nat).push e0.born) clk)
    have hW : Walks b r es clk (seen ++ [e0.born]) (({ w with drawn := q } : World).putObj r (.mapIter (some b) clk ((⟨seen⟩ : Array Nat).push e0.born) clk)) := by
      refine ⟨(World.putObj_heap_other h.ne).trans h.m, ?_, h.nd, h.lt⟩
      rw [World.putObj_heap_same (w := { w with drawn := q }) hrl]; simp
    refine ⟨e0, ({ w with drawn := q } : World).putObj r (.mapIter (some b) clk ((⟨seen⟩ : Array Nat).push e0.born) clk), hme, hnin, hrun ?_, hW, ⟨rfl, rfl, rfl, by simp, fun k _ hk => World.putObj_heap_other (fun e => hk (by rw [e]))⟩, hq, by simp, ?_⟩
    · rw [hcj]; simp only [Sem.run_bind, hset, Result.andThen_ok, Sem.run_pure]
    · generalize (({ w with drawn := q } : World).putObj r (.mapIter (some b) clk ((⟨seen⟩ : Array Nat).push e0.born) clk)) = W' at hW ⊢
      have g1 := raw_getObj (P := P) hW.it (by simp)
      have g2 := raw_getObj (P := P) hW.m (by simp)
      have hback : (⟨seen ++ [e0.born]⟩ : Array Nat).back? = some e0.born := by simp [Array.back?]
      have hfind : (⟨es⟩ : Array MapEntry).find? (fun e => e.born == e0.born) = some e0 := by
        simp only [List.find?_toArray]
        obtain ⟨i, hi⟩ := List.getElem?_of_mem hme
        have hi' := List.getElem?_eq_some_iff.1 hi
        rw [List.find?_eq_some_iff_getElem]
        refine ⟨by simp, i, hi'.1, hi'.2, fun j hj => ?_⟩
        simp only [Bool.not_eq_true', beq_eq_false_iff_ne, ne_eq]
        intro hjb
        refine List.pairwise_iff_getElem.1 h.nd j i (by rw [List.length_map]; exact Nat.lt_trans hj hi'.1) (by rw [List.length_map]; exact hi'.1) hj ?_
        simp only [List.getElem_map, hi'.2]; exact hjb
      simp [Instr.entry, g1, hback, g2, hfind]

theorem wpListIn_range_raw {F : Fence} {n : Nat} {ops : Array Oper} {Q : Exit → Act → World → Prop} {o : Oper} {rest : List Oper} {a : Act} {w : World} (hg : o.guard = none) (m : Operand) (t : TypeId) (hop : o.op = Op.range t m) (k e : TypeId) (ht : P.underlying t = some (.map k e)) (b : Nat) (es : List MapEntry) (clk : Nat)
    (hm : a.eval m = .map (some b)) (hb : w.heap[b]? = some (.map ⟨es⟩ clk))
    (hK : wpListIn F n P ops Q rest (a.put o.dst (.pointer (some ⟨w.heap.size, 0, none⟩))) (w.alloc (.mapIter (some b) clk #[] clk))) :
    wpListIn F n P ops Q (o :: rest) a w := by
  refine wpListIn_plain hg fun K' hK' => ?_
  have hrun := Walks.range (P := P) ht hb
  unfold Oper.wpIn
  refine ⟨by simp [Oper.about, hop], ?_⟩
  rw [Oper.semAt_plain F _ _ (by rw [hop]; intro c hc'; cases hc')]
  simp [execOp, hop, hm, hrun, Result.andThen]
  exact hK' _ _ hK

theorem wpListIn_next_raw {F : Fence} {n : Nat} {ops : Array Oper} {Q : Exit → Act → World → Prop} {o : Oper} {rest : List Oper} {a : Act} {w : World} (hg : o.guard = none) (it : Operand) (hop : o.op = Op.next it false) {b r : Nat} {es : List MapEntry} {clk : Nat} {seen : List Nat} (hit : a.eval it = .pointer (some ⟨r, 0, none⟩)) (h : Walks b r es clk seen w)
    (hDone : ∀ q, w.drawn ≤ q → (∀ e ∈ es, e.born ∈ seen) → wpListIn F n P ops Q rest (a.put o.dst (.tuple #[.bool false])) { w with drawn := q })
    (hMore : ∀ e w', e ∈ es → e.born ∉ seen → Walks b r es clk (seen ++ [e.born]) w' → w.grownBy w' (some r) → w.drawn ≤ w'.drawn → w'.heap.size = w.heap.size → (Instr.entry (.pointer (some ⟨r, 0, none⟩))).run P w' = .ok (.tuple #[e.key, e.val]) w' → wpListIn F n P ops Q rest (a.put o.dst (.tuple #[.bool true, e.key, e.val])) w') :
    wpListIn F n P ops Q (o :: rest) a w := by
  refine wpListIn_plain hg fun K' hK' => ?_
  unfold Oper.wpIn
  refine ⟨by simp [Oper.about, hop], ?_⟩
  rw [Oper.semAt_plain F _ _ (by rw [hop]; intro c hc'; cases hc')]
  rcases h.next (P := P) o.type with ⟨hall, q, hq, hrun⟩ | ⟨e, w', he, hn, hrun, hW, hgr, hdr, hsz, hen⟩
  · simp [execOp, hop, hit, hrun, Result.andThen]
    exact hK' _ _ (hDone q hq hall)
  · simp [execOp, hop, hit, hrun, Result.andThen]
    exact hK' _ _ (hMore e w' he hn hW hgr hdr hsz hen)

theorem perm_out {es : List MapEntry} {e : MapEntry} (he : e ∈ es) (nd : (es.map (·.born)).Nodup) : es.Perm (e :: es.filter fun x => x.born != e.born) := by
  induction es with
  | nil => cases he
  | cons y r ih =>
    simp only [List.map_cons, List.nodup_cons] at nd
    rcases List.mem_cons.1 he with rfl | he'
    · have : r.filter (fun x => x.born != e.born) = r := by
        rw [List.filter_eq_self]
        intro x hx
        simp only [bne_iff_ne, ne_eq]
        intro h
        exact nd.1 (h ▸ List.mem_map_of_mem hx)
      simp [this]
    · have hy : (y.born != e.born) = true := by
        simp only [bne_iff_ne, ne_eq]
        intro h
        exact nd.1 (h ▸ List.mem_map_of_mem he')
      simp only [List.filter_cons, hy, if_true]
      exact ((ih he' nd.2).cons y).trans (List.Perm.swap _ _ _)

theorem filter_step {es : List MapEntry} {seen : List Nat} {e : MapEntry} (he : e ∈ es) (hn : e.born ∉ seen) (nd : (es.map (·.born)).Nodup) :
    (es.filter fun x => !seen.contains x.born).Perm (e :: es.filter fun x => !(seen ++ [e.born]).contains x.born) := by
  have h1 : e ∈ es.filter fun x => !seen.contains x.born := List.mem_filter.2 ⟨he, by simpa using hn⟩
  have h2 : ((es.filter fun x => !seen.contains x.born).map (·.born)).Nodup := nd.sublist (List.filter_sublist.map _)
  have h3 := perm_out h1 h2
  rw [List.filter_filter] at h3
  have : (es.filter fun x => !(seen ++ [e.born]).contains x.born) = es.filter fun x => (x.born != e.born) && !seen.contains x.born := by
    apply List.filter_congr
    intro x _
    by_cases hx : x.born = e.born <;> simp [hx, hn, bne, Bool.and_comm]
  rw [this]; exact h3

def apA (tE : Nat) : Code := (Code.region 2
                    #[{ dst := some 5, op := Op.alloc tE, type := 0, pos := "iter.go:51", after := #[], guard := none },
                      { dst := none, op := Op.store tE (Operand.tmp 5) (Operand.tmp 7), type := 0, pos := "iter.go:51",
                        after := #[{ on := 0, ground := Ground.data }, { on := 0, ground := Ground.phase }],
                        guard := none }]
                    false)

def apB (tE tS : Nat) : Code := (Code.block 1
                    (Code.region 3
                      #[{ dst := some 8, op := Op.load tS (Operand.tmp 2), type := tS, pos := "iter.go:52",
                          after := #[], guard := none },
                        { dst := some 9, op := Op.load tE (Operand.tmp 5), type := tE, pos := "iter.go:52",
                          after := #[], guard := none },
                        { dst := some 10, op := Op.buildSlice tS 1 #[(0, Operand.tmp 9)], type := tS,
                          pos := "iter.go:52", after := #[{ on := 1, ground := Ground.data }], guard := none },
                        { dst := some 11,
                          op :=
                            Op.call
                              { callee := Callee.builtin Builtin.append, args := #[Operand.tmp 8, Operand.tmp 10],
                                argTypes := #[tS, tS] },
                          type := tS, pos := "iter.go:52",
                          after := #[{ on := 0, ground := Ground.data }, { on := 2, ground := Ground.data }],
                          guard := none },
                        { dst := none, op := Op.store tS (Operand.tmp 2) (Operand.tmp 11), type := 0,
                          pos := "iter.go:52",
                          after :=
                            #[{ on := 3, ground := Ground.data }, { on := 3, ground := Ground.chain },
                              { on := 0, ground := Ground.phase }, { on := 1, ground := Ground.phase },
                              { on := 2, ground := Ground.phase }, { on := 3, ground := Ground.phase }],
                          guard := none }]
                      false))

structure ElemK (P : Program) (tE tS : Nat) (size bytes : Nat) (z : List Value) : Prop where
  mixed : P.follows .mixedOrders = true
  t0 : P.underlying 0 = some (TypeDesc.tuple #[])
  uS : P.underlying tS = some (TypeDesc.slice tE)
  aS : ∀ w, (isAgg tS).run P w = .ok false w
  zS : ∀ w, (Go.sizeOf tS).run P w = .ok 1 w
  vS : ∀ w, (zeroValue tS).run P w = .ok (Value.slice none 0 0) w
  aE : ∀ w, (isAgg tE).run P w = .ok true w
  zE : ∀ w, (Go.sizeOf tE).run P w = .ok size w
  vE : ∀ w, (zeroValue tE).run P w = .ok (.agg ⟨z⟩) w
  iE : (P.info? tE).map (fun i => (i.zero, i.size, i.bytes)) = some (some (.agg ⟨z⟩), size, bytes)
  zl : z.length = size

structure SpV where
  a : Int
  b : Int
  c : Int
  d : Int
  p : Option Addr
  n : Nat
  m : Nat

instance : Inhabited SpV := ⟨⟨0, 0, 0, 0, none, 0, 0⟩⟩

abbrev SpV.cs (x : SpV) : List Value := [.int .u64 x.a, .int .u64 x.b, .int .i64 x.c, .int .i64 x.d, .slice x.p x.n x.m]

abbrev SpV.enc (x : SpV) : Value := .agg ⟨x.cs⟩

def SpV.dec : Value → SpV
  | .agg ⟨[.int _ a, .int _ b, .int _ c, .int _ d, .slice p n m]⟩ => ⟨a, b, c, d, p, n, m⟩
  | _ => ⟨0, 0, 0, 0, none, 0, 0⟩

def apRec5 (tE tS : Nat) (fn : FuncId) (sv : Value) (Bs D : Nat) (st : LoopState) (pend : Option Code) : Loop :=
  { state := st, pending := pend, fn, tmps := #[.slice none 0 0, sv, .pointer (some ⟨Bs, 0, none⟩), undef, .slice none 0 0, undef, sv, undef, undef, undef, undef, undef, undef], params := #[7], assign := apA tE, body := apB tE tS, defers := D }

structure ApAt5 (tE tS : Nat) (w0 : World) (fn : FuncId) (sv : Value) (Bs l D : Nat) (ss : List SpV) (W : World) : Prop where
  box : ∃ v, W.heap[Bs]? = some (.cells #[v] tS (0, 0)) ∧ W.ownsRow w0.heap.size tE 5 v ss.length (ss.flatMap SpV.cs) ∧ (v = .slice none 0 0 ↔ ss = [])
  L : W.heap[l]? = some (.loop (apRec5 tE tS fn sv Bs D .ready none))
  K : W.heap[D]? = some (.deferred (some []))
  below : Below w0.heap.size w0 W
  dr : w0.drawn ≤ W.drawn

theorem ap5_abides (tE tS : Nat) (w0 : World) (fn : FuncId) (sv : Value) (Bs l D B : Nat) (hB : w0.heap.size ≤ B) : AbD B (ApAt5 tE tS w0 fn sv Bs l D) := fun s W W' row h hg hdr hrow => by
  have hrow' : ∀ r, row = some r → ∃ o : Obj, W.heap[r]? = some o ∧ o.isWalk = true := fun r e => (hrow r e).2
  obtain ⟨v, hv, hr, hn⟩ := h.box
  exact ⟨⟨v, (grownBy_keeps hg hrow' hv rfl).trans hv, ownsRow_abides_a hr hg hrow', hn⟩, (grownBy_keeps hg hrow' h.L rfl).trans h.L, (grownBy_keeps hg hrow' h.K rfl).trans h.K,
    h.below.grown hg h.below.size (fun k e => Nat.le_trans hB (hrow k e).1), Nat.le_trans h.dr hdr⟩

theorem cells_new (W : World) (us : List Value) (t : TypeId) : ∀ j u, us[j]? = some u → (W.alloc (.cells ⟨us⟩ t)).cell? ((⟨W.heap.size, 0, none⟩ : Addr).add j) = some u := by
  intro j u hj
  have : ((⟨W.heap.size, 0, none⟩ : Addr).add j) = ⟨W.heap.size, j, none⟩ := by simp [Addr.add]; exact fun h => h.symm
  rw [this]
  simp only [World.cell?, World.alloc_heap_new]
  simpa using hj

set_option maxRecDepth 100000 in
set_option maxHeartbeats 2000000 in
theorem ap5_yield (tE tS bytes : Nat) (L : ElemK P tE tS 5 bytes [.int .u64 0, .int .u64 0, .int .i64 0, .int .i64 0, .slice none 0 0]) (F : Fence) (m : Nat) (w0 : World) (fn : FuncId) (hfn : F.fn fn) (sv : Value) (Bs l D : Nat) (hBl : Bs ≠ l) (hDl : D ≠ l) (hDB : D ≠ Bs) (h0B : w0.heap.size ≤ Bs) (h0l : w0.heap.size ≤ l)
    (N : Nat) (hN : N ≤ maxLen) (hNb : N * bytes ≤ 140737488355328) (ss : List SpV) (x : SpV) (W : World) (h : ApAt5 tE tS w0 fn sv Bs l D ss W) (hlen : ss.length < N) (hne : tS ≠ tE) :
    YieldAt F m P l #[x.enc] W fun e W' => e = .returned (.bool true) ∧ ApAt5 tE tS w0 fn sv Bs l D (ss ++ [x]) W' ∧ KeepsWalks W W' := by
  have mixed := L.mixed; have t0 := L.t0; have tS1 := L.uS; have aS := L.aS; have zS := L.zS; have vS := L.vS; have aE := L.aE; have zE := L.zE; have vE := L.vE
  have u0 := run_underlying L.t0; have uS := run_underlying L.uS
  obtain ⟨i0, hi, hz0, hz1, hz2⟩ := info_parts L.iE
  obtain ⟨v, hv, hrow, _⟩ := h.box
  refine ⟨fn, #[.slice none 0 0, sv, .pointer (some ⟨Bs, 0, none⟩), undef, .slice none 0 0, undef, sv, x.enc, undef, undef, undef, undef, undef], apA tE, apB tE tS, by simpa [apRec5] using run_yield (P := P) (args := #[x.enc]) h.L rfl, roundIn_of_wpIn hfn ?_⟩
  unfold apA
  gi_wp2_with gi_round_op_a
  obtain ⟨Wa, hWa⟩ : ∃ Wa, W.alloc (.cells #[.int .u64 x.a, .int .u64 x.b, .int .i64 x.c, .int .i64 x.d, .slice x.p x.n x.m] tE) = Wa := ⟨_, rfl⟩
  have hl0 : l < W.heap.size := (Array.getElem?_eq_some_iff.1 h.L).1
  have hLa : Wa.heap[l]? = some (.loop (apRec5 tE tS fn sv Bs D .ready none)) := by rw [← hWa]; exact (Below.heap_alloc _ _ l hl0).trans h.L
  rw [hWa]
  have hsa : Wa.heap.size = W.heap.size + 1 := by rw [← hWa]; simp
  have hg0 : W.grownBy Wa none := by rw [← hWa]; exact World.grownBy_alloc W _ none
  have hk0 : KeepsWalks W Wa := by rw [← hWa]; exact KeepsWalks.alloc _ _
  have hx0 : Wa.heap[W.heap.size]? = some (.cells #[.int .u64 x.a, .int .u64 x.b, .int .i64 x.c, .int .i64 x.d, .slice x.p x.n x.m] tE (0, 0)) := by rw [← hWa]; exact World.alloc_heap_new W _
  have hBl0 : Bs < W.heap.size := (Array.getElem?_eq_some_iff.1 hv).1
  have hDl0 : D < W.heap.size := (Array.getElem?_eq_some_iff.1 h.K).1
  have hva : Wa.heap[Bs]? = some (.cells #[v] tS (0, 0)) := by rw [← hWa]; exact (Below.heap_alloc _ _ Bs hBl0).trans hv
  have hKa : Wa.heap[D]? = some (.deferred (some [])) := by rw [← hWa]; exact (Below.heap_alloc _ _ D hDl0).trans h.K
  have hrowa : Wa.ownsRow w0.heap.size tE 5 v ss.length (ss.flatMap SpV.cs) := by rw [← hWa]; exact hrow.alloc _
  have hba : Below w0.heap.size w0 Wa := by rw [← hWa]; exact h.below.alloc h.below.size _
  have hda : w0.drawn ≤ Wa.drawn := by rw [← hWa]; exact h.dr
  have hbr := run_beginRound (P := P) hLa rfl
  obtain ⟨W2, hW2⟩ : ∃ W2, Wa.putObj l (.loop { apRec5 tE tS fn sv Bs D .ready none with state := .busy }) = W2 := ⟨_, rfl⟩
  rw [hW2] at hbr
  refine ⟨W2, hbr, ?_⟩
  have hg2 : Wa.grownBy W2 (some l) := by rw [← hW2]; exact grownBy_putObj_a _ _ _
  have hk2 : KeepsWalks Wa W2 := by rw [← hW2]; exact KeepsWalks.putObj _ hLa rfl
  have hla : l < Wa.heap.size := by omega
  have hv2 : W2.heap[Bs]? = some (.cells #[v] tS (0, 0)) := by rw [← hW2]; exact (World.putObj_heap_other hBl).trans hva
  have hK2 : W2.heap[D]? = some (.deferred (some [])) := by rw [← hW2]; exact (World.putObj_heap_other hDl).trans hKa
  have hL2 : W2.heap[l]? = some (.loop { apRec5 tE tS fn sv Bs D .ready none with state := .busy }) := by rw [← hW2]; exact World.putObj_heap_same hla
  have hx2 : W2.heap[W.heap.size]? = some (.cells #[.int .u64 x.a, .int .u64 x.b, .int .i64 x.c, .int .i64 x.d, .slice x.p x.n x.m] tE (0, 0)) := by rw [← hW2]; exact (World.putObj_heap_other (by omega)).trans hx0
  have hrow2 : W2.ownsRow w0.heap.size tE 5 v ss.length (ss.flatMap SpV.cs) := hrowa.kept hg2 (ownsRow_ne_a hrowa hLa (fun cur e => by cases e))
  have hb2 : Below w0.heap.size w0 W2 := hba.grown hg2 hba.size (fun k e => by cases e; exact h0l)
  have hd2 : w0.drawn ≤ W2.drawn := by rw [← hW2]; exact hda
  obtain ⟨hc2, hf2⟩ := cell_of_box_a hv2
  have hcx : ∀ j (hj : j < 5), W2.cell? ⟨W.heap.size, j, none⟩ = some (x.cs[j]'(by simpa using hj)) := fun j hj => by
    simp only [World.cell?, hx2]
    match j, hj with
    | 0, _ => rfl
    | 1, _ => rfl
    | 2, _ => rfl
    | 3, _ => rfl
    | 4, _ => rfl
  have hcx0 := hcx 0 (by omega)
  have hcx1 := hcx 1 (by omega)
  have hcx2 := hcx 2 (by omega)
  have hcx3 := hcx 3 (by omega)
  have hcx4 := hcx 4 (by omega)
  clear hcx
  simp only [List.getElem_cons_zero, List.getElem_cons_succ] at hcx0 hcx1 hcx2 hcx3 hcx4
  have hBlt : Bs < W2.heap.size := (Array.getElem?_eq_some_iff.1 hv2).1
  have hl2 : l < W2.heap.size := (Array.getElem?_eq_some_iff.1 hL2).1
  have hDlt : D < W2.heap.size := (Array.getElem?_eq_some_iff.1 hK2).1
  have ne_of : ∀ {j : Nat} {o : Obj}, W2.heap[j]? = some o → (∀ cur, o ≠ .cells cur tE (0, 0)) → some j ≠ v.ownBlock := fun hj hno => by
    rcases ownsRow_ne_a hrow2 hj hno with e | e
    · rw [e]; simp
    · exact fun e' => e e'.symm
  clear hW2 hWa
  unfold apB
  gi_wp2_with (first
    | (gi_at_builtin; refine wpListIn_append_dr _ rfl _ _ tS rfl w0.heap.size tE i0 (.agg ⟨[.int .u64 0, .int .u64 0, .int .i64 0, .int .i64 0, .slice none 0 0]⟩) 5 bytes L.uS hi hz0 hz1 hz2 rfl (by decide) _ _ _ rfl (hrow2.alloc _) ⟨W2.heap.size, 0, none⟩ 1 1 x.cs rfl rfl (cells_new W2 x.cs tE) (by intro u hu; simp [SpV.cs] at hu; rcases hu with rfl | rfl | rfl | rfl | rfl <;> rfl) (by omega) (by have : (ss.length + 1) * bytes ≤ N * bytes := Nat.mul_le_mul_right _ (by omega); omega) (by have := hb2.size; simp; omega) ?_; intro v' w3 hown' hg3 hdr3
       have hv3 : w3.heap[Bs]? = some (.cells #[v] tS (0, 0)) := (hg3.block Bs (by simp; omega) (ne_of hv2 (fun cur e => hne (Obj.cells.inj e).2.1))).trans ((Below.heap_alloc _ _ Bs hBlt).trans hv2)
       obtain ⟨hc3, hf3⟩ := cell_of_box_a hv3
       obtain ⟨g', cap', cur', rfl, hbase', hgb', hr1, hr2, hr3, hr4⟩ : ∃ g' cap' cur', v' = .slice (some ⟨g', 0, none⟩) (ss.length + 1) cap' ∧ w0.heap.size ≤ g' ∧ w3.heap[g']? = some (.cells cur' tE (0, 0)) ∧ ss.length + 1 ≤ cap' ∧ cap' ≤ maxLen ∧ cur'.size = cap' * 5 ∧ cur'.toList.take ((ss.length + 1) * 5) = ss.flatMap SpV.cs ++ x.cs := by
         rcases hown'.2 with ⟨_, h0⟩ | h'
         · exact absurd h0 (by omega)
         · exact h'
       go_frame)
    | gi_round_op_a)
  have hd3 : w0.drawn ≤ w3.drawn := Nat.le_trans hd2 hdr3
  have hg3' : (W2.alloc (.cells ⟨x.cs⟩ tE)).grownBy w3 v.ownBlock := hg3
  have hL3 : w3.heap[l]? = some (.loop { apRec5 tE tS fn sv Bs D .ready none with state := .busy }) := (hg3'.block l (by simp; omega) (ne_of hL2 (fun cur e => by cases e))).trans ((Below.heap_alloc _ _ l hl2).trans hL2)
  have hK3 : w3.heap[D]? = some (.deferred (some [])) := (hg3'.block D (by simp; omega) (ne_of hK2 (fun cur e => by cases e))).trans ((Below.heap_alloc _ _ D hDlt).trans hK2)
  obtain ⟨w4, hw4⟩ : ∃ w4, w3.setCell ⟨Bs, 0, none⟩ (.slice (some ⟨g', 0, none⟩) (ss.length + 1) cap') = w4 := ⟨_, rfl⟩
  rw [hw4]
  have hg4 : w3.grownBy w4 (some Bs) := by rw [← hw4]; exact grownBy_setCell0_a _ _ _
  have hv4 : w4.heap[Bs]? = some (.cells #[.slice (some ⟨g', 0, none⟩) (ss.length + 1) cap'] tS (0, 0)) := by rw [← hw4]; exact heap_setCell_box_a _ hv3
  have hL4 : w4.heap[l]? = some (.loop { apRec5 tE tS fn sv Bs D .ready none with state := .busy }) := (hg4.block l (Array.getElem?_eq_some_iff.1 hL3).1 (fun e => hBl (by cases e; rfl))).trans hL3
  have hK4 : w4.heap[D]? = some (.deferred (some [])) := (hg4.block D (Array.getElem?_eq_some_iff.1 hK3).1 (fun e => hDB (by cases e; rfl))).trans hK3
  have hrow4 := hown'.kept hg4 (ownsRow_ne_a hown' hv3 (fun cur e => hne (Obj.cells.inj e).2.1))
  have hd4 : w0.drawn ≤ w4.drawn := by rw [← hw4]; exact hd3
  have hl4 : l < w4.heap.size := (Array.getElem?_eq_some_iff.1 hL4).1
  have hb3 : Below w0.heap.size w0 w3 := (hb2.alloc hb2.size _).grown hg3' (by have := hb2.size; simp; omega) (fun k e => (hrow2.lt k e).1)
  have hb4 : Below w0.heap.size w0 w4 := hb3.grown hg4 hb3.size (fun k e => by cases e; exact h0B)
  have hk4 : KeepsWalks W w4 := (((hk0.trans hk2).trans (KeepsWalks.alloc _ _)).trans (KeepsWalks.of_grownBy hg3' (ownsRow_not_walk_a (hrow2.alloc _)))).trans (by rw [← hw4]; exact KeepsWalks.setCell _ _ _)
  clear hw4
  refine ⟨_, _, run_endRound none hL4, rfl, ⟨⟨_, (World.putObj_heap_other hBl).trans hv4, ?_, by simp⟩, World.putObj_heap_same hl4, (World.putObj_heap_other hDl).trans hK4, hb4.grown (grownBy_putObj_a _ _ _) hb4.size (fun k e => by cases e; exact h0l), hd4⟩, hk4.trans (KeepsWalks.putObj _ hL4 rfl)⟩
  have := hrow4.kept (grownBy_putObj_a w4 l (.loop { { apRec5 tE tS fn sv Bs D .ready none with state := .busy } with state := if (none : Option Code).isNone then .ready else .done, pending := none })) (ownsRow_ne_a hrow4 hL4 (fun cur e => by cases e))
  simpa using this

def apCode (tE tS tQ : Nat) : Code := ((Code.region 0
            #[{ dst := some 2, op := Op.box tS (Operand.tmp 0), type := 0, pos := "iter.go:50", after := #[],
                guard := none },
              { dst := some 4, op := Op.assign (Operand.const (Value.slice none 0 0)), type := tS, pos := "iter.go:50",
                after := #[], guard := none }]
            false).seq
        (((Code.region 1
                  #[{ dst := some 6, op := Op.move (Operand.tmp 1), type := tQ, pos := "iter.go:51", after := #[],
                      guard := none }]
                  false).seq
              (Code.block 0
                (Code.rangeFunc (Operand.tmp 6) #[7] (apA tE) (apB tE tS)))).seq
          ((Code.region 4
                #[{ dst := some 12, op := Op.load tS (Operand.tmp 2), type := tS, pos := "iter.go:54", after := #[],
                    guard := none },
                  { dst := some 4, op := Op.assign (Operand.tmp 12), type := tS, pos := "iter.go:54",
                    after := #[{ on := 0, ground := Ground.data }, { on := 0, ground := Ground.phase }],
                    guard := none }]
                false).seq
            Code.ret)))

set_option maxRecDepth 100000 in
set_option maxHeartbeats 2000000 in
theorem ap5_in (tE tS tQ bytes : Nat) (L : ElemK P tE tS 5 bytes [.int .u64 0, .int .u64 0, .int .i64 0, .int .i64 0, .slice none 0 0]) (hne : tS ≠ tE) (F : Fence) (n f : Nat) (fn : Func) (hf : P.funcs[f]? = some fn) (hb : fn.body = some (apCode tE tS tQ)) (hnt : fn.ntmps = 13) (hres : fn.results = #[.tmp 4])
    (h11 : F.fn f) (hro : F.round = none) (hn : 2 ≤ n) (g : Nat) (lb : Array Value) (hFg : F.fn g) (eg : ∀ args w, (callFunc g args).run P w = .ok (.enter g args) w)
    (S : List SpV → Prop) (N : Nat) (hN : N ≤ maxLen) (hNb : N * bytes ≤ 140737488355328) (w : World) (hseq : SeqD F (n - 1) P g lb SpV.enc S N w) :
    CallsIn F n P f #[.slice none 0 0, .func (.func g) #[] lb] w fun e w' => ∃ (v : Value) (ss : List SpV), e = .returned v ∧ S ss ∧ w'.ownsRow w.heap.size tE 5 v ss.length (ss.flatMap SpV.cs) ∧ (v = .slice none 0 0 ↔ ss = []) ∧ Below w.heap.size w w' ∧ w.drawn ≤ w'.drawn := by
  have h1 : 1 ≤ n := by omega
  have mixed := L.mixed; have t0 := L.t0; have tS1 := L.uS; have aS := L.aS; have zS := L.zS; have vS := L.vS; have aE := L.aE; have zE := L.zE; have vE := L.vE
  have u0 := run_underlying L.t0; have uS := run_underlying L.uS
  refine callsIn_of_wp_marks hf hb h11 ?_ hro
  unfold apCode
  simp only [List.size_toArray, List.length_cons, List.length_nil, Nat.reduceAdd, Nat.reduceSub, Array.replicate_succ, Array.replicate_zero, List.push_toArray, List.append_toArray, List.nil_append, List.cons_append]
  gi_wp2
  refine wpIn_rangeFunc ?_
  intro fn' hfn
  rw [hro]
  obtain ⟨W0, hW0⟩ : ∃ W0, w.alloc (.cells #[.slice none 0 0] tS) = W0 := ⟨_, rfl⟩
  have hs0 : W0.heap.size = w.heap.size + 1 := by rw [← hW0]; simp
  have hv0 : W0.heap[w.heap.size]? = some (.cells #[.slice none 0 0] tS (0, 0)) := by rw [← hW0]; exact World.alloc_heap_new w _
  have hb0 : Below w.heap.size w W0 := by rw [← hW0]; exact (Below.refl _ w).alloc (Nat.le_refl _) _
  rw [hW0]
  obtain ⟨W1, hW1⟩ : ∃ W1, (W0.alloc (.deferred (some []))).alloc (.loop (apRec5 tE tS fn' (.func (.func g) #[] lb) w.heap.size W0.heap.size .ready none)) = W1 := ⟨_, rfl⟩
  have hold : ∀ k, k < W0.heap.size → W1.heap[k]? = W0.heap[k]? := fun k hk => by
    rw [← hW1]; exact (Below.heap_alloc _ _ k (by simp; omega)).trans (Below.heap_alloc _ _ k hk)
  have hb1 : Below w.heap.size w W1 := by rw [← hW1]; exact (hb0.alloc hb0.size _).alloc (by have := hb0.size; simp; omega) _
  have hs1 : W1.heap.size = W0.heap.size + 2 := by rw [← hW1]; simp
  have hM : ApAt5 tE tS w fn' (.func (.func g) #[] lb) w.heap.size (W0.heap.size + 1) W0.heap.size [] W1 :=
    ⟨⟨_, (hold w.heap.size (by omega)).trans hv0, ⟨rfl, .inl ⟨rfl, rfl⟩⟩, by simp⟩,
     by rw [← hW1]; have := World.alloc_heap_new (W0.alloc (.deferred (some []))) (.loop (apRec5 tE tS fn' (.func (.func g) #[] lb) w.heap.size W0.heap.size .ready none)); rwa [World.size_alloc] at this,
     by rw [← hW1]; exact (Below.heap_alloc _ _ _ (by simp)).trans (World.alloc_heap_new W0 _), hb1, by rw [← hW1, ← hW0]; exact Nat.le_refl _⟩
  refine ⟨W0.heap.size + 1, [{ target := .collected W0.heap.size, args := #[] }], W1, { target := .fn (.func g) lb, args := #[.func (.yield (W0.heap.size + 1)) #[] #[]] }, W1, g,
    #[.func (.yield (W0.heap.size + 1)) #[] #[]] ++ lb, W1, ?_, ?_, ?_, ?_, fun _ => h1, ?_⟩
  · rw [← hW1]; exact run_enterLoop_outer _ _ _ _ _
  · simp [resolve, go_sem]
  · intro f' hf'; simp [Target.leads] at hf'; subst hf'; exact hFg
  · simp [invoke, go_sem, eg]
  · refine (hseq (W0.heap.size + 1) (ApAt5 tE tS w fn' (.func (.func g) #[] lb) w.heap.size (W0.heap.size + 1) W0.heap.size) W1 hb1 (ap5_abides tE tS _ _ _ _ _ _ _ hb1.size)
      (fun pre x W hJ hl => ap5_yield tE tS bytes L F (n - 1 - 1) w fn' hfn _ w.heap.size (W0.heap.size + 1) W0.heap.size (by omega) (by omega) (by omega) (Nat.le_refl _) (by omega) N hN hNb pre x W hJ hl hne) hM).mono ?_
    rintro e W2 ⟨⟨v0, rfl⟩, ss, hS, h2⟩
    obtain ⟨v, hv, hrow, hnil⟩ := h2.box
    have hend := run_endLoop (P := P) h2.L (by simp [apRec5])
    obtain ⟨W3, hW3⟩ : ∃ W3, W2.putObj (W0.heap.size + 1) (.loop { apRec5 tE tS fn' (.func (.func g) #[] lb) w.heap.size W0.heap.size .ready none with state := .exhausted }) = W3 := ⟨_, rfl⟩
    rw [hW3] at hend
    have hg3 : W2.grownBy W3 (some (W0.heap.size + 1)) := by rw [← hW3]; exact grownBy_putObj_a _ _ _
    have hv3 : W3.heap[w.heap.size]? = some (.cells #[v] tS (0, 0)) := by rw [← hW3]; exact (World.putObj_heap_other (by omega)).trans hv
    have hK3 : W3.heap[W0.heap.size]? = some (.deferred (some [])) := by rw [← hW3]; exact (World.putObj_heap_other (by omega)).trans h2.K
    have hrow3 := hrow.kept hg3 (ownsRow_ne_a hrow h2.L (fun cur e => by cases e))
    have hb3 : Below w.heap.size w W3 := h2.below.grown hg3 h2.below.size (fun k e => by cases e; omega)
    have hd3 : w.drawn ≤ W3.drawn := by rw [← hW3]; exact h2.dr
    obtain ⟨hc3, hf3⟩ := cell_of_box_a hv3
    clear hW3
    refine ⟨none, W3, hend, ?_⟩
    gi_wp2
    rw [← hs0]
    refine ⟨by simp, .inl ⟨_, _, rfl, run_takeDeferred hK3, ?_⟩⟩
    exact ⟨_, results_tmp hres _ _ _, v, ss, rfl, hS, hrow3.kept (grownBy_putObj_a _ _ _) (ownsRow_ne_a hrow3 hK3 (fun cur e => by cases e)), hnil, hb3.grown (grownBy_putObj_a _ _ _) hb3.size (fun k e => by cases e; omega), hd3⟩

def vaCode (tE tM tY tB : Nat) : Code := ((Code.region 0
            #[{ dst := some 5, op := Op.load tM (Operand.tmp 1), type := tM, pos := "iter.go:40", after := #[],
                guard := none },
              { dst := some 6, op := Op.range tM (Operand.tmp 5), type := 0, pos := "iter.go:40",
                after := #[{ on := 0, ground := Ground.data }], guard := none }]
            false).seq
        (Code.block 0
          ((Code.region 1
                  #[{ dst := some 7, op := Op.next (Operand.tmp 6) false, type := 0, pos := "iter.go:40", after := #[],
                      guard := none },
                    { dst := some 8, op := Op.extract (Operand.tmp 7) 0, type := tB, pos := "iter.go:40",
                      after := #[{ on := 0, ground := Ground.data }], guard := none }]
                  false).seq
              ((Code.cond (Operand.tmp 8) Code.skip (Code.exit 0)).seq
                (Code.block 1
                  ((Code.region 2
                        #[{ dst := some 9, op := Op.entry (Operand.tmp 6), type := 0, pos := "iter.go:40", after := #[],
                            guard := none },
                          { dst := some 10, op := Op.extract (Operand.tmp 9) 1, type := tE, pos := "iter.go:40",
                            after := #[{ on := 0, ground := Ground.data }], guard := none },
                          { dst := some 4, op := Op.alloc tE, type := 0, pos := "iter.go:40", after := #[],
                            guard := none },
                          { dst := none, op := Op.store tE (Operand.tmp 4) (Operand.tmp 10), type := 0,
                            pos := "iter.go:40",
                            after :=
                              #[{ on := 2, ground := Ground.data }, { on := 1, ground := Ground.data },
                                { on := 0, ground := Ground.phase }, { on := 1, ground := Ground.phase },
                                { on := 2, ground := Ground.phase }],
                            guard := none }]
                        false).seq
                    ((Code.region 3
                          #[{ dst := some 11, op := Op.move (Operand.tmp 0), type := tY, pos := "iter.go:41",
                              after := #[], guard := none },
                            { dst := some 12, op := Op.load tE (Operand.tmp 4), type := tE, pos := "iter.go:41",
                              after := #[], guard := none },
                            { dst := some 13,
                              op :=
                                Op.call
                                  { callee := Callee.value (Operand.tmp 11), args := #[Operand.tmp 12],
                                    argTypes := #[tE] },
                              type := tB, pos := "iter.go:41",
                              after := #[{ on := 0, ground := Ground.data }, { on := 1, ground := Ground.data }],
                              guard := none },
                            { dst := some 14, op := Op.unOp UnOp.not tB (Operand.tmp 13), type := tB, pos := "iter.go:41",
                              after := #[{ on := 2, ground := Ground.data }], guard := none }]
                          false).seq
                      (Code.cond (Operand.tmp 14) Code.ret Code.skip)))))).loop))

structure MapsK (P : Program) (tM tK tE tB : Nat) : Prop where
  uM : P.underlying tM = some (TypeDesc.map tK tE)
  aM : ∀ w, (isAgg tM).run P w = .ok false w
  zM : ∀ w, (Go.sizeOf tM).run P w = .ok 1 w
  vM : ∀ w, (zeroValue tM).run P w = .ok (Value.map none) w
  uB : P.underlying tB = some .bool
  aB : ∀ w, (isAgg tB).run P w = .ok false w
  zB : ∀ w, (Go.sizeOf tB).run P w = .ok 1 w
  vB : ∀ w, (zeroValue tB).run P w = .ok (Value.bool false) w

set_option maxRecDepth 100000 in
set_option maxHeartbeats 1000000 in
theorem va5_in (tE tS tM tK tY tB bytes : Nat) (L : ElemK P tE tS 5 bytes [.int .u64 0, .int .u64 0, .int .i64 0, .int .i64 0, .slice none 0 0]) (M : MapsK P tM tK tE tB) (F : Fence) (n f : Nat) (fn : Func) (hf : P.funcs[f]? = some fn) (hb : fn.body = some (vaCode tE tM tY tB)) (hnt : fn.ntmps = 15) (hres : fn.results = #[])
    (h10 : F.fn f) (hro : F.round = none) (hn : 1 ≤ n) (l Bm b clk : Nat) (es : List MapEntry) (xs : List SpV) (hxs : es.map (·.val) = xs.map SpV.enc) (J : List SpV → World → Prop)
    (hY : ∀ pre x W, J pre W → pre.length < es.length → YieldAt F (n - 1) P l #[x.enc] W fun e W' => e = .returned (.bool true) ∧ J (pre ++ [x]) W' ∧ KeepsWalks W W')
    (W : World) (hJ : AbD W.heap.size J) (hm : W.cell? ⟨Bm, 0, none⟩ = some (.map (some b))) (hown : W.heap[b]? = some (.map ⟨es⟩ clk)) (nd : (es.map (·.born)).Nodup) (lt : ∀ e ∈ es, e.born < clk) (h0 : J [] W) :
    CallsIn F n P f #[.func (.yield l) #[] #[], .pointer (some ⟨Bm, 0, none⟩)] W fun e W' => (∃ v, e = .returned v) ∧ ∃ ss : List SpV, ss.Perm xs ∧ J ss W' := by
  have mixed := L.mixed; have t0 := L.t0; have tS1 := L.uS; have aS := L.aS; have zS := L.zS; have vS := L.vS; have aE := L.aE; have zE := L.zE; have vE := L.vE
  have uM1 := M.uM; have aM := M.aM; have zM := M.zM; have vM := M.vM; have uB1 := M.uB; have aB := M.aB; have zB := M.zB; have vB := M.vB
  have u0 := run_underlying L.t0; have uS := run_underlying L.uS; have uM := run_underlying M.uM; have uB := run_underlying M.uB
  cases fn
  simp only at hb hnt hres
  subst hb hnt hres
  refine callsIn_of_wp hf rfl h10 ?_ hro
  unfold vaCode
  simp only [List.size_toArray, List.length_cons, List.length_nil, Nat.reduceAdd, Nat.reduceSub, Array.replicate_succ, Array.replicate_zero, List.push_toArray, List.append_toArray, List.nil_append, List.cons_append]
  gi_wp2_with (first
    | (gi_at_range; refine wpListIn_range_raw rfl _ tM rfl tK tE M.uM b es clk rfl hown ?_)
    | gi_in)
  go_frame
  have hmL : ∀ {pre : List SpV} {les : List MapEntry}, pre.map SpV.enc = les.map (·.val) → ∀ e ∈ es, ∃ x : SpV, e.val = x.enc := fun _ e he => by
    have : e.val ∈ xs.map SpV.enc := by rw [← hxs]; exact List.mem_map_of_mem he
    obtain ⟨x, _, hx⟩ := List.mem_map.1 this
    exact ⟨x, hx.symm⟩
  gi_loopw [4] (fun _ wr => ∃ (seen : List Nat) (les : List MapEntry) (pre : List SpV), Walks b W.heap.size es clk seen wr ∧ (les ++ es.filter fun x => !seen.contains x.born).Perm es ∧ pre.map SpV.enc = les.map (·.val) ∧ J pre wr)
    (fun _ wr => match wr.heap[W.heap.size]? with
      | some (.mapIter _ _ seen _) => (es.filter fun x => !seen.toList.contains x.born).length
      | _ => 0)
  case atStart =>
    have hfe : (es.filter fun x => !([] : List Nat).contains x.born) = es := List.filter_eq_self.2 (by simp)
    exact ⟨[], [], [], Walks.start hown nd lt, by rw [hfe]; exact List.Perm.refl _, rfl, hJ [] W _ none h0 (World.grownBy_alloc W _ none) (Nat.le_refl _) (fun r e => by cases e)⟩
  case round =>
    obtain ⟨seen, les, pre, hW, hp, hpl, hJs⟩ := hrel
    gi_wp2_with (first
      | (gi_at_next; refine wpListIn_next_raw rfl _ rfl rfl hW ?_ ?_)
      | gi_in)
    · -- nothing is left
      intro q hq hall
      have hemp : (es.filter fun x => !seen.contains x.born) = [] := by
        rw [List.filter_eq_nil_iff]; intro e he; simpa using hall e he
      rw [hemp, List.append_nil] at hp
      have hpp : pre.Perm xs := by
        have h1 : (pre.map SpV.enc).Perm (xs.map SpV.enc) := by rw [hpl, ← hxs]; exact hp.map _
        have h2 := h1.map SpV.dec
        have hid : (SpV.dec ∘ SpV.enc) = id := rfl
        simpa [List.map_map, hid] using h2
      have hJq : J pre { wr with drawn := q } := hJ pre wr _ none hJs ⟨rfl, rfl, rfl, Nat.le_refl _, fun _ _ _ => rfl⟩ hq (fun r e => by cases e)
      gi_wp2
      go_end0
      exact ⟨⟨_, rfl⟩, pre, hpp, hJq⟩
    · -- an entry has come
      intro e w2 he hns hW2 hg2 hdr2 hs2 hen
      obtain ⟨x, hx⟩ := hmL hpl e he
      rw [hx] at hen ⊢
      have hJ2 : J pre w2 := hJ pre wr w2 (some W.heap.size) hJs hg2 hdr2 (fun r e => by cases e; exact ⟨Nat.le_refl _, ⟨_, hW.it, rfl⟩⟩)
      have hstep := filter_step he hns nd
      have hlen : pre.length < es.length := by
        have h1 := hp.length_eq
        have h2 := hstep.length_eq
        have h3 : pre.length = les.length := by have := congrArg List.length hpl; simpa using this
        simp only [List.length_append, List.length_cons] at h1 h2
        omega
      obtain ⟨w3, hw3⟩ : ∃ w3, w2.alloc (.cells #[.int .u64 x.a, .int .u64 x.b, .int .i64 x.c, .int .i64 x.d, .slice x.p x.n x.m] tE) = w3 := ⟨_, rfl⟩
      have hJ3 : J pre w3 := by rw [← hw3]; exact hJ pre w2 _ none hJ2 (World.grownBy_alloc w2 _ none) (Nat.le_refl _) (fun r e => by cases e)
      have hW3 : Walks b W.heap.size es clk (seen ++ [e.born]) w3 := by rw [← hw3]; exact hW2.keep (KeepsWalks.alloc _ _)
      have hx3 : w3.heap[w2.heap.size]? = some (.cells #[.int .u64 x.a, .int .u64 x.b, .int .i64 x.c, .int .i64 x.d, .slice x.p x.n x.m] tE (0, 0)) := by rw [← hw3]; exact World.alloc_heap_new w2 _
      have hcx0 : w3.cell? ⟨w2.heap.size, 0, none⟩ = some (.int .u64 x.a) := by simp only [World.cell?, hx3]; rfl
      have hcx1 : w3.cell? ⟨w2.heap.size, 1, none⟩ = some (.int .u64 x.b) := by simp only [World.cell?, hx3]; rfl
      have hcx2 : w3.cell? ⟨w2.heap.size, 2, none⟩ = some (.int .i64 x.c) := by simp only [World.cell?, hx3]; rfl
      have hcx3 : w3.cell? ⟨w2.heap.size, 3, none⟩ = some (.int .i64 x.d) := by simp only [World.cell?, hx3]; rfl
      have hcx4 : w3.cell? ⟨w2.heap.size, 4, none⟩ = some (.slice x.p x.n x.m) := by simp only [World.cell?, hx3]; rfl
      obtain ⟨fn', tmps, assign, body, hy, hR⟩ := hY pre x w3 hJ3 hlen
      clear hs2
      gi_wp2
      refine hR.mono ?_
      rintro e' W4 ⟨rfl, hJ4, hk4⟩
      gi_wp2
      have hW4 := hW3.keep hk4
      go_roundw
      case rel =>
        refine ⟨_, les ++ [e], pre ++ [x], hW4, ?_, by simp [hpl, hx], hJ4⟩
        rw [List.append_assoc]
        exact (List.Perm.append_left les hstep.symm).trans hp
      case measure =>
        have h2 := hstep.length_eq
        simp only [hW4.it, hW.it]
        simp only [List.length_cons] at h2
        omega

end Go.Proofs

namespace Go.VL

open Go.Proofs Go.RowKit Go.Lib Go.Sort

variable {P : Program}

theorem grow_of {w w' : World} (h : Fr (fun _ => False) w w') : ∃ q os, w' = grow (w.drewN q) os := by
  refine ⟨w'.drawn - w.drawn, w'.heap.extract w.heap.size w'.heap.size, ?_⟩
  have hh : w'.heap = w.heap ++ w'.heap.extract w.heap.size w'.heap.size := by
    apply Array.ext_getElem?
    intro k
    rw [Array.getElem?_append]
    split
    · rename_i hk
      exact h.block k hk (fun x => x)
    · rename_i hk
      rw [Array.getElem?_extract]
      have hs := h.size
      by_cases hl : k < w'.heap.size
      · rw [if_pos (by omega), show w.heap.size + (k - w.heap.size) = k by omega]
      · rw [if_neg (by omega), Array.getElem?_eq_none (by omega)]
  have hd : w.drawn + (w'.drawn - w.drawn) = w'.drawn := by have := h.os.dr; omega
  cases w' with
  | mk heap tape drawn os output =>
    simp only [grow, World.drewN] at *
    have h1 := h.os.os
    have h2 := h.tape
    have h3 := h.output
    simp only at h1 h2 h3
    subst h1 h2 h3
    rw [← hh, hd]

/-- nothing is owned -/
def σn : St := ⟨0, fun _ => none⟩

theorem bare_calls {f : Nat} {args : List AV} {r : Value} {x : AV} (h : ACalls P f args σn (fun v σ' => v = x ∧ σ' = σn)) (hx : ∀ κ w v, V κ w v x → v = r) {vs : List Value} (w : World) (hv : ∀ κ : Kx, Vl κ w vs args) :
    Calls P f ⟨vs⟩ w fun e w' => e = .returned r ∧ ∃ q os', w' = grow (w.drewN q) os' := by
  let κ0 : Kx := ⟨fun _ _ => False, fun _ => 0, fun _ => 0, fun _ => 0, fun _ => 0, fun _ => False⟩
  have hR : R 0 (fun _ => False) κ0 w σn := ⟨fun n h => h.elim, fun n r h => by simp [σn] at h, fun n m r s h => by simp [σn] at h, fun b o h => h.elim, fun n r h => by simp [σn] at h⟩
  refine (h.2 κ0 w vs 0 _ hR (hv κ0)).mono ?_
  rintro e w' ⟨v, x', κ', σ', rfl, _, _, _, hf, _, hvx, rfl, _⟩
  refine ⟨by rw [hx _ _ _ hvx], grow_of ⟨hf.os, hf.tape, hf.output, hf.size, fun b hb _ => hf.block b hb ?_⟩⟩
  rintro ⟨n, r, hn, _⟩
  simp [σn] at hn

/-- which of two spans stands ahead, by Start, Id and Trace -/
def cfS (x y : SpV) : Int := if x.c < y.c then -1 else if y.c < x.c then 1 else if x.b < y.b then -1 else if y.b < x.b then 1 else if x.a < y.a then -1 else if y.a < x.a then 1 else 0

theorem ltS (x y : SpV) : ltOf cfS x y = decide (x.c < y.c ∨ x.c = y.c ∧ (x.b < y.b ∨ x.b = y.b ∧ x.a < y.a)) := by
  unfold ltOf cfS
  rw [decide_eq_decide]
  split
  · simp; omega
  · split
    · simp; omega
    · split
      · simp; omega
      · split
        · simp; omega
        · split
          · simp; omega
          · split <;> simp <;> omega

theorem swoS : SWO (ltOf cfS) where
  irrefl x := by rw [ltS]; simp
  trans x y z h1 h2 := by rw [ltS] at *; simp only [decide_eq_true_eq] at *; omega
  ntrans x y z h1 h2 := by rw [ltS] at *; simp only [decide_eq_false_iff_not] at *; omega

theorem cmp_lays {g : Nat} (h : ∀ a b c d a' b' c' d' : Int, ACalls P g [.agg [.int .u64 a, .int .u64 b, .int .i64 c, .int .i64 d, .any], .agg [.int .u64 a', .int .u64 b', .int .i64 c', .int .i64 d', .any]] σn
      (fun v σ' => v = .int .i64 (cfS ⟨a, b, c, d, none, 0, 0⟩ ⟨a', b', c', d', none, 0, 0⟩) ∧ σ' = σn)) (blk off size : Nat) (w : World) : CmpLays P g #[] SpV.cs 5 cfS blk off size w := by
  intro m os dk _ x y
  have hv : ∀ (κ : Kx) (w : World) (x : SpV), V κ w (.agg ⟨x.cs⟩) (.agg [.int .u64 x.a, .int .u64 x.b, .int .i64 x.c, .int .i64 x.d, .any]) := fun κ w x =>
    .agg _ _ (.cons _ _ _ _ (.int _ _) (.cons _ _ _ _ (.int _ _) (.cons _ _ _ _ (.int _ _) (.cons _ _ _ _ (.int _ _) (.cons _ _ _ _ (.any _) .nil)))))
  have := bare_calls (h x.a x.b x.c x.d y.a y.b y.c y.d) (r := .int .i64 (cfS x y)) (fun κ w v hv => hv.int_inv) (vs := [.agg ⟨x.cs⟩, .agg ⟨y.cs⟩]) (sortWorldK SpV.cs 5 w blk off m dk os)
    (fun κ => .cons _ _ _ _ (hv κ _ x) (.cons _ _ _ _ (hv κ _ y) .nil))
  simpa using this

end Go.VL

namespace Go.VL

open Go.Proofs Go.RowKit Go.Lib Go.Sort

variable {P : Program} {κ : Kx} {w : World}

abbrev cells5 (s : Sp) : List AV := [.int .u64 (s.tr : Int), .int .u64 (s.id : Int), .int .i64 s.st, .int .i64 s.en, .sl (bytesAV s.da) .none]

/-- a span in the memory -/
structure SpR (κ : Kx) (w : World) (x : SpV) (s : Sp) : Prop where
  a : x.a = s.tr
  b : x.b = s.id
  c : x.c = s.st
  d : x.d = s.en
  v : V κ w (.slice x.p x.n x.m) (.sl (bytesAV s.da) .none)

theorem SpR.vl {x : SpV} {s : Sp} (h : SpR κ w x s) : Vl κ w x.cs (cells5 s) := by
  obtain ⟨h1, h2, h3, h4, h5⟩ := h
  unfold SpV.cs cells5
  rw [h1, h2, h3, h4]
  exact .cons _ _ _ _ (.int _ _) (.cons _ _ _ _ (.int _ _) (.cons _ _ _ _ (.int _ _) (.cons _ _ _ _ (.int _ _) (.cons _ _ _ _ h5 .nil))))

theorem slice_of {v : Value} {xs : List AV} {g : Ver} (h : V κ w v (.sl xs g)) : ∃ p n m, v = .slice p n m := by
  rcases h.sl_inv with ⟨b, h1, _⟩ | ⟨b, i, c, k, h1, _⟩ <;> exact ⟨_, _, _, h1⟩

theorem vl_sp {us : List Value} {s : Sp} (h : Vl κ w us (cells5 s)) : ∃ x : SpV, us = x.cs ∧ SpR κ w x s := by
  cases h with
  | cons v1 _ r1 _ h1 t1 =>
  cases t1 with
  | cons v2 _ r2 _ h2 t2 =>
  cases t2 with
  | cons v3 _ r3 _ h3 t3 =>
  cases t3 with
  | cons v4 _ r4 _ h4 t4 =>
  cases t4 with
  | cons v5 _ r5 _ h5 t5 =>
  cases t5
  obtain ⟨p, n, m, rfl⟩ := slice_of h5
  obtain rfl := h1.int_inv
  obtain rfl := h2.int_inv
  obtain rfl := h3.int_inv
  obtain rfl := h4.int_inv
  exact ⟨⟨_, _, _, _, p, n, m⟩, rfl, rfl, rfl, rfl, rfl, h5⟩

theorem sp_val {v : Value} {s : Sp} (h : V κ w v s.av) : ∃ x : SpV, v = x.enc ∧ SpR κ w x s := by
  obtain ⟨u, rfl, hu⟩ := h.agg_inv
  obtain ⟨x, rfl, hx⟩ := vl_sp hu
  exact ⟨x, rfl, hx⟩

/-- spans in the memory -/
def RelS (κ : Kx) (w : World) : List SpV → List Sp → Prop
  | [], [] => True
  | x :: xs, s :: l => SpR κ w x s ∧ RelS κ w xs l
  | _, _ => False

theorem RelS.length : ∀ {xs : List SpV} {l : List Sp}, RelS κ w xs l → xs.length = l.length
  | [], [], _ => rfl
  | x :: xs, s :: l, h => by simp [RelS.length h.2]
  | [], _ :: _, h => h.elim
  | _ :: _, [], h => h.elim

theorem RelS.vl : ∀ {xs : List SpV} {l : List Sp}, RelS κ w xs l → Vl κ w (xs.flatMap SpV.cs) (l.flatMap cells5)
  | [], [], _ => .nil
  | x :: xs, s :: l, h => by simpa using h.1.vl.append (RelS.vl h.2)
  | [], _ :: _, h => h.elim
  | _ :: _, [], h => h.elim

theorem RelS.get : ∀ {xs : List SpV} {l : List Sp}, RelS κ w xs l → ∀ i (h1 : i < xs.length) (h2 : i < l.length), SpR κ w xs[i] l[i]
  | [], [], _, i, h1, _ => absurd h1 (by simp)
  | x :: xs, s :: l, h, 0, _, _ => h.1
  | x :: xs, s :: l, h, i + 1, h1, h2 => RelS.get h.2 i (by simpa using h1) (by simpa using h2)
  | [], _ :: _, h, _, _, _ => h.elim
  | _ :: _, [], h, _, _, _ => h.elim

theorem rel_of_vl : ∀ {l : List Sp} {us : List Value}, Vl κ w us (l.flatMap cells5) → ∃ xs, us = xs.flatMap SpV.cs ∧ RelS κ w xs l
  | [], us, h => by cases h; exact ⟨[], rfl, trivial⟩
  | s :: l, us, h => by
    have h1 := h.take 5
    have h2 := h.drop 5
    have e1 : ((s :: l).flatMap cells5).take 5 = cells5 s := by simp [cells5]
    have e2 : ((s :: l).flatMap cells5).drop 5 = l.flatMap cells5 := by simp [cells5]
    rw [e1] at h1; rw [e2] at h2
    obtain ⟨x, hx, hr⟩ := vl_sp h1
    obtain ⟨xs, hxs, hrs⟩ := rel_of_vl h2
    exact ⟨x :: xs, by rw [List.flatMap_cons, ← hx, ← hxs, List.take_append_drop], hr, hrs⟩

theorem rel_of_vm : ∀ {ents : List MapEntry} {es : List (AV × AV)} {l : List Sp}, Vm κ w ents es → es.map (·.2) = spsAV l → ∃ xs : List SpV, ents.map (·.val) = xs.map SpV.enc ∧ RelS κ w xs l
  | _, _, l, .nil, hl => by
    cases l with
    | nil => exact ⟨[], rfl, trivial⟩
    | cons s l => simp [spsAV] at hl
  | _, _, l, .cons e p es ps hk hv t, hl => by
    cases l with
    | nil => simp [spsAV] at hl
    | cons s l =>
      simp only [spsAV, List.map_cons, List.cons.injEq] at hl
      rw [hl.1] at hv
      obtain ⟨x, hx, hr⟩ := sp_val hv
      obtain ⟨xs, hxs, hrs⟩ := rel_of_vm t (l := l) hl.2
      exact ⟨x :: xs, by simp [hx, hxs], hr, hrs⟩

theorem rel_perm {ss xs : List SpV} (hp : ss.Perm xs) : ∀ {l : List Sp}, RelS κ w xs l → ∃ l', l'.Perm l ∧ RelS κ w ss l' := by
  induction hp with
  | nil => intro l h; exact ⟨l, .refl _, h⟩
  | cons x _ ih =>
    intro l h
    cases l with
    | nil => exact h.elim
    | cons s l =>
      obtain ⟨l', h1, h2⟩ := ih h.2
      exact ⟨s :: l', h1.cons s, h.1, h2⟩
  | swap x y xs =>
    intro l h
    match l, h with
    | s :: t :: l, h => exact ⟨t :: s :: l, .swap _ _ _, h.2.1, h.1, h.2.2⟩
    | [s], h => exact h.2.elim
    | [], h => exact h.elim
  | trans _ _ ih1 ih2 =>
    intro l h
    obtain ⟨l1, h1, h2⟩ := ih2 h
    obtain ⟨l2, h3, h4⟩ := ih1 h2
    exact ⟨l2, h3.trans h1, h4⟩

theorem R.late {B : Nat} {F : Nat → Prop} {σ : St} (hR : R B F κ w σ) {w' : World} (hb : RowKit.Below w.heap.size w w') (hd : w.drawn ≤ w'.drawn) : Ext κ w κ w' ∧ R w.heap.size (ownd κ σ) κ w' σ ∧ Fr (ownd κ σ) w w' := by
  have e : Ext κ w κ w' := ⟨fun _ _ h => h, fun _ _ => rfl, fun _ _ => rfl, fun _ _ => rfl, fun _ _ => rfl, fun _ h => h, fun b o hi => cell_same (hb.block b (hR.imm b o hi)) o⟩
  have hR1 : R B F κ w' σ := hR.step e hR.dom (fun b o hi => Nat.lt_of_lt_of_le (hR.imm b o hi) hb.size) (fun n r hr => .inl ⟨hr, hb.block _ (hR.lt hr), fun _ h => h⟩)
  exact ⟨e, ⟨hR1.dom, hR1.own, hR1.apart, hR1.imm, fun n r hr hrl => .inl ⟨n, r, hr, hrl, rfl⟩⟩, ⟨hb.os, hd⟩, hb.tape, hb.output, hb.size, fun b hlt _ => hb.block b hlt⟩

/-- a row that lies there is owned -/
theorem R.claim {B : Nat} {F : Nat → Prop} {σ : St} (hR : R B F κ w σ) {b : Nat} (hB : B ≤ b) (hfree : ∀ n r, σ.res n = some r → κ.φ n ≠ b) (hI : ∀ o, ¬ κ.I b o) {us rest : List Value} {cs : List AV} {t : TypeId} {fz : Nat × Nat} (hf : fzOk us.length fz)
    (hb : w.heap[b]? = some (.cells ⟨us ++ rest⟩ t fz)) (hv : Vl κ w us cs) : Ext κ w (κ.name σ.next b) w ∧ R B F (κ.name σ.next b) w ((σ.up 1).set σ.next (.obj cs)) := by
  have hn : ¬ κ.dom σ.next := fun h => Nat.lt_irrefl _ (hR.dom _ h)
  have e : Ext κ w (κ.name σ.next b) w := .name hn (fun _ _ _ => rfl)
  refine ⟨e, hR.step e (fun n hd => ?_) (fun b o hi => hR.imm b o hi) (fun n r hr => ?_)⟩
  · rcases hd with hd | rfl
    · exact Nat.lt_succ_of_lt (hR.dom n hd)
    · exact Nat.lt_succ_self _
  · by_cases hx : n = σ.next
    · subst hx
      simp only [St.set_same, Option.some.injEq] at hr
      subst hr
      refine .inr ⟨.inr rfl, ⟨us, rest, t, fz, by simpa [Kx.name] using hb, hf, hv.mono e, fun o ho => hI o (by simpa [Kx.name] using ho), by simp [Kx.name], .inr (by simp [Kx.name])⟩, .inr (by simpa [Kx.name] using hB), fun m s hs hm => ?_⟩
      by_cases hy : m = σ.next
      · exact hy.symm
      · rw [St.set_other _ _ hy] at hs
        exact absurd hm.symm (by simpa [Kx.name, hy] using hfree m s hs)
    · rw [St.set_other _ _ hx] at hr
      exact .inl ⟨hr, rfl, fun o ho => ho⟩

/-- THE VALUES OF A MAP OF SPANS, GATHERED: a new row that is owned -/
theorem app5_ok {tE tS tQ tM tK tY tB bytes : Nat} (L : ElemK P tE tS 5 bytes [.int .u64 0, .int .u64 0, .int .i64 0, .int .i64 0, .slice none 0 0]) (M : MapsK P tM tK tE tB) (hne : tS ≠ tE) {f g : Nat} {fn gn : Func} (hf : P.funcs[f]? = some fn) (hfb : fn.body = some (apCode tE tS tQ)) (hft : fn.ntmps = 13) (hfr : fn.results = #[.tmp 4]) (hfn : (fn.name == "runtime.NumGoroutine") = false)
    (hg : P.funcs[g]? = some gn) (hgb : gn.body = some (vaCode tE tM tY tB)) (hgt : gn.ntmps = 15) (hgr : gn.results = #[]) (hgn : (gn.name == "runtime.NumGoroutine") = false)
    {σ : St} {bx m : Nat} {es : List (AV × AV)} {ts : List Nat} {clk : Nat} {l : List Sp} (hbx : σ.res bx = some (.obj [.map m])) (hm : σ.res m = some (.map es ts clk)) (hl : es.map (·.2) = spsAV l) (h1 : l.length ≤ maxLen) (h2 : l.length * bytes ≤ 140737488355328) :
    ACalls P f [.sl [] .nil, .func g [] [.ptr bx 0]] σ (fun v σ' => ∃ l', l'.Perm l ∧ ((l' = [] ∧ v = .sl [] .nil ∧ σ' = σ) ∨ (v = .ref σ.next 0 l'.length ∧ σ' = (σ.up 1).set σ.next (.obj (l'.flatMap cells5))))) := by
  have hE : Enters P f := ⟨fn, hf, by simp [hfb], hfn⟩
  have hG : Enters P g := ⟨gn, hg, by simp [hgb], hgn⟩
  refine ⟨hE, fun κ w vs B F hR hv => ?_⟩
  cases hv with
  | cons v1 _ r1 _ k1 m1 =>
  cases m1 with
  | cons v2 _ r2 _ k2 m2 =>
  cases m2
  have hv1 : v1 = .slice none 0 0 := by
    cases k1 with
    | slnil _ _ => rfl
    | slz _ _ hx => rcases hx with h | h <;> cases h
  subst hv1
  obtain ⟨p, q, rfl, hp, hq⟩ := k2.func_inv
  cases hp
  cases hq with
  | cons u _ r _ k3 m3 =>
  cases m3
  obtain ⟨rfl, hdb⟩ := k3.ptr_inv
  obtain ⟨_, us, rest, tt, fz, b1, b2, b3, b4, _⟩ := hR.own bx _ hbx
  cases b3 with
  | cons u0 _ r0 _ k4 m4 =>
  cases m4
  obtain ⟨rfl, hdm⟩ := k4.map_inv
  obtain ⟨_, ents, g1, g2, g3, g4, g5, g6⟩ := hR.own m _ hm
  obtain ⟨xs, hxs, hrel⟩ := rel_of_vm g2 hl
  have hel : ents.length = l.length := by
    have := congrArg List.length hxs
    simp only [List.length_map] at this
    rw [this, hrel.length]
  have hcell : w.cell? ⟨κ.φ bx, 0, none⟩ = some (.map (some (κ.φ m))) := by rw [cell_of b1]; rfl
  have hbl := hR.lt hbx
  have hml := hR.lt hm
  have hseq : SeqD Fence.wide 1 P g #[.pointer (some ⟨κ.φ bx, 0, none⟩)] SpV.enc (fun ss => ss.Perm xs) ents.length w := fun ll J W hW hJ hY h0 =>
    va5_in tE tS tM tK tY tB bytes L M Fence.wide 1 g gn hg hgb hgt hgr trivial rfl (Nat.le_refl _) ll (κ.φ bx) (κ.φ m) clk ents xs hxs J hY W hJ ((hW.cell (p := ⟨κ.φ bx, 0, none⟩) hbl).trans hcell) ((hW.block _ hml).trans g1)
      (by rw [g4]; exact g5) (fun e he => g6 _ (by rw [← g4]; exact List.mem_map_of_mem he)) h0
  have hc := callsIn_wide.1 (ap5_in tE tS tQ bytes L hne Fence.wide 2 f fn hf hfb hft hfr trivial rfl (Nat.le_refl _) g #[.pointer (some ⟨κ.φ bx, 0, none⟩)] trivial (fun args w => run_callFunc hG args) (fun ss => ss.Perm xs) ents.length (by rw [hel]; exact h1) (by rw [hel]; exact h2) w hseq)
  refine Calls.mono hc ?_
  rintro e w' ⟨v, ss, rfl, hS, hrow, hnil, hb, hd⟩
  obtain ⟨l', hp', hrel'⟩ := rel_perm hS hrel
  obtain ⟨e0, hR', hfr'⟩ := hR.late hb hd
  rcases hrow.2 with ⟨rfl, hz⟩ | ⟨gb, cap, cur, rfl, hbase, hgb', hr1, hr2, hr3, hr4⟩
  · have hs0 : ss = [] := List.eq_nil_of_length_eq_zero hz
    subst hs0
    have hl0 : l' = [] := List.eq_nil_of_length_eq_zero (by rw [← hrel'.length]; rfl)
    exact ⟨_, .sl [] .nil, κ, σ, rfl, e0, fun n hn => .inl hn, hR', hfr', Nat.le_refl _, .slnil _ (.inl rfl), l', hp', .inl ⟨hl0, rfl, rfl⟩⟩
  · have hrl : Vl κ w' (ss.flatMap SpV.cs) (l'.flatMap cells5) := hrel'.vl.mono e0
    have hcur : cur = ⟨ss.flatMap SpV.cs ++ cur.toList.drop (ss.length * 5)⟩ := by
      apply Array.ext'
      simp only
      rw [← hr4, List.take_append_drop]
    rw [hcur] at hgb'
    have hgl : ∀ {n r}, σ.res n = some r → κ.φ n ≠ gb := fun hr h => by have := hR.lt hr; omega
    obtain ⟨e1, hR1⟩ := R.claim hR' (b := gb) hbase (fun n r hr => hgl hr) (fun o hi => by have := hR.imm _ _ hi; omega) (cs := l'.flatMap cells5) (.inl rfl) hgb' hrl
    refine ⟨_, .ref σ.next 0 l'.length, κ.name σ.next gb, (σ.up 1).set σ.next (.obj (l'.flatMap cells5)), rfl, e0.trans e1, fun n hn => (by rcases hn with hn | hn; exact .inl hn; exact .inr (by rw [hn]; exact Nat.le_refl _)), hR1, hfr', Nat.le_succ _, ?_, l', hp', .inr ⟨rfl, rfl⟩⟩
    have := V.ref (κ := κ.name σ.next gb) (w := w') σ.next 0 l'.length cap (.inr rfl) (by rw [← hrel'.length]; exact hr1)
    simpa [Kx.name, hrel'.length] using this

end Go.VL

namespace Go.VL

open Go.Proofs Go.RowKit Go.Lib Go.Sort Go.Shelf

variable {P : Program} {κ : Kx} {w : World}

theorem flat_len5 : ∀ (xs : List SpV), (xs.flatMap SpV.cs).length = xs.length * 5
  | [] => rfl
  | x :: xs => by simp only [List.flatMap_cons, List.length_append, flat_len5 xs, List.length_cons]; simp [SpV.cs]; omega

theorem flat_get5 : ∀ (xs : List SpV) (j : Nat) (hj : j < xs.length * 5), (xs.flatMap SpV.cs)[j]? = (SpV.cs (xs[j / 5]'(by omega)))[j % 5]?
  | [], j, hj => absurd hj (by simp)
  | x :: xs, j, hj => by
    simp only [List.flatMap_cons]
    have h5 : (SpV.cs x).length = 5 := rfl
    by_cases h : j < 5
    · rw [List.getElem?_append_left (by rw [h5]; exact h)]
      have e1 : j / 5 = 0 := by omega
      have e2 : j % 5 = j := by omega
      simp only [e1, e2, List.getElem_cons_zero]
    · rw [List.getElem?_append_right (by rw [h5]; omega), h5, flat_get5 xs (j - 5) (by simp at hj; omega)]
      have e1 : j / 5 = (j - 5) / 5 + 1 := by omega
      have e2 : j % 5 = (j - 5) % 5 := by omega
      simp only [e1, e2, List.getElem_cons_succ]

theorem flatK_get (xs : List SpV) (j : Nat) (hj : j < xs.length * 5) : (xs.flatMap SpV.cs)[j]? = some (flatK SpV.cs 5 xs.toArray)[j]! := by
  rw [flat_get5 xs j hj, get_flatK _ _ _ _ (by simpa using hj)]
  have h1 : j / 5 < xs.length := by omega
  have h2 : xs.toArray[j / 5]! = xs[j / 5] := by simp [h1]
  rw [h2]
  have h3 : j % 5 < (SpV.cs xs[j / 5]).length := by show j % 5 < 5; omega
  rw [List.getElem?_eq_getElem h3, getElem!_pos (SpV.cs xs[j / 5]) (j % 5) h3]

/-- the memory behind a sort -/
theorem sorted_heap {w : World} {b : Nat} {us rest : List Value} {t : TypeId} {fz : Nat × Nat} (hb : w.heap[b]? = some (.cells ⟨us ++ rest⟩ t fz)) {xs ys : List SpV} (hu : us = xs.flatMap SpV.cs) (hl : ys.length = xs.length) (n : Nat) (os : Array Obj) :
    (sortWorldK SpV.cs 5 w b 0 n ys.toArray os).heap[b]? = some (.cells ⟨ys.flatMap SpV.cs ++ rest⟩ t fz) ∧ (∀ c, c ≠ b → c < w.heap.size → (sortWorldK SpV.cs 5 w b 0 n ys.toArray os).heap[c]? = w.heap[c]?) ∧ w.heap.size ≤ (sortWorldK SpV.cs 5 w b 0 n ys.toArray os).heap.size := by
  have hlt := (Array.getElem?_eq_some_iff.1 hb).1
  have hh : (sortWorldK SpV.cs 5 w b 0 n ys.toArray os).heap = w.heap.modify b (onCells (putCells id 0 (flatK SpV.cs 5 ys.toArray))) ++ os := rfl
  refine ⟨?_, fun c hc hcl => ?_, ?_⟩
  · rw [hh, Array.getElem?_append_left (by rw [Array.size_modify]; exact hlt), Array.getElem?_modify, if_pos rfl, hb]
    simp only [Option.map_some, onCells, Option.some.injEq, Obj.cells.injEq, and_true]
    have h5 := flat_len5 ys
    have h6 := flat_len5 xs
    apply Array.ext_getElem?
    intro k
    simp only [putCells, Array.getElem?_mapIdx, size_flatK, List.size_toArray, Nat.zero_le, true_and, Nat.zero_add, Nat.sub_zero, id, List.getElem?_toArray]
    by_cases hk : k < ys.length * 5
    · have e2 : (ys.flatMap SpV.cs ++ rest)[k]? = some (flatK SpV.cs 5 ys.toArray)[k]! := by rw [List.getElem?_append_left (by rw [h5]; exact hk), flatK_get ys k hk]
      rw [e2]
      have hk2 : k < (us ++ rest).length := by rw [List.length_append, hu, h6, ← hl]; omega
      rw [List.getElem?_eq_getElem hk2]
      simp [hk]
    · have hul : us.length = xs.length * 5 := by rw [hu, h6]
      have hk' : ¬ k < xs.length * 5 := by omega
      have e1 : (us ++ rest)[k]? = rest[k - xs.length * 5]? := by rw [List.getElem?_append_right (by omega), hul]
      have e2 : (ys.flatMap SpV.cs ++ rest)[k]? = rest[k - xs.length * 5]? := by rw [List.getElem?_append_right (by omega), h5, hl]
      rw [e1, e2]
      cases rest[k - xs.length * 5]? with
      | none => rfl
      | some v => simp [hk]
  · rw [hh, Array.getElem?_append_left (by rw [Array.size_modify]; exact hcl), Array.getElem?_modify, if_neg (Ne.symm hc)]
  · rw [hh, Array.size_append, Array.size_modify]; omega

/-- A ROW OF SPANS THAT IS OWNED, SORTED -/
theorem sort5_ok {ρ : Ren} (L : SlLaysF0.n6 P ρ) (aE : ∀ w, (isAgg (ρ.t 24)).run P w = .ok true w) (zE : ∀ w, (Go.sizeOf (ρ.t 24)).run P w = .ok 5 w) {g : Nat} (hG : Enters P g) (hE : Enters P (ρ.f 6))
    (hcmp : ∀ a b c d a' b' c' d' : Int, ACalls P g [.agg [.int .u64 a, .int .u64 b, .int .i64 c, .int .i64 d, .any], .agg [.int .u64 a', .int .u64 b', .int .i64 c', .int .i64 d', .any]] σn
      (fun v σ' => v = .int .i64 (cfS ⟨a, b, c, d, none, 0, 0⟩ ⟨a', b', c', d', none, 0, 0⟩) ∧ σ' = σn)) {σ : St} {nm : Nat} {l : List Sp} (hnm : σ.res nm = some (.obj (l.flatMap cells5))) (hlen : l.length < 4611686018427387904) :
    ACalls P (ρ.f 6) [.ref nm 0 l.length, .func g [] []] σ (fun v σ' => v = .tup [] ∧ ∃ l' : List Sp, l'.Perm l ∧ l'.Pairwise (fun a b => aheadS b a = false) ∧ σ' = σ.set nm (.obj (l'.flatMap cells5))) := by
  refine ⟨hE, fun κ w vs B F hR hv => ?_⟩
  cases hv with
  | cons v1 _ r1 _ k1 m1 =>
  cases m1 with
  | cons v2 _ r2 _ k2 m2 =>
  cases m2
  obtain ⟨cap, rfl, hcap, hdn⟩ := k1.ref_inv
  obtain ⟨p, q, rfl, hp, hq⟩ := k2.func_inv
  cases hp
  cases hq
  obtain ⟨_, us, rest, tt, fz, b1, b2, b3, b4, b5⟩ := hR.own nm _ hnm
  obtain ⟨xs, hus, hrel⟩ := rel_of_vl b3
  have hxl := hrel.length
  have hnl := hR.lt hnm
  have hul : us.length = xs.length * 5 := by rw [hus, flat_len5]
  have hH : HoldsK SpV.cs 5 w (κ.φ nm) 0 xs.toArray := by
    intro j hj
    have hj' : j < xs.length * 5 := by simpa using hj
    rw [Nat.zero_add, cell_of b1]
    refine ⟨?_, frozen_of b1 b2 (by omega)⟩
    rw [List.getElem?_append_left (by omega), hus, flatK_get xs j hj']
    rfl
  have hc := AnyQ.slices_SortFunc L 5 aE zE SpV.cs (fun _ => rfl) (fun x v hv => by simp [SpV.cs] at hv; rcases hv with rfl | rfl | rfl | rfl | rfl <;> rfl) cfS swoS g #[] (κ.φ nm) 0 cap xs.toArray w
    (fun args w => run_callFunc hG args) (cmp_lays hcmp _ _ _ _) hH hnl (by simpa [hxl] using hlen)
  have hsz : xs.toArray.size = l.length := by simpa using hxl
  rw [hsz] at hc
  refine Calls.mono hc ?_
  rintro e w' ⟨rfl, d', n, os, hp, hs, rfl⟩
  obtain ⟨hp1, _, hp3⟩ := hp
  have hd'l : d'.toList.length = l.length := by simpa using hp1.trans hsz
  have hperm : d'.toList.Perm xs := by
    have e1 : (d'.extract 0 l.length).toList = d'.toList := by
      rw [show l.length = d'.size by simpa using hd'l.symm]; simp
    have e2 : (xs.toArray.extract 0 l.length).toList = xs := by
      rw [← hxl]; simp
    rw [e1, e2] at hp3; exact hp3
  obtain ⟨l', hl', hrel'⟩ := rel_perm hperm hrel
  have hd' : d' = d'.toList.toArray := by simp
  obtain ⟨s1, s2, s3⟩ := sorted_heap (w := w) (b := κ.φ nm) b1 (xs := xs) (ys := d'.toList) hus (by rw [hd'l, hxl]) n os
  rw [← hd'] at s1 s2 s3
  generalize hw' : sortWorldK SpV.cs 5 w (κ.φ nm) 0 n d' os = w' at s1 s2 s3
  have hos : w'.os = w.os ∧ w'.tape = w.tape ∧ w'.output = w.output ∧ w.drawn ≤ w'.drawn := by
    rw [← hw']; exact ⟨rfl, rfl, rfl, Nat.le_add_right _ _⟩
  have e : Ext κ w κ w' := ⟨fun _ _ h => h, fun _ _ => rfl, fun _ _ => rfl, fun _ _ => rfl, fun _ _ => rfl, fun _ h => h, fun b o hi => cell_same (s2 b (fun hx => b4 o (hx ▸ hi)) (hR.imm b o hi)) o⟩
  have hvl : Vl κ w' (d'.toList.flatMap SpV.cs) (l'.flatMap cells5) := hrel'.vl.mono e
  have hlen' : (d'.toList.flatMap SpV.cs).length = us.length := by rw [flat_len5, hul, hd'l, hxl]
  have hR' : R B F κ w' (σ.set nm (.obj (l'.flatMap cells5))) := by
    refine hR.step e hR.dom (fun b o hi => Nat.lt_of_lt_of_le (hR.imm b o hi) s3) (fun m r hr => ?_)
    by_cases hx : m = nm
    · subst hx
      simp only [St.set_same, Option.some.injEq] at hr
      subst hr
      refine .inr ⟨hdn, ⟨_, rest, tt, fz, s1, by rw [hlen']; exact b2, hvl, b4, by rw [hlen']; exact b5⟩, hR.foot _ _ hnm rfl, fun j s hj hm => ?_⟩
      by_cases hy : j = m
      · exact hy.symm
      · rw [St.set_other _ _ hy] at hj
        exact hR.apart _ _ _ _ hnm hj hm
    · rw [St.set_other _ _ hx] at hr
      exact .inl ⟨hr, s2 _ (fun hy => hx (hR.apart _ _ _ _ hr hnm hy)) (hR.lt hr), fun o ho => ho⟩
  refine ⟨.tuple #[], .tup [], κ, σ.set nm (.obj (l'.flatMap cells5)), rfl, e, fun n hn => .inl hn, ⟨hR'.dom, hR'.own, hR'.apart, hR'.imm, fun m r hr hrl => ?_⟩, ⟨⟨hos.1, hos.2.2.2⟩, hos.2.1, hos.2.2.1, s3, fun b hb hF => s2 b (fun hx => hF ⟨nm, _, hnm, rfl, hx.symm⟩) hb⟩, Nat.le_refl _, .tup [] [] .nil, rfl, l', hl', ?_, rfl⟩
  · by_cases hx : m = nm
    · subst hx; exact .inl ⟨m, _, hnm, rfl, rfl⟩
    · rw [St.set_other _ _ hx] at hr; exact .inl ⟨m, r, hr, hrl, rfl⟩
  · rw [List.pairwise_iff_getElem]
    intro i j hi hj hij
    have hrl := hrel'.length
    have hi' : i < d'.toList.length := by omega
    have hj' : j < d'.toList.length := by omega
    have := hs i j (Nat.zero_le _) hij (by omega)
    rw [getElem!_pos d' i (by simpa using hi'), getElem!_pos d' j (by simpa using hj'), ltS] at this
    have ri := hrel'.get i hi' hi
    have rj := hrel'.get j hj' hj
    simp only [Array.getElem_toList] at ri rj
    rw [ri.a, ri.b, ri.c, rj.a, rj.b, rj.c] at this
    rw [decide_eq_false_iff_not] at this
    unfold aheadS
    split
    · simp only [decide_eq_false_iff_not]; omega
    · split
      · simp only [decide_eq_false_iff_not]; omega
      · simp only [decide_eq_false_iff_not]; omega

/-- nothing to sort -/
theorem sort5_nil {ρ : Ren} (L : SlLaysF0.n6 P ρ) (hE : Enters P (ρ.f 6)) {g : Nat} {σ : St} : ACalls P (ρ.f 6) [.sl [] .nil, .func g [] []] σ (fun v σ' => v = .tup [] ∧ σ' = σ) := by
  refine ⟨hE, fun κ w vs B F hR hv => ?_⟩
  cases hv with
  | cons v1 _ r1 _ k1 m1 =>
  cases m1 with
  | cons v2 _ r2 _ k2 m2 =>
  cases m2
  obtain ⟨bs, n, m, rfl⟩ := slice_of k1
  have hz : n = 0 := by
    rcases k1.sl_inv with ⟨b, h1, _⟩ | ⟨b, i, c, k, h1, _⟩
    · injection h1
    · injection h1
  subst hz
  have hc := AnyF.slices_SortFunc_none L bs m v2 w
  refine Calls.mono hc ?_
  rintro e w' ⟨rfl, rfl⟩
  exact ⟨.tuple #[], .tup [], κ, σ, rfl, .refl _ _, fun n hn => .inl hn, ⟨hR.dom, hR.own, hR.apart, hR.imm, fun n r hr hrl => .inl ⟨n, r, hr, hrl, rfl⟩⟩, .refl _ _, Nat.le_refl _, .tup [] [] .nil, rfl, rfl⟩

end Go.VL

namespace Go.VL

open Go.Proofs Go.RowKit

variable {P : Program} {κ : Kx} {w : World}

def bcCode (tS tI f : Nat) : Code := ((Code.region 0
            #[{ dst := some 4, op := Op.assign (Operand.const (Value.int IntKind.i64 0)), type := tI,
                pos := "bytes.go:28", after := #[], guard := none }]
            false).seq
        ((Code.region 1
              #[{ dst := some 5, op := Op.move (Operand.tmp 0), type := tS, pos := "bytes.go:29", after := #[],
                  guard := none },
                { dst := some 6, op := Op.move (Operand.tmp 1), type := tS, pos := "bytes.go:29", after := #[],
                  guard := none },
                { dst := some 7,
                  op :=
                    Op.call
                      { callee := Callee.value (Operand.func f), args := #[Operand.tmp 5, Operand.tmp 6],
                        argTypes := #[tS, tS] },
                  type := tI, pos := "bytes.go:29",
                  after := #[{ on := 0, ground := Ground.data }, { on := 1, ground := Ground.data }], guard := none },
                { dst := some 4, op := Op.assign (Operand.tmp 7), type := tI, pos := "bytes.go:29",
                  after :=
                    #[{ on := 2, ground := Ground.data }, { on := 2, ground := Ground.chain },
                      { on := 0, ground := Ground.phase }, { on := 1, ground := Ground.phase },
                      { on := 2, ground := Ground.phase }],
                  guard := none }]
              false).seq
          Code.ret))

theorem run_lb : ∀ (l : List UInt8) (b o : Nat) (acc : ByteArray), (∀ (j : Nat) (x : UInt8), l[j]? = some x → w.cell? ⟨b, o + j, none⟩ = some (.int .u8 (x.toNat : Int))) →
    (Extern.Bytes.loadBytes ⟨b, o, none⟩ l.length acc).run P w = .ok ⟨acc.data ++ l.toArray⟩ w
  | [], b, o, acc, _ => by simp [Extern.Bytes.loadBytes]
  | x :: l, b, o, acc, h => by
    have h0 : w.cell? ⟨b, o, none⟩ = some (.int .u8 (x.toNat : Int)) := by simpa using h 0 x rfl
    have ih := run_lb l b (o + 1) (acc.push x) (fun j y hj => by
      have := h (j + 1) y (by simpa using hj)
      rw [show o + 1 + j = o + (j + 1) by omega]; exact this)
    have ha : ((⟨b, o, none⟩ : Addr).add 1) = ⟨b, o + 1, none⟩ := by simp [Addr.add]
    have hx : ((x.toNat : Int)).toNat.toUInt8 = x := by simp
    simp only [List.length_cons, Extern.Bytes.loadBytes, Sem.run_bind, load, Sem.run, h0, Result.andThen_ok, Extern.Bytes.asByte, Sem.run_pure, hx, ha, ih]
    simp

theorem run_bytesOf {v : Value} {l : List UInt8} {g : Ver} (h : V κ w v (.sl (bytesAV l) g)) : (Extern.Bytes.bytesOf v).run P w = .ok ⟨l.toArray⟩ w := by
  rcases h.sl_inv with ⟨base, rfl, hx⟩ | ⟨b, i, c, k, rfl, _, _, hvs⟩
  · have : l = [] := by cases l <;> simp [bytesAV] at hx ⊢
    subst this
    cases base with
    | none => simp [Extern.Bytes.bytesOf]; rfl
    | some a => simp [Extern.Bytes.bytesOf, Extern.Bytes.loadBytes]; rfl
  · have hlen : (bytesAV l).length = l.length := by simp [bytesAV]
    rw [hlen]
    have := run_lb (P := P) (w := w) l b i .empty (fun j x hj => by
      have hf : ((bytesAV l).flatMap AV.cells)[j]? = some (.int .u8 (x.toNat : Int)) := by
        have : (bytesAV l).flatMap AV.cells = bytesAV l := by
          apply flat_single
          intro y hy
          obtain ⟨z, _, rfl⟩ := List.mem_map.1 hy
          rfl
        rw [this]
        simp [bytesAV, hj]
      obtain ⟨u, hu, hv⟩ := hvs.cell j _ hf
      rw [hu, hv.int_inv])
    simp only [Extern.Bytes.bytesOf]
    rw [this]
    simp

set_option maxRecDepth 100000 in
set_option maxHeartbeats 1000000 in
theorem bcmp5_ok {tS tI f fx : Nat} {fn fe : Func} (hf : P.funcs[f]? = some fn) (hfb : fn.body = some (bcCode tS tI fx)) (hft : fn.ntmps = 8) (hfr : fn.results = #[.tmp 4]) (hfn : (fn.name == "runtime.NumGoroutine") = false)
    (hx : P.funcs[fx]? = some fe) (hxn : (fe.name == "runtime.NumGoroutine") = false) (hxb : fe.body.isNone = true) (hx1 : Extern.findNext fe = none) (hx2 : Extern.find fe = some Extern.BytealgCompare.compare)
    {a b : List UInt8} {g g' : Ver} {σ : St} : ACalls P f [.sl (bytesAV a) g, .sl (bytesAV b) g'] σ (fun v σ' => v = .int .i64 (Lib.compareBytes a b) ∧ σ' = σ) := by
  refine ⟨⟨fn, hf, by simp [hfb], hfn⟩, fun κ w vs B F hR hv => ?_⟩
  cases hv with
  | cons v1 _ r1 _ k1 m1 =>
  cases m1 with
  | cons v2 _ r2 _ k2 m2 =>
  cases m2
  have h1 := run_bytesOf (P := P) k1
  have h2 := run_bytesOf (P := P) k2
  have hc : (Extern.BytealgCompare.compare #[v1, v2]).run P w = .ok (.int .i64 (Lib.compareBytes a b)) w := by
    show Sem.run P (do pure (goInt (Extern.BytealgCompare.cmp (← Extern.Bytes.bytesOf v1) (← Extern.Bytes.bytesOf v2)))) w = _
    simp only [Sem.run_bind, h1, h2, Result.andThen_ok, Sem.run_pure, goInt]
    rw [Lib.cmp_eq]
  have hcf := run_callFunc_extern hx hxn hxb hx1 hx2 #[v1, v2] w
  rw [hc] at hcf
  simp only [Result.andThen_ok] at hcf
  suffices Calls P f #[v1, v2] w fun e w' => e = .returned (.int .i64 (Lib.compareBytes a b)) ∧ w' = w by
    refine Calls.mono this ?_
    rintro e w' ⟨rfl, rfl⟩
    exact ⟨_, _, κ, σ, rfl, .refl _ _, fun n hn => .inl hn, ⟨hR.dom, hR.own, hR.apart, hR.imm, fun n r hr hrl => .inl ⟨n, r, hr, hrl, rfl⟩⟩, .refl _ _, Nat.le_refl _, .int _ _, rfl, rfl⟩
  clear h1 h2 hc
  cases fn
  simp only at hfb hft hfr
  subst hfb hft hfr
  refine calls_of_wp hf rfl ?_
  unfold bcCode
  simp only [List.size_toArray, List.length_cons, List.length_nil, Nat.reduceAdd, Nat.reduceSub, Array.replicate_succ, Array.replicate_zero, List.push_toArray, List.append_toArray, List.nil_append, List.cons_append]
  go_wp2
  refine bodyPost_ret (results_tmp rfl _ _ _) rfl ?_
  exact ⟨rfl, rfl⟩

/-- which of two texts of bytes comes first -/
theorem compareBytes_neg : ∀ (a b : List UInt8), (Lib.compareBytes a b < 0) = (Op.bytesLess a b = true)
  | [], [] => by simp [Lib.compareBytes, Op.bytesLess]
  | [], _ :: _ => by simp [Lib.compareBytes, Op.bytesLess]
  | _ :: _, [] => by simp [Lib.compareBytes, Op.bytesLess]
  | x :: a, y :: b => by
    have ih := compareBytes_neg a b
    simp only [Lib.compareBytes, Op.bytesLess]
    by_cases h1 : x < y
    · simp [h1]
    · by_cases h2 : y < x
      · have h3 : ¬ x = y := fun h => by subst h; exact h1 h2
        simp [h1, h2]
        exact fun h => absurd h h3
      · have h3 : x = y := UInt8.le_antisymm (UInt8.not_lt.1 h2) (UInt8.not_lt.1 h1)
        subst h3
        simp only [h1, if_false]
        rw [ih]
        simp

end Go.VL

namespace Go.VL

open Go.Proofs Go.Shelf

def renS : Ren := ⟨fun | 6 => 127 | 15 => 153 | 14 => 158 | 28 => 177 | 29 => 178 | 20 => 179 | 21 => 180 | 22 => 181 | 23 => 182 | 24 => 183 | 25 => 184 | 26 => 185 | 27 => 186 | 46 => 201 | 47 => 197 | 48 => 198 | 49 => 202 | 50 => 203 | 57 => 209 | n => n, fun | 22 => 47 | 24 => 53 | 25 => 137 | 3 => 3 | 39 => 172 | 0 => 0 | 53 => 166 | 55 => 51 | 4 => 4 | 46 => 232 | 45 => 231 | 50 => 236 | 5 => 5 | 9 => 9 | 66 => 250 | 70 => 254 | 76 => 260 | 77 => 261 | n => n, fun n => n⟩

theorem laysS : SlLaysF0.n6 Try.prog renS where
  mixed := by kernel_rfl
  f6 := ⟨ "slices.SortFunc[[]tankard/api.Span,tankard/api.Span]", by decide, Try.func127.trans (congrArg some (by kernel_rfl))⟩
  f14 := ⟨ "slices.pdqsortCmpFunc[tankard/api.Span]", by decide, Try.func158.trans (congrArg some (by kernel_rfl))⟩
  f15 := Try.func153.trans (congrArg some (by kernel_rfl))
  f20 := ⟨ "slices.insertionSortCmpFunc[tankard/api.Span]", by decide, Try.func179.trans (congrArg some (by kernel_rfl))⟩
  f21 := ⟨ "slices.heapSortCmpFunc[tankard/api.Span]", by decide, Try.func180.trans (congrArg some (by kernel_rfl))⟩
  f22 := ⟨ "slices.breakPatternsCmpFunc[tankard/api.Span]", by decide, Try.func181.trans (congrArg some (by kernel_rfl))⟩
  f23 := ⟨ "slices.choosePivotCmpFunc[tankard/api.Span]", by decide, Try.func182.trans (congrArg some (by kernel_rfl))⟩
  f24 := ⟨ "slices.reverseRangeCmpFunc[tankard/api.Span]", by decide, Try.func183.trans (congrArg some (by kernel_rfl))⟩
  f25 := ⟨ "slices.partialInsertionSortCmpFunc[tankard/api.Span]", by decide, Try.func184.trans (congrArg some (by kernel_rfl))⟩
  f26 := ⟨ "slices.partitionEqualCmpFunc[tankard/api.Span]", by decide, Try.func185.trans (congrArg some (by kernel_rfl))⟩
  f27 := ⟨ "slices.partitionCmpFunc[tankard/api.Span]", by decide, Try.func186.trans (congrArg some (by kernel_rfl))⟩
  f28 := Try.func177.trans (congrArg some (by kernel_rfl))
  f29 := Try.func178.trans (congrArg some (by kernel_rfl))
  f46 := ⟨ "slices.siftDownCmpFunc[tankard/api.Span]", by decide, Try.func201.trans (congrArg some (by kernel_rfl))⟩
  f47 := Try.func197.trans (congrArg some (by kernel_rfl))
  f48 := Try.func198.trans (congrArg some (by kernel_rfl))
  f49 := ⟨ "slices.medianAdjacentCmpFunc[tankard/api.Span]", by decide, Try.func202.trans (congrArg some (by kernel_rfl))⟩
  f50 := ⟨ "slices.medianCmpFunc[tankard/api.Span]", by decide, Try.func203.trans (congrArg some (by kernel_rfl))⟩
  f57 := ⟨ "slices.order2CmpFunc[tankard/api.Span]", by decide, Try.func209.trans (congrArg some (by kernel_rfl))⟩
  t0 := Try.underlying0
  a0 := Try.isAgg0
  z0 := Try.sizeOf0
  v0 := Try.zeroValue0
  t3 := Try.underlying3
  a3 := Try.isAgg3
  z3 := Try.sizeOf3
  v3 := Try.zeroValue3
  t4 := Try.underlying4
  a4 := Try.isAgg4
  z4 := Try.sizeOf4
  v4 := Try.zeroValue4
  t5 := Try.underlying5
  a5 := Try.isAgg5
  z5 := Try.sizeOf5
  v5 := Try.zeroValue5
  t9 := Try.underlying9
  a9 := Try.isAgg9
  z9 := Try.sizeOf9
  v9 := Try.zeroValue9
  t22 := Try.underlying47
  a22 := Try.isAgg47
  z22 := Try.sizeOf47
  v22 := Try.zeroValue47
  t25 := Try.underlying137
  a25 := Try.isAgg137
  z25 := Try.sizeOf137
  v25 := Try.zeroValue137
  t39 := Try.underlying172
  a39 := Try.isAgg172
  z39 := Try.sizeOf172
  v39 := Try.zeroValue172
  t45 := Try.underlying231
  a45 := Try.isAgg231
  z45 := Try.sizeOf231
  v45 := Try.zeroValue231
  t46 := Try.underlying232
  a46 := Try.isAgg232
  z46 := Try.sizeOf232
  v46 := Try.zeroValue232
  t50 := Try.underlying236
  a50 := Try.isAgg236
  z50 := Try.sizeOf236
  v50 := Try.zeroValue236
  t53 := Try.underlying166
  a53 := Try.isAgg166
  z53 := Try.sizeOf166
  v53 := Try.zeroValue166
  t55 := Try.underlying51
  a55 := Try.isAgg51
  z55 := Try.sizeOf51
  v55 := Try.zeroValue51
  t66 := Try.underlying250
  a66 := Try.isAgg250
  z66 := Try.sizeOf250
  v66 := Try.zeroValue250
  t70 := Try.underlying254
  a70 := Try.isAgg254
  z70 := Try.sizeOf254
  v70 := Try.zeroValue254
  t76 := Try.underlying260
  a76 := Try.isAgg260
  z76 := Try.sizeOf260
  v76 := Try.zeroValue260
  t77 := Try.underlying261
  a77 := Try.isAgg261
  z77 := Try.sizeOf261
  v77 := Try.zeroValue261

abbrev n_sortsp : Nat := 127

abbrev n_appsp : Nat := 157

abbrev n_valssp : Nat := 128

theorem sort_agg (w : World) : (isAgg (renS.t 24)).run Try.prog w = .ok true w := Try.isAgg53 w

theorem sort_size (w : World) : (Go.sizeOf (renS.t 24)).run Try.prog w = .ok 5 w := Try.sizeOf53 w

theorem elemS : ElemK Try.prog 53 47 5 56 [.int .u64 0, .int .u64 0, .int .i64 0, .int .i64 0, .slice none 0 0] where
  mixed := by kernel_rfl
  t0 := Try.underlying0
  uS := Try.underlying47
  aS := Try.isAgg47
  zS := Try.sizeOf47
  vS := Try.zeroValue47
  aE := Try.isAgg53
  zE := Try.sizeOf53
  vE := Try.zeroValue53
  iE := by kernel_rfl
  zl := rfl

theorem mapsS : MapsK Try.prog 129 131 53 4 where
  uM := Try.underlying129
  aM := Try.isAgg129
  zM := Try.sizeOf129
  vM := Try.zeroValue129
  uB := Try.underlying4
  aB := Try.isAgg4
  zB := Try.sizeOf4
  vB := Try.zeroValue4

theorem app_body : Try.f157.body = some (apCode 53 47 135) := by kernel_rfl

theorem app_nt : Try.f157.ntmps = 13 := by kernel_rfl

theorem app_res : Try.f157.results = #[.tmp 4] := by kernel_rfl

theorem app_name : (Try.f157.name == "runtime.NumGoroutine") = false := by kernel_rfl

theorem app_fn : Try.prog.funcs[n_appsp]? = some Try.f157 := Try.func157

theorem va_body : Try.f128.body = some (vaCode 53 129 108 4) := by kernel_rfl

theorem va_nt : Try.f128.ntmps = 15 := by kernel_rfl

theorem va_res : Try.f128.results = #[] := by kernel_rfl

theorem va_name : (Try.f128.name == "runtime.NumGoroutine") = false := by kernel_rfl

theorem va_fn : Try.prog.funcs[n_valssp]? = some Try.f128 := Try.func128

theorem sort_name : (Try.f127.name == "runtime.NumGoroutine") = false := by kernel_rfl

theorem sort_body : Try.f127.body.isNone = false := by kernel_rfl

theorem sort_fn : Try.prog.funcs[n_sortsp]? = some Try.f127 := Try.func127

abbrev n_bcmp : Nat := 125

theorem bc_body : Try.f125.body = some (bcCode 34 3 156) := by kernel_rfl

theorem bc_nt : Try.f125.ntmps = 8 := by kernel_rfl

theorem bc_res : Try.f125.results = #[.tmp 4] := by kernel_rfl

theorem bc_name : (Try.f125.name == "runtime.NumGoroutine") = false := by kernel_rfl

theorem bc_fn : Try.prog.funcs[n_bcmp]? = some Try.f125 := Try.func125

theorem bx_fn : Try.prog.funcs[156]? = some Try.f156 := Try.func156

theorem bx_name : (Try.f156.name == "runtime.NumGoroutine") = false := by kernel_rfl

theorem bx_body : Try.f156.body.isNone = true := by kernel_rfl

theorem bx_next : Extern.findNext Try.f156 = none := by kernel_rfl

theorem bx_find : Extern.find Try.f156 = some Extern.BytealgCompare.compare := by kernel_rfl

end Go.VL

namespace Go.VL

open Go.Proofs Go.RowKit Go.Lib Go.Sort Go.Shelf

theorem cf_cmp (a b c d a' b' c' d' : Int) : cmpS c b a c' b' a' = cfS ⟨a, b, c, d, none, 0, 0⟩ ⟨a', b', c', d', none, 0, 0⟩ := by
  unfold cmpS cfS cmp3
  simp only
  by_cases h1 : c < c'
  · simp [h1, orI]
  · by_cases h2 : c' < c
    · simp [h1, h2, orI]
    · by_cases h3 : b < b'
      · simp [h1, h2, h3, orI]
      · by_cases h4 : b' < b
        · simp [h1, h2, h3, h4, orI]
        · by_cases h5 : a < a'
          · simp [h1, h2, h3, h4, h5, orI]
          · by_cases h6 : a' < a <;> simp [h1, h2, h3, h4, h5, h6, orI]

theorem appsp_ok {σ : St} {bx m : Nat} {es : List (AV × AV)} {ts : List Nat} {clk : Nat} {l : List Sp} (hbx : σ.res bx = some (.obj [.map m])) (hm : σ.res m = some (.map es ts clk)) (hl : es.map (·.2) = spsAV l) (h1 : l.length ≤ 1000000) :
    ACalls Try.prog n_appsp [.sl [] .nil, .func n_valssp [] [.ptr bx 0]] σ (fun v σ' => ∃ l' : List Sp, l'.Perm l ∧ ((l' = [] ∧ v = .sl [] .nil ∧ σ' = σ) ∨ (v = .ref σ.next 0 l'.length ∧ σ' = (σ.up 1).set σ.next (.obj (l'.flatMap cells5))))) :=
  app5_ok elemS mapsS (by decide) app_fn app_body app_nt app_res app_name va_fn va_body va_nt va_res va_name hbx hm hl (by simp only [maxLen]; omega) (by omega)

theorem sortsp_enters : Enters Try.prog n_sortsp := ⟨_, sort_fn, sort_body, sort_name⟩

theorem sortsp_ok {σ : St} {nm : Nat} {l : List Sp} (hnm : σ.res nm = some (.obj (l.flatMap cells5))) (hlen : l.length ≤ 1000000) :
    ACalls Try.prog n_sortsp [.ref nm 0 l.length, .func n_scmp [] []] σ (fun v σ' => v = .tup [] ∧ ∃ l' : List Sp, l'.Perm l ∧ l'.Pairwise (fun a b => aheadS b a = false) ∧ σ' = σ.set nm (.obj (l'.flatMap cells5))) :=
  sort5_ok (P := Try.prog) (ρ := renS) laysS sort_agg sort_size (scmp_ok (t := 0) (i := 0) (s := 0) (t' := 0) (i' := 0) (s' := 0) (x := .any) (y := .any) (x' := .any) (y' := .any) (σ := σn)).1 sortsp_enters
    (fun a b c d a' b' c' d' => scmp_ok.mono fun v σ' ⟨h1, h2⟩ => ⟨by rw [h1, cf_cmp a b c d a' b' c' d'], h2⟩) hnm (by omega)

theorem sortsp_nil {σ : St} : ACalls Try.prog n_sortsp [.sl [] .nil, .func n_scmp [] []] σ (fun v σ' => v = .tup [] ∧ σ' = σ) :=
  sort5_nil (P := Try.prog) (ρ := renS) laysS sortsp_enters

theorem bcmp_ok {a b : List UInt8} {g g' : Ver} {σ : St} : ACalls Try.prog n_bcmp [.sl (bytesAV a) g, .sl (bytesAV b) g'] σ (fun v σ' => v = .int .i64 (Lib.compareBytes a b) ∧ σ' = σ) :=
  bcmp5_ok bc_fn bc_body bc_nt bc_res bc_name bx_fn bx_name bx_body bx_next bx_find

end Go.VL

namespace Go.VL

open Go.Proofs

abbrev n_tless : Nat := 77

def c_tless : C := (.seq (.reg [⟨(some 2), (.box (.t 0)), none⟩, ⟨(some 3), (.box (.t 1)), none⟩, ⟨(some 4), (.mv (.c (.bool false))), none⟩]) (.seq (.reg [⟨(some 5), (.faddr 2 (.t 2)), none⟩, ⟨(some 6), (.load none (.t 5)), none⟩, ⟨(some 7), (.faddr 2 (.t 3)), none⟩, ⟨(some 8), (.load none (.t 7)), none⟩, ⟨(some 9), (.qcall 124 [(.t 6), (.t 8)]), none⟩, ⟨(some 10), (.faddr 3 (.t 2)), none⟩, ⟨(some 11), (.load none (.t 10)), none⟩, ⟨(some 12), (.faddr 3 (.t 3)), none⟩, ⟨(some 13), (.load none (.t 12)), none⟩, ⟨(some 14), (.qcall 124 [(.t 11), (.t 13)]), none⟩, ⟨(some 15), (.faddr 4 (.t 2)), none⟩, ⟨(some 16), (.load none (.t 15)), none⟩, ⟨(some 17), (.faddr 4 (.t 3)), none⟩, ⟨(some 18), (.load none (.t 17)), none⟩, ⟨(some 19), (.qcall 125 [(.t 16), (.t 18)]), none⟩, ⟨(some 20), (.bslice 1 .val [(.t 9), (.t 14), (.t 19)]), none⟩, ⟨(some 21), (.qcall 122 [(.t 20)]), none⟩, ⟨(some 22), (.bin .lss .i64 (.t 21) (.c (.int .i64 0))), none⟩, ⟨(some 4), (.mv (.t 22)), none⟩]) .ret))

set_option maxRecDepth 100000 in
theorem k_tless : compileC Try.prog ann (Try.f77.body.getD .skip) = some c_tless := by kernel_rfl

theorem s_tless {args : List AV} {σ : St} {K : AV → St → Prop} (h : WF σ → T Try.prog ann c_tless (Fin σ [(.t 4)] K) (args ++ List.replicate (23 - args.length) (.tup [])) σ) : ACalls Try.prog n_tless args σ K :=
  calls_ok Try.func77 (by kernel_rfl) (by kernel_rfl) k_tless (by kernel_rfl) (by kernel_rfl) h

abbrev n_tgather : Nat := 27

def c_tgather : C := (.seq (.reg [⟨(some 2), (.mv (.c (.sl [] .nil))), none⟩]) (.seq (.reg [⟨(some 11), .mkMap, none⟩, ⟨(some 3), (.mv (.t 11)), none⟩]) (.seq (.seq (.reg [⟨(some 12), (.mv (.t 0)), none⟩, ⟨(some 13), (.len (.t 12)), none⟩, ⟨(some 14), (.mv (.c (.int .i64 0))), none⟩]) (.block 0 (.loop (.seq (.reg [⟨(some 15), (.bin .lss .i64 (.t 14) (.t 13)), none⟩]) (.seq (.cond (.t 15) .skip (.exit 0)) (.seq (.block 1 (.seq (.reg [⟨(some 16), (.iaddr 5 (.t 12) (.t 14)), none⟩, ⟨(some 17), (.load (some 5) (.t 16)), none⟩, ⟨(some 5), (.alloc [(.int .u64 0), (.int .u64 0), (.int .i64 0), (.int .i64 0), (.sl [] .nil)]), none⟩, ⟨none, (.store 5 (.t 5) (.t 17)), none⟩]) (.seq (.reg [⟨(some 18), (.faddr 0 (.t 5)), none⟩, ⟨(some 19), (.load none (.t 18)), none⟩, ⟨(some 20), (.faddr 1 (.t 5)), none⟩, ⟨(some 21), (.load none (.t 20)), none⟩, ⟨(some 22), (.build [(.int .u64 0), (.int .u64 0)] [(0, (1, (.t 19))), (1, (1, (.t 21)))]), none⟩, ⟨(some 6), (.alloc [(.int .u64 0), (.int .u64 0)]), none⟩, ⟨none, (.store 2 (.t 6) (.t 22)), none⟩]) (.seq (.reg [⟨(some 24), (.mv (.t 3)), none⟩, ⟨(some 25), (.load (some 2) (.t 6)), none⟩, ⟨(some 26), (.look 4 (.agg [(.int .u64 0), (.int .u64 0), (.int .i64 0), (.int .i64 0), (.sl [] .nil)]) true (.t 24) (.t 25)), none⟩, ⟨(some 23), (.mv (.t 26)), none⟩, ⟨(some 27), (.ext (.t 23) 0), none⟩, ⟨(some 28), (.ext (.t 23) 1), none⟩, ⟨(some 7), (.alloc [(.int .u64 0), (.int .u64 0), (.int .i64 0), (.int .i64 0), (.sl [] .nil)]), none⟩, ⟨none, (.store 5 (.t 7) (.t 27)), none⟩, ⟨(some 8), (.mv (.t 28)), none⟩]) (.seq (.reg [⟨(some 29), (.mv (.t 8)), none⟩, ⟨(some 30), (.not (.t 29)), none⟩, ⟨(some 31), (.mv (.t 30)), none⟩, ⟨(some 32), (.load (some 5) (.t 5)), (some (31, false))⟩, ⟨(some 33), (.load (some 5) (.t 7)), (some (31, false))⟩, ⟨(some 34), (.call 77 [(.t 32), (.t 33)]), (some (31, false))⟩, ⟨(some 35), (.pick (.t 31) (.c (.bool true)) (.t 34)), none⟩]) (.cond (.t 35) (.reg [⟨(some 36), (.mv (.t 3)), none⟩, ⟨(some 37), (.load (some 2) (.t 6)), none⟩, ⟨(some 38), (.load (some 5) (.t 5)), none⟩, ⟨none, (.mapUp 4 (.t 36) (.t 37) (.t 38)), none⟩]) .skip)))))) (.reg [⟨(some 39), (.bin .add .i64 (.t 14) (.c (.int .i64 1))), none⟩, ⟨(some 14), (.mv (.t 39)), none⟩]))))))) (.seq (.reg [⟨(some 40), (.mv (.t 3)), none⟩, ⟨(some 41), (.call 79 [(.t 40)]), none⟩, ⟨(some 42), (.call 78 [(.t 41), (.c (.func 80 [] []))]), none⟩, ⟨(some 9), (.mv (.t 42)), none⟩]) (.seq (.seq (.reg [⟨(some 43), (.mv (.t 9)), none⟩, ⟨(some 44), (.len (.t 43)), none⟩, ⟨(some 45), (.mv (.c (.int .i64 0))), none⟩]) (.block 2 (.loop (.seq (.reg [⟨(some 46), (.bin .lss .i64 (.t 45) (.t 44)), none⟩]) (.seq (.cond (.t 46) .skip (.exit 2)) (.seq (.block 3 (.seq (.reg [⟨(some 47), (.mv (.t 45)), none⟩, ⟨(some 10), (.mv (.t 47)), none⟩]) (.reg [⟨(some 48), (.mv (.t 9)), none⟩, ⟨(some 49), (.mv (.t 10)), none⟩, ⟨(some 50), (.mv (.t 9)), none⟩, ⟨(some 51), (.mv (.t 10)), none⟩, ⟨(some 52), (.iaddr 5 (.t 50) (.t 51)), none⟩, ⟨(some 53), (.faddr 4 (.t 52)), none⟩, ⟨(some 54), (.load none (.t 53)), none⟩, ⟨(some 55), (.call 81 [(.t 54)]), none⟩, ⟨(some 56), (.iaddr 5 (.t 48) (.t 49)), none⟩, ⟨(some 57), (.faddr 4 (.t 56)), none⟩, ⟨none, (.store 1 (.t 57) (.t 55)), none⟩]))) (.reg [⟨(some 58), (.bin .add .i64 (.t 45) (.c (.int .i64 1))), none⟩, ⟨(some 45), (.mv (.t 58)), none⟩]))))))) (.seq (.reg [⟨(some 59), (.mv (.t 9)), none⟩, ⟨(some 2), (.mv (.t 59)), none⟩]) .ret))))))

set_option maxRecDepth 100000 in
theorem k_tgather : compileC Try.prog ann (Try.f27.body.getD .skip) = some c_tgather := by kernel_rfl

theorem s_tgather {args : List AV} {σ : St} {K : AV → St → Prop} (h : WF σ → T Try.prog ann c_tgather (Fin σ [(.t 2)] K) (args ++ List.replicate (60 - args.length) (.tup [])) σ) : ACalls Try.prog n_tgather args σ K :=
  calls_ok Try.func27 (by kernel_rfl) (by kernel_rfl) k_tgather (by kernel_rfl) (by kernel_rfl) h

abbrev n_tmerge : Nat := 28

def c_tmerge : C := (.seq (.reg [⟨(some 4), (.mv (.c (.sl [] .nil))), none⟩]) (.seq (.reg [⟨(some 5), (.mv (.t 0)), none⟩, ⟨(some 6), (.mv (.t 1)), none⟩, ⟨(some 7), (.bslice 1 .val [(.t 5), (.t 6)]), none⟩, ⟨(some 8), (.call 82 [(.t 7)]), none⟩, ⟨(some 9), (.call 27 [(.t 8)]), none⟩, ⟨(some 4), (.mv (.t 9)), none⟩]) .ret))

set_option maxRecDepth 100000 in
theorem k_tmerge : compileC Try.prog ann (Try.f28.body.getD .skip) = some c_tmerge := by kernel_rfl

theorem s_tmerge {args : List AV} {σ : St} {K : AV → St → Prop} (h : WF σ → T Try.prog ann c_tmerge (Fin σ [(.t 4)] K) (args ++ List.replicate (10 - args.length) (.tup [])) σ) : ACalls Try.prog n_tmerge args σ K :=
  calls_ok Try.func28 (by kernel_rfl) (by kernel_rfl) k_tmerge (by kernel_rfl) (by kernel_rfl) h

abbrev n_sortedfs : Nat := 78

def c_sortedfs : C := (.seq (.reg [⟨(some 4), (.mv (.c (.sl [] .nil))), none⟩]) (.seq (.reg [⟨(some 6), (.mv (.t 0)), none⟩, ⟨(some 7), (.call 126 [(.t 6)]), none⟩, ⟨(some 5), (.mv (.t 7)), none⟩]) (.seq (.reg [⟨(some 8), (.mv (.t 5)), none⟩, ⟨(some 9), (.mv (.t 1)), none⟩, ⟨(some 10), (.call 127 [(.t 8), (.t 9)]), none⟩]) (.seq (.reg [⟨(some 11), (.mv (.t 5)), none⟩, ⟨(some 4), (.mv (.t 11)), none⟩]) .ret))))

set_option maxRecDepth 100000 in
theorem k_sortedfs : compileC Try.prog ann (Try.f78.body.getD .skip) = some c_sortedfs := by kernel_rfl

theorem s_sortedfs {args : List AV} {σ : St} {K : AV → St → Prop} (h : WF σ → T Try.prog ann c_sortedfs (Fin σ [(.t 4)] K) (args ++ List.replicate (12 - args.length) (.tup [])) σ) : ACalls Try.prog n_sortedfs args σ K :=
  calls_ok Try.func78 (by kernel_rfl) (by kernel_rfl) k_sortedfs (by kernel_rfl) (by kernel_rfl) h

abbrev n_collects : Nat := 126

def c_collects : C := (.seq (.reg [⟨(some 2), (.mv (.c (.sl [] .nil))), none⟩]) (.seq (.reg [⟨(some 3), (.mv (.t 0)), none⟩, ⟨(some 4), (.call 157 [(.c (.sl [] .nil)), (.t 3)]), none⟩, ⟨(some 2), (.mv (.t 4)), none⟩]) .ret))

set_option maxRecDepth 100000 in
theorem k_collects : compileC Try.prog ann (Try.f126.body.getD .skip) = some c_collects := by kernel_rfl

theorem s_collects {args : List AV} {σ : St} {K : AV → St → Prop} (h : WF σ → T Try.prog ann c_collects (Fin σ [(.t 2)] K) (args ++ List.replicate (5 - args.length) (.tup [])) σ) : ACalls Try.prog n_collects args σ K :=
  calls_ok Try.func126 (by kernel_rfl) (by kernel_rfl) k_collects (by kernel_rfl) (by kernel_rfl) h

abbrev n_valuess : Nat := 79

def c_valuess : C := (.seq (.reg [⟨(some 1), (.box (.t 0)), none⟩, ⟨(some 2), (.mv (.c .nilf)), none⟩]) (.seq (.reg [⟨(some 3), (.mkF 128 [] [(.t 1)]), none⟩, ⟨(some 2), (.mv (.t 3)), none⟩]) .ret))

set_option maxRecDepth 100000 in
theorem k_valuess : compileC Try.prog ann (Try.f79.body.getD .skip) = some c_valuess := by kernel_rfl

theorem s_valuess {args : List AV} {σ : St} {K : AV → St → Prop} (h : WF σ → T Try.prog ann c_valuess (Fin σ [(.t 2)] K) (args ++ List.replicate (4 - args.length) (.tup [])) σ) : ACalls Try.prog n_valuess args σ K :=
  calls_ok Try.func79 (by kernel_rfl) (by kernel_rfl) k_valuess (by kernel_rfl) (by kernel_rfl) h

abbrev n_grows : Nat := 130

def c_grows : C := (.seq (.reg [⟨(some 4), (.mv (.c (.sl [] .nil))), none⟩]) (.seq (.seq (.reg [⟨(some 5), (.mv (.t 1)), none⟩, ⟨(some 6), (.bin .lss .i64 (.t 5) (.c (.int .i64 0))), none⟩]) (.cond (.t 6) (.reg [⟨(some 7), (.mkI 9 (.c (.str ⟨#[99, 97, 110, 110, 111, 116, 32, 98, 101, 32, 110, 101, 103, 97, 116, 105, 118, 101]⟩))), none⟩, ⟨none, .panic, none⟩]) .skip)) (.seq (.seq (.reg [⟨(some 8), (.mv (.t 1)), none⟩, ⟨(some 9), (.mv (.t 0)), none⟩, ⟨(some 10), (.cap (.t 9)), none⟩, ⟨(some 11), (.mv (.t 0)), none⟩, ⟨(some 12), (.len (.t 11)), none⟩, ⟨(some 13), (.bin .sub .i64 (.t 10) (.t 12)), none⟩, ⟨(some 14), (.bin .sub .i64 (.t 8) (.t 13)), none⟩, ⟨(some 1), (.mv (.t 14)), none⟩]) (.seq (.reg [⟨(some 15), (.mv (.t 1)), none⟩, ⟨(some 16), (.bin .gtr .i64 (.t 15) (.c (.int .i64 0))), none⟩]) (.cond (.t 16) (.reg [⟨(some 17), (.mv (.t 0)), none⟩, ⟨(some 18), (.mv (.t 0)), none⟩, ⟨(some 19), (.cap (.t 18)), none⟩, ⟨(some 20), (.slice 5 (.t 17) none (some (.t 19))), none⟩, ⟨(some 21), (.mv (.t 1)), none⟩, ⟨(some 22), (.appZ 5 56 (.agg [(.int .u64 0), (.int .u64 0), (.int .i64 0), (.int .i64 0), (.sl [] .nil)]) (.t 20) (.t 21)), none⟩, ⟨(some 23), (.mv (.t 0)), none⟩, ⟨(some 24), (.len (.t 23)), none⟩, ⟨(some 25), (.slice 5 (.t 22) none (some (.t 24))), none⟩, ⟨(some 0), (.mv (.t 25)), none⟩]) .skip))) (.seq (.reg [⟨(some 26), (.mv (.t 0)), none⟩, ⟨(some 4), (.mv (.t 26)), none⟩]) .ret))))

set_option maxRecDepth 100000 in
theorem k_grows : compileC Try.prog ann (Try.f130.body.getD .skip) = some c_grows := by kernel_rfl

theorem s_grows {args : List AV} {σ : St} {K : AV → St → Prop} (h : WF σ → T Try.prog ann c_grows (Fin σ [(.t 4)] K) (args ++ List.replicate (27 - args.length) (.tup [])) σ) : ACalls Try.prog n_grows args σ K :=
  calls_ok Try.func130 (by kernel_rfl) (by kernel_rfl) k_grows (by kernel_rfl) (by kernel_rfl) h

abbrev n_concats : Nat := 82

def c_concats : C := (.seq (.reg [⟨(some 2), (.mv (.c (.sl [] .nil))), none⟩]) (.seq (.reg [⟨(some 3), (.mv (.c (.int .i64 0))), none⟩]) (.seq (.seq (.reg [⟨(some 9), (.mv (.t 0)), none⟩, ⟨(some 10), (.len (.t 9)), none⟩, ⟨(some 11), (.mv (.c (.int .i64 0))), none⟩]) (.block 0 (.loop (.seq (.reg [⟨(some 12), (.bin .lss .i64 (.t 11) (.t 10)), none⟩]) (.seq (.cond (.t 12) .skip (.exit 0)) (.seq (.block 1 (.seq (.reg [⟨(some 13), (.iaddr 1 (.t 9) (.t 11)), none⟩, ⟨(some 14), (.load none (.t 13)), none⟩, ⟨(some 5), (.mv (.t 14)), none⟩]) (.seq (.reg [⟨(some 15), (.mv (.t 3)), none⟩, ⟨(some 16), (.mv (.t 5)), none⟩, ⟨(some 17), (.len (.t 16)), none⟩, ⟨(some 18), (.bin .add .i64 (.t 15) (.t 17)), none⟩, ⟨(some 3), (.mv (.t 18)), none⟩]) (.seq (.reg [⟨(some 19), (.mv (.t 3)), none⟩, ⟨(some 20), (.bin .lss .i64 (.t 19) (.c (.int .i64 0))), none⟩]) (.cond (.t 20) (.reg [⟨(some 21), (.mkI 9 (.c (.str ⟨#[108, 101, 110, 32, 111, 117, 116, 32, 111, 102, 32, 114, 97, 110, 103, 101]⟩))), none⟩, ⟨none, .panic, none⟩]) .skip))))) (.reg [⟨(some 22), (.bin .add .i64 (.t 11) (.c (.int .i64 1))), none⟩, ⟨(some 11), (.mv (.t 22)), none⟩]))))))) (.seq (.reg [⟨(some 23), (.mv (.t 3)), none⟩, ⟨(some 24), (.call 130 [(.c (.sl [] .nil)), (.t 23)]), none⟩, ⟨(some 6), (.mv (.t 24)), none⟩]) (.seq (.seq (.reg [⟨(some 25), (.mv (.t 0)), none⟩, ⟨(some 26), (.len (.t 25)), none⟩, ⟨(some 27), (.mv (.c (.int .i64 0))), none⟩]) (.block 2 (.loop (.seq (.reg [⟨(some 28), (.bin .lss .i64 (.t 27) (.t 26)), none⟩]) (.seq (.cond (.t 28) .skip (.exit 2)) (.seq (.block 3 (.seq (.reg [⟨(some 29), (.iaddr 1 (.t 25) (.t 27)), none⟩, ⟨(some 30), (.load none (.t 29)), none⟩, ⟨(some 8), (.mv (.t 30)), none⟩]) (.reg [⟨(some 31), (.mv (.t 6)), none⟩, ⟨(some 32), (.mv (.t 8)), none⟩, ⟨(some 33), (.app 5 56 .tip (.t 31) (.t 32)), none⟩, ⟨(some 6), (.mv (.t 33)), none⟩]))) (.reg [⟨(some 34), (.bin .add .i64 (.t 27) (.c (.int .i64 1))), none⟩, ⟨(some 27), (.mv (.t 34)), none⟩]))))))) (.seq (.reg [⟨(some 35), (.mv (.t 6)), none⟩, ⟨(some 2), (.mv (.t 35)), none⟩]) .ret))))))

set_option maxRecDepth 100000 in
theorem k_concats : compileC Try.prog ann (Try.f82.body.getD .skip) = some c_concats := by kernel_rfl

theorem s_concats {args : List AV} {σ : St} {K : AV → St → Prop} (h : WF σ → T Try.prog ann c_concats (Fin σ [(.t 2)] K) (args ++ List.replicate (36 - args.length) (.tup [])) σ) : ACalls Try.prog n_concats args σ K :=
  calls_ok Try.func82 (by kernel_rfl) (by kernel_rfl) k_concats (by kernel_rfl) (by kernel_rfl) h

end Go.VL

namespace Go.VL

open Go.Proofs

abbrev ann_clone : Ann := { errs := [(31, .i64)], hold := [(3, 0, .zero), (3, 2, .own)] }

abbrev n_clone : Nat := 81

def c_clone : C := (.seq (.reg [⟨(some 2), (.mv (.c (.sl [] .nil))), none⟩]) (.seq (.seq (.reg [⟨(some 3), (.mv (.t 0)), none⟩, ⟨(some 4), (.eqS false (.t 3)), none⟩]) (.cond (.t 4) (.seq (.reg [⟨(some 2), (.mv (.c (.sl [] .nil))), none⟩]) .ret) .skip)) (.seq (.reg [⟨(some 5), (.bslice 1 .zero []), none⟩, ⟨(some 6), (.mv (.t 0)), none⟩, ⟨(some 7), (.app 1 1 .own (.t 5) (.t 6)), none⟩, ⟨(some 2), (.mv (.t 7)), none⟩]) .ret)))

set_option maxRecDepth 100000 in
theorem k_clone : compileC Try.prog ann_clone (Try.f81.body.getD .skip) = some c_clone := by kernel_rfl

theorem s_clone {args : List AV} {σ : St} {K : AV → St → Prop} (h : WF σ → T Try.prog ann_clone c_clone (Fin σ [(.t 2)] K) (args ++ List.replicate (8 - args.length) (.tup [])) σ) : ACalls Try.prog n_clone args σ K :=
  calls_ok Try.func81 (by kernel_rfl) (by kernel_rfl) k_clone (by kernel_rfl) (by kernel_rfl) h

end Go.VL

namespace Go.VL

open Go.Proofs

/-- what a store holds: names, and bytes -/
abbrev Objs := List (ByteArray × List UInt8)

def objsAV (L : Objs) : List (AV × AV) := L.map fun e => (.str e.1, .sl (bytesAV e.2) .none)

/-- a store stands at p, its map at m -/
structure StS (σ : St) (p m : Nat) (room left calls : Int) (L : Objs) : Prop where
  obj : σ.res p = some (.obj [.int .i64 room, .map m, .int .i64 left, .int .i64 calls])
  map : ∃ ts clk, σ.res m = some (.map (objsAV L) ts clk) ∧ ts.length = L.length ∧ ts.Nodup ∧ ∀ t ∈ ts, t < clk
  ne : p ≠ m

theorem StS.mono {σ σ' : St} {p m : Nat} {room left calls : Int} {L : Objs} (h : StS σ p m room left calls L) (ho : ∀ n x, σ.res n = some x → σ'.res n = some x) : StS σ' p m room left calls L := by
  obtain ⟨ts, clk, h1, h2⟩ := h.map
  exact ⟨ho _ _ h.obj, ⟨ts, clk, ho _ _ h1, h2⟩, h.ne⟩

theorem clone_ok {b : List UInt8} {v : AV} {σ : St} (hb : b.length ≤ 1099511627776) (hv : (∃ g, v = .sl (bytesAV b) g ∧ (g = .nil → b = [])) ∨ ∃ n, v = .ref n 0 b.length ∧ σ.res n = some (.obj (bytesAV b))) :
    ACalls Try.prog n_clone [v] σ (fun w σ' => (w = .sl [] .none ∧ b = [] ∧ ∀ n x, σ.res n = some x → σ'.res n = some x) ∨ ∃ n, σ.next ≤ n ∧ n < σ'.next ∧ w = .ref n 0 b.length ∧ σ'.res n = some (.obj (bytesAV b)) ∧ ∀ n x, σ.res n = some x → σ'.res n = some x) := by
  refine s_clone (fun wf => ?_)
  unfold c_clone
  have more : ∀ ρ' : List AV, keep [0] 0 ρ' = [v] ++ List.replicate 7 .any → T Try.prog ann_clone (.seq (.reg [⟨(some 5), (.bslice 1 .zero []), none⟩, ⟨(some 6), (.mv (.t 0)), none⟩, ⟨(some 7), (.app 1 1 .own (.t 5) (.t 6)), none⟩, ⟨(some 2), (.mv (.t 7)), none⟩]) .ret)
      (Fin σ [.t 2] (fun w σ' => (w = .sl [] .none ∧ b = [] ∧ ∀ n x, σ.res n = some x → σ'.res n = some x) ∨ ∃ n, σ.next ≤ n ∧ n < σ'.next ∧ w = .ref n 0 b.length ∧ σ'.res n = some (.obj (bytesAV b)) ∧ ∀ n x, σ.res n = some x → σ'.res n = some x)) ρ' σ := by
    intro ρ' hρ
    refine T.gh (Gh.keep [0]) ?_
    rw [hρ]
    clear hρ ρ'
    have hsrc : srcOf (σ.up 4) 1 v = some (bytesAV b) := by
      rcases hv with ⟨g, rfl, _⟩ | ⟨n, rfl, hr⟩
      · simp only [srcOf, bytesAV_er]
      · have e : ((bytesAV b).drop 0).take b.length = bytesAV b := by rw [List.drop_zero, List.take_of_length_le (by rw [bytesAV_len]; exact Nat.le_refl _)]
        have hr' : (σ.up 4).res n = some (.obj (bytesAV b)) := hr
        unfold srcOf
        simp only [hr']
        rw [e, if_pos ⟨by trivial, by rw [bytesAV_len]; omega, by simp [bytesAV, AV.one]⟩]
        simp [bytesAV, AV.er1]
    refine T.seq_k (fun K_h1 h1 => ?_)
    cases b with
    | nil =>
      have hsrc' : srcOf (σ.up 4) 1 v = some [] := hsrc
      refine T.regi hm ?_
      simp only [↓reduceIte, namesOf, List.any, I.names, aopsI, astep, ev, setd, List.set, List.getD, List.getElem?_cons_zero, List.getElem?_cons_succ, List.cons_append, List.nil_append, List.length_cons, List.length_nil, List.replicate, then_normal, Option.getD_some, Bool.or_false, Bool.or_true, Nat.reduceAdd, true_and, eq_self, decide_true, List.isEmpty, hsrc', List.all_nil, Bool.true_and, Nat.zero_add, Nat.zero_mul, Nat.zero_le, and_self, List.append_nil]
      refine h1 _ _ ?_
      try clear h1 K_h1
      exact T.ret (Fin.retw rfl (y := .sl [] .none) (Wk.sl _ _) (.inl ⟨rfl, rfl, fun _ _ h => h⟩))
    | cons x r =>
      have hne : (bytesAV (x :: r)).isEmpty = false := rfl
      refine T.regi hm ?_
      simp only [↓reduceIte, namesOf, List.any, I.names, aopsI, astep, ev, setd, List.set, List.getD, List.getElem?_cons_zero, List.getElem?_cons_succ, List.cons_append, List.nil_append, List.length_cons, List.length_nil, List.replicate, then_normal, Option.getD_some, Bool.or_false, Bool.or_true, Nat.reduceAdd, eq_self, reduceCtorEq, List.isEmpty, hsrc, bytes_all, Bool.true_and, List.nil_append, Nat.zero_add]
      rw [if_pos (by simp only [bytesAV_len, decide_eq_true_eq]; omega)]
      refine h1 _ _ ?_
      try clear h1 K_h1
      refine T.ret (Fin.ret rfl (.inr ⟨σ.next + 2, by omega, by simp, ?_, ?_, set_quiet wf (Nat.le_refl _) (fun _ _ h => h) _ (by omega)⟩))
      · simp [pack, bytesAV_len]
      · rw [St.set_same, bytes_flat]
  refine T.seq_k (fun K_h1 h1 => ?_)
  refine T.regi hm ?_
  simp only [↓reduceIte, namesOf, List.any, I.names, aopsI, astep, ev, setd, List.set, List.cons_append, List.nil_append, List.length_cons, List.length_nil, List.replicate, then_normal, Bool.or_false, Bool.false_eq_true, up_zero, Nat.reduceAdd, Nat.reduceSub]
  refine h1 _ _ ?_
  try clear h1 K_h1
  refine T.seq_k (fun K_h1 h1 => ?_)
  refine T.seq_k (fun K_h2 h2 => ?_)
  have hlen0 : (∃ n, v = .ref n 0 b.length ∧ σ.res n = some (.obj (bytesAV b))) → ∀ K : AV → St → Prop, K (.bool false) σ → True := fun _ _ _ => trivial
  clear hlen0
  rcases hv with ⟨g, rfl, hgn⟩ | ⟨n, rfl, hr⟩
  · have go : ∀ ρ' : List AV, keep [0] 0 ρ' = [.sl (bytesAV b) g] ++ List.replicate 7 .any → ∀ x : Bool, ρ'.getD 4 .any = .bool x → (x = true → b = []) → K_h2 ρ' σ := by
      intro ρ' hρ x hx hn
      refine h2 _ _ ?_
      try clear h2 K_h2
      refine T.cond (b := x) (by simpa [ev] using hx) (fun ht => ?_) (fun _ => T.skip ?_)
      · have hb0 := hn ht
        refine T.gh (Gh.keep [0]) ?_
        rw [hρ]
        refine T.seq_k (fun K_h2 h2 => ?_)
        refine T.regi hm ?_
        simp only [↓reduceIte, namesOf, List.any, I.names, aopsI, astep, ev, setd, List.set, List.cons_append, List.nil_append, List.replicate, then_normal, Bool.or_false, Bool.false_eq_true, up_zero]
        refine h2 _ _ ?_
        try clear h2 K_h2
        exact T.ret (Fin.retw rfl (y := .sl [] .none) (Wk.sl _ _) (.inl ⟨rfl, hb0, fun _ _ h => h⟩))
      · refine h1 _ _ ?_
        try clear h1 K_h1
        exact more _ hρ
    cases b with
    | nil =>
      cases g <;> refine T.regi hm ?_
      simp only [↓reduceIte, namesOf, List.any, I.names, aopsI, astep, ev, setd, List.set, List.getD, List.getElem?_cons_zero, List.getElem?_cons_succ, List.length_nil, then_normal, Option.getD_some, Bool.or_false, Bool.false_eq_true, up_zero, true_and, eq_self, List.isEmpty, bne_self_eq_false]
      · intro x; exact go _ rfl x rfl (fun _ => rfl)
      · exact go _ rfl _ rfl (fun _ => rfl)
      · intro x; exact go _ rfl x rfl (fun _ => rfl)
      · intro x; exact go _ rfl x rfl (fun _ => rfl)
    | cons y r =>
      have hne : (bytesAV (y :: r)).isEmpty = false := rfl
      cases g
      case nil => exact absurd (hgn rfl) (by simp)
      all_goals
        refine T.regi hm ?_
        simp only [↓reduceIte, namesOf, List.any, I.names, aopsI, astep, ev, setd, List.set, List.getD, List.getElem?_cons_zero, List.getElem?_cons_succ, List.length_cons, then_normal, Option.getD_some, Bool.or_false, Bool.false_eq_true, up_zero, reduceCtorEq, hne, bne_self_eq_false]
        exact go _ rfl false rfl (fun h => by cases h)
  · refine T.regi hm ?_
    simp only [↓reduceIte, namesOf, List.any, I.names, aopsI, astep, ev, setd, List.set, List.getD, List.getElem?_cons_zero, List.getElem?_cons_succ, then_normal, Option.getD_some, Bool.or_false, Bool.false_eq_true, up_zero, bne_self_eq_false]
    refine h2 _ _ ?_
    try clear h2 K_h2
    refine T.cond rfl (fun h => by cases h) (fun _ => T.skip ?_)
    refine h1 _ _ ?_
    try clear h1 K_h1
    exact more _ rfl

end Go.VL

namespace Go.VL

open Go.Proofs

/-- an owned row that comes back, told to be a value -/
theorem Gv.freeze {σ0 σ : St} {n off len k : Nat} {cs xs : List AV} (hr : σ.res n = some (.obj cs)) (hlen : xs.length = len) (hk : ∀ x ∈ xs, x.cells.length = k)
    (hx : xs.flatMap AV.cells = (cs.drop off).take (len * k)) : Gv σ0 (.ref n off len) σ (.sl xs .none) (σ.del n) := by
  intro κ0 w0 B0 F0 F κ w v h0 hR he hd hn hv
  obtain ⟨hdm, us, rest, ty, fz, h1, h2, h3, h4, _⟩ := hR.own n _ hr
  have e : Ext κ w { κ with I := fun b o => κ.I b o ∨ (b = κ.φ n ∧ o < us.length) } w := ⟨fun _ _ x => .inl x, fun _ _ => rfl, fun _ _ => rfl, fun _ _ => rfl, fun _ _ => rfl, fun _ x => x, fun _ _ _ => rfl⟩
  have hlt := hR.lt hr
  have hR' : R w0.heap.size F { κ with I := fun b o => κ.I b o ∨ (b = κ.φ n ∧ o < us.length) } w (σ.del n) := by
    refine hR.step e (fun m hm => hR.dom m hm) (fun b o hi => ?_) (fun m r hm => ?_)
    · rcases hi with hi | ⟨rfl, _⟩
      · exact hR.imm b o hi
      · exact hlt
    · have hmn : m ≠ n := by intro e; subst e; simp [St.del] at hm
      have hm' : σ.res m = some r := by simpa [St.del, hmn] using hm
      refine .inl ⟨hm', rfl, fun o hi => ?_⟩
      rcases hi with hi | ⟨hx, _⟩
      · exact hi
      · exact absurd (hR.apart _ _ _ _ hm' hr hx) hmn
  obtain ⟨cap, rfl, hcap, _⟩ := hv.ref_inv
  refine ⟨_, hR', he.trans e, hd, hn, ?_⟩
  rw [← hlen]
  refine .sl _ _ cap k xs hk (by rw [hlen]; exact hcap) ?_
  rw [hx]
  refine Vs.mk (us := (us.drop off).take (len * k)) (((h3.mono e).drop off).take _) (fun i u hu => ?_)
  have hu2 : us[off + i]? = some u := by
    rw [List.getElem?_take] at hu
    split at hu
    · simpa using hu
    · cases hu
  have hil : off + i < us.length := (List.getElem?_eq_some_iff.1 hu2).1
  exact ⟨.inr ⟨rfl, hil⟩, by rw [cell_of h1, List.getElem?_append_left hil]; exact hu2⟩

abbrev BytesV (σ : St) (v : AV) (b : List UInt8) : Prop := (∃ g, v = .sl (bytesAV b) g ∧ (g = .nil → b = [])) ∨ ∃ n, v = .ref n 0 b.length ∧ σ.res n = some (.obj (bytesAV b))

theorem clone_q {b : List UInt8} {v : AV} {σ : St} (hb : b.length ≤ 1099511627776) (hv : BytesV σ v b) : ACalls Try.prog n_clone [v] σ (fun w σ' => w = .sl (bytesAV b) .none ∧ σ' = σ) := by
  refine (clone_ok hb hv).gv ?_
  rintro wf w σ' (⟨rfl, rfl, ho⟩ | ⟨n, h1, h2, rfl, h3, ho⟩)
  · exact ⟨_, _, Gv.quiet ⟨trivial, trivial⟩ ho, rfl, rfl⟩
  · refine ⟨_, _, (Gv.freeze (k := 1) h3 (xs := bytesAV b) (bytesAV_len b) (fun x hx => ?_) ?_).trans (Gv.quiet ⟨nb_bytes _ _, trivial⟩ (fun m x hm => ?_)), rfl, rfl⟩
    · obtain ⟨y, _, rfl⟩ := List.mem_map.1 hx; rfl
    · rw [bytes_flat, List.drop_zero, Nat.mul_one, List.take_of_length_le (by rw [bytesAV_len]; exact Nat.le_refl _)]
    · have hmn : m ≠ n := by
        rintro rfl
        rw [wf m h1] at hm; cases hm
      simp only [St.del]
      rw [if_neg hmn]; exact ho m x hm

/-- all else is as it was -/
structure Nx (σ σ' : St) (p m : Nat) : Prop where
  next : σ.next ≤ σ'.next
  old : ∀ n x, n ≠ p → n ≠ m → σ.res n = some x → σ'.res n = some x

theorem Nx.refl (σ : St) (p m : Nat) : Nx σ σ p m := ⟨Nat.le_refl _, fun _ _ _ _ h => h⟩

theorem Nx.trans {σ σ1 σ2 : St} {p m : Nat} (h : Nx σ σ1 p m) (k : Nx σ1 σ2 p m) : Nx σ σ2 p m := ⟨Nat.le_trans h.next k.next, fun n x h1 h2 h3 => k.old n x h1 h2 (h.old n x h1 h2 h3)⟩

theorem Nx.set {σ : St} {p m : Nat} (r : Res) : Nx σ (σ.set p r) p m := ⟨Nat.le_refl _, fun n x h1 _ h3 => by rw [St.set_other _ _ h1]; exact h3⟩

end Go.VL
