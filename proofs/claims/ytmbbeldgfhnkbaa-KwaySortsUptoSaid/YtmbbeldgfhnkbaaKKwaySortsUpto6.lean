/- Texts put together, of these what the theorem needs: Which of two spans is the lesser one, told; the map that gathers spans. The spans of a map, in order: maps.Values, slices.Collect, slices.SortedFunc. trace.Gather, walked. The plain law of gathering: what the map held, in order, is what the document gathers. trace.Gather, told as the document; rows of spans put together; trace.Merge. MADE IN PART BY PROGRAM out of VrD, VrE. The plain law of TraceUnion: merging is the same in whatever order. trace.Of: slices.IndexFunc and slices.DeleteFunc at an owned row of spans; the document's Of. Contracts: spans out of bytes. Contracts: the document's canonical traces; its index. The plain law of IndexOf: what is canonical by the code is so by the document. A page out of bytes: what is told of it, and readers moved with their bytes. Contracts: an index out of bytes. Contracts: the document's Flat and Group; rows that are small; all spans of rows. The plain law of kway.Merge: what is merged, row by row, is the group of all spans. Contracts: kway.Merge. The head of layer 10; KwayMerges and KwayParts, walked. KwaySorts (layer 10), walked: a number put into a row. KwaySorts (layer 10), walked: a row made, its places told. KwaySorts (layer 10), walked: one row. KwaySorts (layer 10), walked; what its rows together hold is at most 1048576. -/
import Derived.Test.YtmbbeldgfhnkbaaKKwaySortsUpto5

set_option linter.unusedSimpArgs false
set_option linter.unusedVariables false

namespace Go.VL

open Go.Proofs

open Classical in
/-- a table of what bytes.Compare comes to -/
noncomputable def g_bc (args : List AV) : Option AV := if h : ∃ p : (List UInt8 × List UInt8) × (Ver × Ver), args = [.sl (bytesAV p.1.1) p.2.1, .sl (bytesAV p.1.2) p.2.2] then some (.int .i64 (Lib.compareBytes h.choose.1.1 h.choose.1.2)) else none

theorem g_bc_eq (a b : List UInt8) (g g' : Ver) : g_bc [.sl (bytesAV a) g, .sl (bytesAV b) g'] = some (.int .i64 (Lib.compareBytes a b)) := by
  unfold g_bc
  have hex : ∃ p : (List UInt8 × List UInt8) × (Ver × Ver), [AV.sl (bytesAV a) g, AV.sl (bytesAV b) g'] = [.sl (bytesAV p.1.1) p.2.1, .sl (bytesAV p.1.2) p.2.2] := ⟨((a, b), (g, g')), rfl⟩
  rw [dif_pos hex]
  have hc := hex.choose_spec
  rw [List.cons.injEq, List.cons.injEq] at hc
  have h1 := hc.1
  have h2 := hc.2.1
  injection h1 with h1 _
  injection h2 with h2 _
  rw [← bytesAV_inj h1, ← bytesAV_inj h2]

theorem bc_pure : PureC Try.prog n_bcmp g_bc := by
  intro args σ v hv
  unfold g_bc at hv
  split at hv
  · rename_i hex
    simp only [Option.some.injEq] at hv; subst hv
    have hc := hex.choose_spec
    generalize hex.choose = c at hc
    subst hc
    exact bcmp_ok
  · cases hv

noncomputable def tLs : Tbl := [(n_cmpi, g_cmpi), (n_bcmp, g_bc), (n_cor, g_or3)]

theorem tLs_ok : tLs.ok Try.prog := Tbl.ok_cons cmpi_pure (Tbl.ok_cons bc_pure (Tbl.ok_cons or3_pure Tbl.ok_nil))

theorem less_or (a b : Sp) : decide (orI [cmp3 a.st b.st, cmp3 a.en b.en, Lib.compareBytes a.da b.da] < 0) = lessS a b := by
  unfold lessS cmp3
  by_cases h1 : a.st = b.st
  · by_cases h2 : a.en = b.en
    · simp only [h1, h2, Int.lt_irrefl, if_false, orI, if_true, ne_eq, not_true_eq_false]
      have := compareBytes_neg a.da b.da
      by_cases h3 : Lib.compareBytes a.da b.da = 0
      · simp only [h3, if_true]
        rw [h3] at this
        have h4 : ¬ (Op.bytesLess a.da b.da = true) := by rw [← this]; decide
        simp at h4; simp [h4]
      · simp only [h3, if_false, this]
        simp
    · simp only [h1, Int.lt_irrefl, if_false, orI, if_true, ne_eq, not_true_eq_false, h2, not_false_eq_true]
      by_cases h3 : a.en < b.en
      · simp [h3]
      · have h4 : b.en < a.en := by omega
        simp [h3, h4]
  · simp only [ne_eq, h1, not_false_eq_true, if_true]
    by_cases h3 : a.st < b.st
    · simp [h3, orI]
    · have h4 : b.st < a.st := by omega
      simp [h3, h4, orI]

set_option maxRecDepth 10000 in
theorem tless_ok {a b : Sp} {σ : St} : ACalls Try.prog n_tless [.agg (spC a), .agg (spC b)] σ (fun v σ' => v = .bool (lessS a b) ∧ σ' = σ) := by
  refine s_tless (fun wf => ?_)
  unfold c_tless
  refine T.seq_k (fun K_h1 h1 => ?_)
  refine T.regi hm ?_
  simp only [↓reduceIte, namesOf, List.any, I.names, aopsI, astep, ev, setd, List.set, List.getD, List.getElem?_cons_zero, List.getElem?_cons_succ, List.cons_append, List.nil_append, List.length_cons, List.length_nil, List.replicate, then_normal, Option.getD_some, Bool.or_false, Bool.or_true, Bool.false_eq_true, Nat.reduceAdd, Nat.reduceSub, AV.isAny, AV.cells, eq_self]
  obtain ⟨h0, h0', hq⟩ := box2 wf 3 (.obj (spC a)) (.obj (spC b))
  generalize (((σ.up 3).set (σ.next + 0) (.obj (spC a))).set (σ.next + 1) (.obj (spC b))) = σ1 at h0 h0' hq ⊢
  refine h1 _ _ ?_
  try clear h1 K_h1
  refine T.seq_k (fun K_h1 h1 => ?_)
  have hge := g_bc_eq a.da b.da .none .none
  refine T.regt hm tLs_ok ?_
  simp only [↓reduceIte, namesOf, List.any, I.names, aopsT, qstep, qget, Tbl.get, astep, ev, setd, List.set, List.getD, List.getElem?_cons_zero, List.getElem?_cons_succ, List.length_cons, List.length_nil, then_normal, Option.getD_some, Bool.or_false, Bool.false_eq_true, up_zero, binv, ↓opt_def, AV.isAny, AV.cells, ldc, List.map_cons, List.map_nil, eq_self, er_int, Nat.reduceEqDiff, tLs, n_cmpi, n_bcmp, n_cor, h0, h0', g_cmpi, hge, g_or3, Nat.zero_add, Nat.reduceEqDiff, List.all_cons, List.all_nil, AV.fits, AV.one, Bool.not_false, Bool.and_self, beq_self_eq_true, held]
  refine h1 _ _ ?_
  try clear h1 K_h1
  exact T.ret (Fin.quiet rfl trivial hq ⟨by rw [← less_or]; rfl, rfl⟩)

/-! ### The map that gathers -/

def kS (s : Sp) : AV := .agg [.int .u64 (s.tr : Int), .int .u64 (s.id : Int)]

def metS (vs : List Sp) : List (AV × AV) := vs.map fun s => (kS s, s.av)

def sameK (a b : Sp) : Bool := decide (a.tr = b.tr) && decide (a.id = b.id)

theorem natb (m n : Nat) : ((m : Int) == (n : Int)) = decide (m = n) := by
  by_cases h : m = n
  · simp [h]
  · have : ¬ ((m : Int) = (n : Int)) := by omega
    rw [decide_eq_false h]
    simpa using this

theorem keq_kS (a b : Sp) : keq (kS a) (kS b) = some (sameK a b) := by
  simp only [kS, keq, eqAv, if_true, Option.map_some, Bool.and_true, sameK, natb]

def putS : List Sp → Sp → List Sp
  | [], s => [s]
  | x :: r, s => if sameK s x then (if lessS s x then s :: r else x :: r) else x :: putS r s

theorem mfind_metS (s : Sp) : ∀ vs, mfind (kS s) (metS vs) = some ((vs.find? (sameK s)).map Sp.av)
  | [] => rfl
  | x :: r => by
    have ih := mfind_metS s r
    simp only [metS, List.map_cons, mfind, keq_kS, List.find?_cons] at ih ⊢
    cases sameK s x with
    | true => rfl
    | false => exact ih

theorem mput_metS (s : Sp) : ∀ vs, (∀ o, vs.find? (sameK s) = some o → lessS s o = true) → mput (kS s) s.av (metS vs) = metS (putS vs s)
  | [], _ => rfl
  | x :: r, h => by
    simp only [metS, List.map_cons, mput, keq_kS, putS]
    cases hs : sameK s x with
    | true =>
      have := h x (by simp [hs])
      simp [this]
    | false =>
      have ih := mput_metS s r (fun o ho => h o (by simp [hs, ho]))
      simp only [metS] at ih
      simp [ih]

theorem putS_same (s : Sp) : ∀ vs o, vs.find? (sameK s) = some o → lessS s o = false → putS vs s = vs
  | [], o, h, _ => by simp at h
  | x :: r, o, h, hl => by
    simp only [putS]
    cases hs : sameK s x with
    | true =>
      have : x = o := by simpa [List.find?_cons, hs] using h
      subst this
      simp [hl]
    | false =>
      have := putS_same s r o (by simpa [List.find?_cons, hs] using h) hl
      simp [this]

/-- what the map holds -/
def putsS (l : List Sp) : List Sp := l.foldl putS []

theorem putS_len (s : Sp) : ∀ vs, (putS vs s).length ≤ vs.length + 1
  | [] => by simp [putS]
  | x :: r => by
    have := putS_len s r
    simp only [putS]
    split
    · split <;> simp
    · simp; omega

theorem putsS_len (l : List Sp) : (putsS l).length ≤ l.length := by
  have : ∀ (l vs : List Sp), (l.foldl putS vs).length ≤ vs.length + l.length := by
    intro l
    induction l with
    | nil => intro vs; simp
    | cons s r ih =>
      intro vs
      have h1 := ih (putS vs s)
      have h2 := putS_len s vs
      simp only [List.foldl_cons, List.length_cons]; omega
  simpa [putsS] using this l []

structure GaSt (σ t : St) (m : Nat) (vs : List Sp) : Prop where
  next : σ.next ≤ t.next
  m0 : σ.next ≤ m
  m1 : m < t.next
  map : ∃ ts clk, t.res m = some (.map (metS vs) ts clk)
  old : ∀ n, n < σ.next → t.res n = σ.res n

theorem GaSt.up {σ t : St} {m : Nat} {vs : List Sp} (h : GaSt σ t m vs) (k : Nat) : GaSt σ (t.up k) m vs := ⟨by simp; have := h.next; omega, h.m0, by simp; have := h.m1; omega, h.map, h.old⟩

theorem GaSt.set {σ t : St} {m : Nat} {vs : List Sp} (h : GaSt σ t m vs) {b : Nat} (r : Res) (hb : t.next ≤ b) : GaSt σ (t.set b r) m vs :=
  ⟨h.next, h.m0, h.m1, by obtain ⟨ts, clk, hm⟩ := h.map; exact ⟨ts, clk, by rw [St.set_other _ _ (by have := h.m1; omega)]; exact hm⟩, fun n hn => by rw [St.set_other _ _ (by have := h.next; omega)]; exact h.old n hn⟩

theorem GaSt.box {σ t : St} {m : Nat} {vs : List Sp} (h : GaSt σ t m vs) {n i : Nat} (hi : i < n) (r : Res) : GaSt σ ((t.up n).set (t.next + i) r) m vs :=
  ⟨by simp; have := h.next; omega, h.m0, by simp; have := h.m1; omega, by obtain ⟨ts, clk, hm⟩ := h.map; exact ⟨ts, clk, by rw [St.set_other _ _ (by have := h.m1; omega)]; exact hm⟩, fun n hn => by rw [St.set_other _ _ (by have := h.next; omega)]; exact h.old n hn⟩

theorem GaSt.quiet {σ t : St} {m : Nat} {vs : List Sp} (h : GaSt σ t m vs) (wf : WF σ) : ∀ n r, σ.res n = some r → t.res n = some r := fun n r hr => by
  have : n < σ.next := by
    rcases Nat.lt_or_ge n σ.next with hx | hx
    · exact hx
    · rw [wf n hx] at hr; cases hr
  rw [h.old n this]; exact hr

end Go.VL

namespace Go.VL

open Go.Proofs

theorem values_ok {m : Nat} {σ : St} : ACalls Try.prog n_valuess [.map m] σ (fun v σ' => ∃ bx, σ.next ≤ bx ∧ bx < σ'.next ∧ v = .func n_valssp [] [.ptr bx 0] ∧ σ'.res bx = some (.obj [.map m]) ∧ Like σ σ') := by
  refine s_valuess (fun wf => ?_)
  unfold c_valuess
  refine T.seq_k (fun K_h1 h1 => ?_)
  refine T.regi hm ?_
  simp only [↓reduceIte, namesOf, List.any, I.names, aopsI, astep, ev, setd, List.set, List.getD, List.getElem?_cons_zero, List.cons_append, List.nil_append, List.length_cons, List.length_nil, List.replicate, then_normal, Option.getD_some, Bool.or_false, Bool.false_eq_true, Nat.reduceAdd, Nat.reduceSub, AV.isAny, AV.cells, eq_self]
  refine h1 _ _ ?_
  try clear h1 K_h1
  refine T.seq_k (fun K_h1 h1 => ?_)
  refine T.regi hm ?_
  simp only [↓reduceIte, namesOf, List.any, I.names, aopsI, astep, ev, setd, List.set, List.getD, List.getElem?_cons_zero, List.getElem?_cons_succ, then_normal, Option.getD_some, Bool.or_false, Bool.false_eq_true, up_zero, List.map_cons, List.map_nil]
  refine h1 _ _ ?_
  try clear h1 K_h1
  exact T.ret (Fin.ret rfl ⟨σ.next + 0, by omega, by simp, rfl, by simp, ⟨by simp, fun n hn => by rw [St.set_other _ _ (by omega)]; rfl⟩⟩)

/-- a new row of these spans, in some order -/
def NewRow (σ : St) (l' : List Sp) (v : AV) (σ' : St) : Prop := (l' = [] ∧ v = .sl [] .nil ∧ σ' = σ) ∨ (v = .ref σ.next 0 l'.length ∧ σ' = (σ.up 1).set σ.next (.obj (l'.flatMap cells5)))

theorem collects_ok {σ : St} {bx m : Nat} {es : List (AV × AV)} {ts : List Nat} {clk : Nat} {l : List Sp} (hbx : σ.res bx = some (.obj [.map m])) (hmp : σ.res m = some (.map es ts clk)) (hl : es.map (·.2) = spsAV l) (hll : l.length ≤ 1000000) :
    ACalls Try.prog n_collects [.func n_valssp [] [.ptr bx 0]] σ (fun v σ' => ∃ l' : List Sp, l'.Perm l ∧ NewRow σ l' v σ') := by
  refine s_collects (fun wf => ?_)
  unfold c_collects
  refine T.seq_k (fun K_h1 h1 => ?_)
  refine T.regi hm ?_
  simp only [↓reduceIte, namesOf, List.any, I.names, aopsI, astep, ev, setd, List.set, List.cons_append, List.nil_append, List.length_cons, List.length_nil, List.replicate, then_normal, Bool.or_false, Bool.false_eq_true, up_zero, Nat.reduceAdd, Nat.reduceSub]
  refine h1 _ _ ?_
  try clear h1 K_h1
  refine T.seq_k (fun K_h1 h1 => ?_)
  refine T.regi hm ?_
  simp only [↓reduceIte, namesOf, List.any, I.names, aopsI, astep, ev, setd, List.set, List.getD, List.getElem?_cons_zero, List.getElem?_cons_succ, then_normal, Option.getD_some, Bool.or_false, Bool.false_eq_true, up_zero, List.map_cons, List.map_nil]
  refine (appsp_ok hbx hmp hl hll).mono ?_
  rintro v σ1 ⟨l', hp, hn⟩
  try simp only [↓reduceIte, namesOf, List.any, I.names, aops, aopsI, aopsT, qstep, CPt, qget, Tbl.get, astep, ev, setd, List.set, List.getD, List.getElem?_cons_zero, List.getElem?_cons_succ, List.getElem?_nil, List.cons_append, List.nil_append, List.length_cons, List.length_nil, List.replicate, then_normal, inBlock_normal, Option.getD_some, Option.getD_none, Bool.or_false, Bool.or_true, Bool.true_or, Bool.false_or, Bool.false_eq_true, if_false, if_true, up_zero, Nat.reduceAdd, Nat.reduceSub, binv, ↓opt_def, AV.isAny, AV.cells, ldc, List.map_cons, List.map_nil, St.set_next, St.set_same, St.up_next, Int.natCast_nonneg, lt_len, le_len, Int.toNat_natCast, true_and, and_true, eq_self, reduceCtorEq, decide_true, List.length_singleton, er_int, er_bool, er_str, srcR, up_zero]
  refine h1 _ _ ?_
  try clear h1 K_h1
  exact T.ret (Fin.ret rfl ⟨l', hp, hn⟩)

theorem sortedfs_ok {σ : St} {bx m : Nat} {es : List (AV × AV)} {ts : List Nat} {clk : Nat} {l : List Sp} (hbx : σ.res bx = some (.obj [.map m])) (hmp : σ.res m = some (.map es ts clk)) (hl : es.map (·.2) = spsAV l) (hll : l.length ≤ 1000000) :
    ACalls Try.prog n_sortedfs [.func n_valssp [] [.ptr bx 0], .func n_scmp [] []] σ (fun v σ' => ∃ l' : List Sp, l'.Perm l ∧ l'.Pairwise (fun a b => aheadS b a = false) ∧ NewRow σ l' v σ') := by
  refine s_sortedfs (fun wf => ?_)
  unfold c_sortedfs
  refine T.seq_k (fun K_h1 h1 => ?_)
  refine T.regi hm ?_
  simp only [↓reduceIte, namesOf, List.any, I.names, aopsI, astep, ev, setd, List.set, List.cons_append, List.nil_append, List.length_cons, List.length_nil, List.replicate, then_normal, Bool.or_false, Bool.false_eq_true, up_zero, Nat.reduceAdd, Nat.reduceSub]
  refine h1 _ _ ?_
  try clear h1 K_h1
  refine T.seq_k (fun K_h1 h1 => ?_)
  refine T.regi hm ?_
  simp only [↓reduceIte, namesOf, List.any, I.names, aopsI, astep, ev, setd, List.set, List.getD, List.getElem?_cons_zero, List.getElem?_cons_succ, then_normal, Option.getD_some, Bool.or_false, Bool.false_eq_true, up_zero, List.map_cons, List.map_nil]
  refine (collects_ok hbx hmp hl hll).mono ?_
  rintro v σ1 ⟨l', hp, hn⟩
  try simp only [↓reduceIte, namesOf, List.any, I.names, aops, aopsI, aopsT, qstep, CPt, qget, Tbl.get, astep, ev, setd, List.set, List.getD, List.getElem?_cons_zero, List.getElem?_cons_succ, List.getElem?_nil, List.cons_append, List.nil_append, List.length_cons, List.length_nil, List.replicate, then_normal, inBlock_normal, Option.getD_some, Option.getD_none, Bool.or_false, Bool.or_true, Bool.true_or, Bool.false_or, Bool.false_eq_true, if_false, if_true, up_zero, Nat.reduceAdd, Nat.reduceSub, binv, ↓opt_def, AV.isAny, AV.cells, ldc, List.map_cons, List.map_nil, St.set_next, St.set_same, St.up_next, Int.natCast_nonneg, lt_len, le_len, Int.toNat_natCast, true_and, and_true, eq_self, reduceCtorEq, decide_true, List.length_singleton, er_int, er_bool, er_str, srcR, up_zero]
  refine h1 _ _ ?_
  try clear h1 K_h1
  refine T.seq_k (fun K_h1 h1 => ?_)
  rcases hn with ⟨hl0, rfl, rfl⟩ | ⟨rfl, rfl⟩
  · refine T.regi hm ?_
    simp only [↓reduceIte, namesOf, List.any, I.names, aopsI, astep, ev, setd, List.set, List.getD, List.getElem?_cons_zero, List.getElem?_cons_succ, then_normal, Option.getD_some, Bool.or_false, Bool.false_eq_true, up_zero, List.map_cons, List.map_nil]
    refine sortsp_nil.mono ?_
    rintro v σ2 ⟨rfl, rfl⟩
    try simp only [↓reduceIte, namesOf, List.any, I.names, aops, aopsI, aopsT, qstep, CPt, qget, Tbl.get, astep, ev, setd, List.set, List.getD, List.getElem?_cons_zero, List.getElem?_cons_succ, List.getElem?_nil, List.cons_append, List.nil_append, List.length_cons, List.length_nil, List.replicate, then_normal, inBlock_normal, Option.getD_some, Option.getD_none, Bool.or_false, Bool.or_true, Bool.true_or, Bool.false_or, Bool.false_eq_true, if_false, if_true, up_zero, Nat.reduceAdd, Nat.reduceSub, binv, ↓opt_def, AV.isAny, AV.cells, ldc, List.map_cons, List.map_nil, St.set_next, St.set_same, St.up_next, Int.natCast_nonneg, lt_len, le_len, Int.toNat_natCast, true_and, and_true, eq_self, reduceCtorEq, decide_true, List.length_singleton, er_int, er_bool, er_str, srcR, up_zero]
    refine h1 _ _ ?_
    try clear h1 K_h1
    refine T.seq_k (fun K_h1 h1 => ?_)
    refine T.regi hm ?_
    simp only [↓reduceIte, namesOf, List.any, I.names, aopsI, astep, ev, setd, List.set, List.getD, List.getElem?_cons_zero, List.getElem?_cons_succ, then_normal, Option.getD_some, Bool.or_false, Bool.false_eq_true, up_zero]
    refine h1 _ _ ?_
    try clear h1 K_h1
    exact T.ret (Fin.ret rfl ⟨l', hp, by rw [hl0]; exact .nil, .inl ⟨hl0, rfl, rfl⟩⟩)
  · refine T.regi hm ?_
    simp only [↓reduceIte, namesOf, List.any, I.names, aopsI, astep, ev, setd, List.set, List.getD, List.getElem?_cons_zero, List.getElem?_cons_succ, then_normal, Option.getD_some, Bool.or_false, Bool.false_eq_true, up_zero, List.map_cons, List.map_nil]
    refine (sortsp_ok (l := l') (by simp) (by rw [hp.length_eq]; exact hll)).mono ?_
    rintro v σ2 ⟨rfl, l2, hp2, hs, rfl⟩
    try simp only [St.set_set]
    refine h1 _ _ ?_
    try clear h1 K_h1
    refine T.seq_k (fun K_h1 h1 => ?_)
    refine T.regi hm ?_
    simp only [↓reduceIte, namesOf, List.any, I.names, aopsI, astep, ev, setd, List.set, List.getD, List.getElem?_cons_zero, List.getElem?_cons_succ, then_normal, Option.getD_some, Bool.or_false, Bool.false_eq_true, up_zero]
    refine h1 _ _ ?_
    try clear h1 K_h1
    refine T.ret (Fin.ret rfl ⟨l2, hp2.trans hp, hs, .inr ⟨?_, rfl⟩⟩)
    rw [hp2.length_eq]; rfl

end Go.VL

namespace Go.VL

open Go.Proofs

theorem putsS_snoc (l : List Sp) (s : Sp) : putsS (l ++ [s]) = putS (putsS l) s := by simp [putsS]

theorem metS_vals (vs : List Sp) : (metS vs).map (·.2) = spsAV vs := by simp [metS, spsAV]

theorem kshape_kS (s : Sp) : kshape 4 (kS s) = true := by simp [kS, kshape, ints]

theorem mem_putS {x s : Sp} : ∀ {vs : List Sp}, x ∈ putS vs s → x = s ∨ x ∈ vs
  | [], h => by simp [putS] at h; exact .inl h
  | y :: r, h => by
    simp only [putS] at h
    split at h
    · split at h
      · rcases List.mem_cons.1 h with h | h
        · exact .inl h
        · exact .inr (List.mem_cons_of_mem _ h)
      · exact .inr h
    · rcases List.mem_cons.1 h with h | h
      · exact .inr (by rw [h]; exact List.mem_cons_self ..)
      · rcases mem_putS h with h | h
        · exact .inl h
        · exact .inr (List.mem_cons_of_mem _ h)

theorem mem_putsS {x : Sp} {l : List Sp} (h : x ∈ putsS l) : x ∈ l := by
  have : ∀ (l vs : List Sp), x ∈ l.foldl putS vs → x ∈ l ∨ x ∈ vs := by
    intro l
    induction l with
    | nil => intro vs h; exact .inr h
    | cons s r ih =>
      intro vs h
      rcases ih (putS vs s) h with h | h
      · exact .inl (List.mem_cons_of_mem _ h)
      · rcases mem_putS h with h | h
        · exact .inl (by rw [h]; exact List.mem_cons_self ..)
        · exact .inr h
  rcases this l [] h with h | h
  · exact h
  · cases h

theorem flat5_get : ∀ (l : List Sp) (i : Nat) (hi : i < l.length), (l.flatMap cells5)[i * 5 + 4]? = some (.sl (bytesAV l[i].da) .none)
  | [], i, hi => absurd hi (by simp)
  | s :: l, 0, _ => by simp
  | s :: l, i + 1, hi => by
    have := flat5_get l i (by simpa using hi)
    rw [List.flatMap_cons, List.getElem?_append_right (by simp; omega)]
    have e : (i + 1) * 5 + 4 - (cells5 s).length = i * 5 + 4 := by simp; omega
    rw [e, this]; rfl

theorem splice_same {cs : List AV} {j : Nat} {x : AV} (h : cs[j]? = some x) : splice cs j [x] = cs := by
  obtain ⟨hj, hx⟩ := List.getElem?_eq_some_iff.1 h
  unfold splice
  rw [List.length_singleton, List.append_assoc, List.singleton_append, ← hx, ← List.drop_eq_getElem_cons hj, List.take_append_drop]

theorem flat5_len (l : List Sp) : (l.flatMap cells5).length = l.length * 5 := by
  induction l with
  | nil => rfl
  | cons s l ih => simp only [List.flatMap_cons, List.length_append, ih, List.length_cons]; simp; omega

theorem GaSt.put {σ t : St} {m : Nat} {vs : List Sp} (h : GaSt σ t m vs) (vs' : List Sp) (ts : List Nat) (clk : Nat) : GaSt σ (t.set m (.map (metS vs') ts clk)) m vs' :=
  ⟨h.next, h.m0, h.m1, ⟨ts, clk, by simp⟩, fun n hn => by rw [St.set_other _ _ (by have := h.m0; omega)]; exact h.old n hn⟩

set_option maxRecDepth 10000 in
theorem tgather_ok {l : List Sp} {g : Ver} {σ : St} (hll : l.length ≤ 1000000) (hda : ∀ s ∈ l, s.da.length ≤ 1099511627776) : ACalls Try.prog n_tgather [.sl (spsAV l) g] σ
    (fun v σ' => ∃ l' : List Sp, l'.Perm (putsS l) ∧ l'.Pairwise (fun a b => aheadS b a = false) ∧ ((l' = [] ∧ v = .sl [] .nil) ∨ ∃ nm, σ.next ≤ nm ∧ nm < σ'.next ∧ v = .ref nm 0 l'.length ∧ σ'.res nm = some (.obj (l'.flatMap cells5))) ∧ Like σ σ') := by
  refine s_tgather (fun wf => ?_)
  unfold c_tgather
  refine T.seq_k (fun K_h1 h1 => ?_)
  refine T.regi hm ?_
  simp only [↓reduceIte, namesOf, List.any, I.names, aopsI, astep, ev, setd, List.set, List.cons_append, List.nil_append, List.length_cons, List.length_nil, List.replicate, then_normal, Bool.or_false, Bool.false_eq_true, up_zero, Nat.reduceAdd, Nat.reduceSub]
  refine h1 _ _ ?_
  try clear h1 K_h1
  refine T.seq_k (fun K_h1 h1 => ?_)
  refine T.regi hm ?_
  simp only [↓reduceIte, namesOf, List.any, I.names, aopsI, astep, ev, setd, List.set, List.getD, List.getElem?_cons_zero, List.getElem?_cons_succ, List.length_cons, List.length_nil, then_normal, Option.getD_some, Bool.or_false, Nat.reduceAdd, eq_self]
  have g0 : GaSt σ ((σ.up 2).set (σ.next + 0) (.map [] [] 0)) (σ.next + 0) (putsS (l.take 0)) := ⟨by simp, by omega, by simp, ⟨[], 0, by simp [putsS, metS]⟩, fun n hn => by rw [St.set_other _ _ (by omega)]; rfl⟩
  generalize ((σ.up 2).set (σ.next + 0) (.map [] [] 0)) = σ1 at g0 ⊢
  generalize σ.next + 0 = m at g0 ⊢
  refine h1 _ _ ?_
  try clear h1 K_h1
  refine T.seq_k (fun K_h1 h1 => ?_)
  refine T.seq_k (fun K_h2 h2 => ?_)
  refine T.regi hm ?_
  simp only [↓reduceIte, namesOf, List.any, I.names, aopsI, astep, ev, setd, List.set, List.getD, List.getElem?_cons_zero, List.getElem?_cons_succ, then_normal, Option.getD_some, Bool.or_false, Bool.false_eq_true, up_zero, sps_len]
  refine h2 _ _ ?_
  try clear h2 K_h2
  refine T.block ?_
  refine T.gh (Gh.keep [3, 12, 13, 14]) ?_
  refine T.loopi (fun i ρ t => GaSt σ t m (putsS (l.take i)) ∧ ρ = [.any, .any, .any, .map m, .any, .any, .any, .any, .any, .any, .any, .any, .sl (spsAV l) g, .int .i64 (l.length : Int), .int .i64 (i : Int)] ++ List.replicate 45 .any)
    l.length 0 (Nat.zero_le _) ⟨g0, rfl⟩ ?_
  clear g0 σ1
  rintro i ρ t hi ⟨o1, rfl⟩
  refine T.seq_k (fun K_h2 h2 => ?_)
  refine T.regi hm ?_
  simp only [↓reduceIte, namesOf, List.any, I.names, aopsI, astep, ev, setd, List.set, List.getD, List.getElem?_cons_zero, List.getElem?_cons_succ, List.cons_append, List.nil_append, List.replicate, then_normal, Option.getD_some, Bool.or_false, Bool.false_eq_true, up_zero, binv, ↓opt_def, lt_len, eq_self]
  refine h2 _ _ ?_
  try clear h2 K_h2
  refine T.seq_k (fun K_h2 h2 => ?_)
  refine T.cond rfl (fun hb => ?_) (fun hb => ?_)
  · refine T.skip ?_
    refine h2 _ _ ?_
    try clear h2 K_h2
    have hil : i < l.length := by simpa using hb
    clear hb
    have hta : l.take (i + 1) = l.take i ++ [l[i]] := List.take_succ_eq_append_getElem hil
    have hg := sps_get hil
    generalize l[i] = s at hg hta
    rw [spav] at hg
    refine T.seq_k (fun K_h2 h2 => ?_)
    refine T.block ?_
    refine T.seq_k (fun K_h3 h3 => ?_)
    refine T.regi hm ?_
    simp only [↓reduceIte, namesOf, List.any, I.names, aopsI, astep, ev, setd, List.set, List.getD, List.getElem?_cons_zero, List.getElem?_cons_succ, List.cons_append, List.nil_append, List.length_cons, List.length_nil, List.replicate, then_normal, Option.getD_some, Bool.or_false, Bool.or_true, Nat.reduceAdd, ↓opt_def, AV.isAny, AV.cells, ldc, St.set_same, Int.natCast_nonneg, lt_len, Int.toNat_natCast, true_and, and_true, eq_self, decide_true, sps_len, hg, hil, AV.fits, AV.one, List.all_cons, List.all_nil, Nat.reduceBEq, Bool.not_false, Bool.and_self, Nat.zero_add, splice, List.take, List.drop, Nat.reduceLeDiff, St.set_set]
    have o2 := o1.box (n := 4) (i := 2) (by omega) (.obj (spC s))
    have hb5 : ((t.up 4).set (t.next + 2) (.obj (spC s))).res (t.next + 2) = some (.obj (spC s)) := by simp
    have hbn : t.next + 2 < ((t.up 4).set (t.next + 2) (.obj (spC s))).next := by simp
    have hbl : σ.next ≤ t.next + 2 := by have := o1.next; omega
    have hbm : t.next + 2 ≠ m := by have := o1.m1; omega
    clear o1
    generalize ((t.up 4).set (t.next + 2) (.obj (spC s))) = σ2 at o2 hb5 hbn ⊢
    generalize t.next + 2 = b at hb5 hbn hbl hbm ⊢
    refine h3 _ _ ?_
    try clear h3 K_h3
    refine T.seq_k (fun K_h3 h3 => ?_)
    refine T.regi hm ?_
    simp only [↓reduceIte, namesOf, List.any, I.names, aopsI, astep, ev, setd, List.set, List.getD, List.getElem?_cons_zero, List.getElem?_cons_succ, List.cons_append, List.nil_append, List.length_cons, List.length_nil, List.replicate, then_normal, Option.getD_some, Bool.or_false, Bool.or_true, Nat.reduceAdd, ↓opt_def, AV.isAny, AV.cells, ldc, St.set_same, and_true, eq_self, decide_true, hb5, St.up_res, AV.fits, AV.one, List.all_cons, List.all_nil, Nat.reduceBEq, Bool.not_false, Bool.and_self, Nat.zero_add, splice, List.take, List.drop, Nat.reduceLeDiff, St.set_set, fillA, ↓Option.map_some]
    have o3 := o2.box (n := 7) (i := 5) (by omega) (.obj [.int .u64 (s.tr : Int), .int .u64 (s.id : Int)])
    have hc6 : ((σ2.up 7).set (σ2.next + 5) (.obj [.int .u64 (s.tr : Int), .int .u64 (s.id : Int)])).res (σ2.next + 5) = some (.obj [.int .u64 (s.tr : Int), .int .u64 (s.id : Int)]) := by simp
    have hb6 : ((σ2.up 7).set (σ2.next + 5) (.obj [.int .u64 (s.tr : Int), .int .u64 (s.id : Int)])).res b = some (.obj (spC s)) := by rw [St.set_other _ _ (by omega)]; exact hb5
    have hcn : σ2.next + 5 < ((σ2.up 7).set (σ2.next + 5) (.obj [.int .u64 (s.tr : Int), .int .u64 (s.id : Int)])).next := by simp
    have hbn6 : b < ((σ2.up 7).set (σ2.next + 5) (.obj [.int .u64 (s.tr : Int), .int .u64 (s.id : Int)])).next := by simp; omega
    have hcm : σ2.next + 5 ≠ m := by have := o2.m1; omega
    clear o2 hb5
    generalize ((σ2.up 7).set (σ2.next + 5) (.obj [.int .u64 (s.tr : Int), .int .u64 (s.id : Int)])) = σ3 at o3 hc6 hb6 hcn hbn6 ⊢
    generalize σ2.next + 5 = c at hc6 hcn hcm ⊢
    clear hbn
    refine h3 _ _ ?_
    try clear h3 K_h3
    refine T.seq_k (fun K_h3 h3 => ?_)
    obtain ⟨ts, clk, hmp⟩ := o3.map
    have e3 := mfind_metS s (putsS (l.take i))
    simp only [kS] at e3
    have hks := kshape_kS s
    simp only [kS] at hks
    have hw := inc64' hil (by omega)
    have hpm := mput_metS s (putsS (l.take i))
    simp only [kS] at hpm
    cases hf : (putsS (l.take i)).find? (sameK s) with
    | none =>
      rw [hf] at e3 hpm
      refine T.regi hm ?_
      simp only [↓reduceIte, namesOf, List.any, I.names, aopsI, astep, ev, setd, List.set, List.getD, List.getElem?_cons_zero, List.getElem?_cons_succ, List.cons_append, List.nil_append, List.length_cons, List.length_nil, List.replicate, then_normal, Option.getD_some, Bool.or_false, Bool.or_true, Nat.reduceAdd, ↓opt_def, AV.isAny, AV.cells, ldc, St.set_same, eq_self, decide_true, hc6, hmp, hks, e3, St.up_res, Option.map_none, AV.fits, AV.one, List.all_cons, List.all_nil, Nat.reduceBEq, Bool.not_false, Bool.and_self, Nat.zero_add, splice, List.take, List.drop, Nat.reduceLeDiff, St.set_set]
      have o4 := o3.box (n := 9) (i := 6) (by omega) (.obj [.int .u64 0, .int .u64 0, .int .i64 0, .int .i64 0, .sl [] .nil])
      have hb7 : ((σ3.up 9).set (σ3.next + 6) (.obj [.int .u64 0, .int .u64 0, .int .i64 0, .int .i64 0, .sl [] .nil])).res b = some (.obj (spC s)) := by rw [St.set_other _ _ (by omega)]; exact hb6
      have hc7 : ((σ3.up 9).set (σ3.next + 6) (.obj [.int .u64 0, .int .u64 0, .int .i64 0, .int .i64 0, .sl [] .nil])).res c = some (.obj [.int .u64 (s.tr : Int), .int .u64 (s.id : Int)]) := by rw [St.set_other _ _ (by omega)]; exact hc6
      have hm7 : ((σ3.up 9).set (σ3.next + 6) (.obj [.int .u64 0, .int .u64 0, .int .i64 0, .int .i64 0, .sl [] .nil])).res m = some (.map (metS (putsS (l.take i))) ts clk) := by rw [St.set_other _ _ (by have := o3.m1; omega)]; exact hmp
      generalize ((σ3.up 9).set (σ3.next + 6) (.obj [.int .u64 0, .int .u64 0, .int .i64 0, .int .i64 0, .sl [] .nil])) = σ4 at o4 hb7 hc7 hm7 ⊢
      generalize σ3.next + 6 = d
      refine h3 _ _ ?_
      try clear h3 K_h3
      refine T.seq_k (fun K_h3 h3 => ?_)
      refine T.regi hm ?_
      simp only [↓reduceIte, namesOf, List.any, I.names, aopsI, astep, ev, setd, List.set, List.getD, List.getElem?_cons_zero, List.getElem?_cons_succ, List.cons_append, List.nil_append, List.replicate, then_normal, Option.getD_some, Bool.or_false, Bool.false_eq_true, up_zero, Nat.reduceAdd, ↓opt_def, ldc, List.map_cons, List.map_nil]
      refine h3 _ _ ?_
      try clear h3 K_h3
      refine T.cond rfl (fun _ => ?_) (fun h => by cases h)
      refine T.regi hm ?_
      simp only [↓reduceIte, namesOf, List.any, I.names, aopsI, astep, ev, setd, List.set, List.getD, List.getElem?_cons_zero, List.getElem?_cons_succ, List.cons_append, List.nil_append, List.length_cons, List.length_nil, List.replicate, then_normal, inBlock_normal, Option.getD_some, Bool.or_false, Bool.false_eq_true, up_zero, Nat.reduceAdd, ↓opt_def, ldc, eq_self, hb7, hc7, hm7, hks, e3, Option.map_none, Bool.not_false, Nat.zero_add, List.take, List.drop, Nat.reduceLeDiff]
      rw [show (AV.agg [.int .u64 (s.tr : Int), .int .u64 (s.id : Int), .int .i64 s.st, .int .i64 s.en, .sl (bytesAV s.da) .none]) = s.av from rfl, hpm (fun o h => by cases h)]
      have o5 := o4.put (putS (putsS (l.take i)) s) (ts ++ [clk]) (clk + 1)
      refine h2 _ _ ?_
      try clear h2 K_h2
      refine T.regi hm ?_
      simp only [↓reduceIte, namesOf, List.any, I.names, aopsI, astep, ev, setd, List.set, List.getD, List.getElem?_cons_zero, List.getElem?_cons_succ, List.cons_append, List.nil_append, List.replicate, then_normal, Option.getD_some, Bool.or_false, Bool.false_eq_true, up_zero, binv, ↓opt_def, eq_self, hw]
      refine ⟨hil, _, _, Gh.keep [3, 12, 13, 14], ⟨?_, rfl⟩⟩
      rw [hta, putsS_snoc]
      exact o5
    | some o =>
      rw [hf] at e3 hpm
      rw [Option.map_some, Sp.av] at e3
      have e4 : mfind (.agg [.int .u64 (s.tr : Int), .int .u64 (s.id : Int)]) (metS (putsS (l.take i))) = some (some (.agg (spC o))) := e3
      refine T.regi hm ?_
      simp only [↓reduceIte, namesOf, List.any, I.names, aopsI, astep, ev, setd, List.set, List.getD, List.getElem?_cons_zero, List.getElem?_cons_succ, List.cons_append, List.nil_append, List.length_cons, List.length_nil, List.replicate, then_normal, Option.getD_some, Bool.or_false, Bool.or_true, Nat.reduceAdd, ↓opt_def, AV.isAny, AV.cells, ldc, St.set_same, eq_self, decide_true, hc6, hmp, hks, e4, St.up_res, AV.fits, AV.one, List.all_cons, List.all_nil, Nat.reduceBEq, Bool.not_false, Bool.and_self, Nat.zero_add, splice, List.take, List.drop, Nat.reduceLeDiff, St.set_set]
      have o4 := o3.box (n := 9) (i := 6) (by omega) (.obj (spC o))
      have hb7 : ((σ3.up 9).set (σ3.next + 6) (.obj (spC o))).res b = some (.obj (spC s)) := by rw [St.set_other _ _ (by omega)]; exact hb6
      have hc7 : ((σ3.up 9).set (σ3.next + 6) (.obj (spC o))).res c = some (.obj [.int .u64 (s.tr : Int), .int .u64 (s.id : Int)]) := by rw [St.set_other _ _ (by omega)]; exact hc6
      have hd7 : ((σ3.up 9).set (σ3.next + 6) (.obj (spC o))).res (σ3.next + 6) = some (.obj (spC o)) := by simp
      have hm7 : ((σ3.up 9).set (σ3.next + 6) (.obj (spC o))).res m = some (.map (metS (putsS (l.take i))) ts clk) := by rw [St.set_other _ _ (by have := o3.m1; omega)]; exact hmp
      generalize ((σ3.up 9).set (σ3.next + 6) (.obj (spC o))) = σ4 at o4 hb7 hc7 hm7 hd7 ⊢
      generalize σ3.next + 6 = d at hd7 ⊢
      refine h3 _ _ ?_
      try clear h3 K_h3
      refine T.seq_k (fun K_h3 h3 => ?_)
      refine T.regi hm ?_
      simp only [↓reduceIte, namesOf, List.any, I.names, aopsI, astep, ev, setd, List.set, List.getD, List.getElem?_cons_zero, List.getElem?_cons_succ, List.cons_append, List.nil_append, List.length_cons, List.length_nil, List.replicate, then_normal, Option.getD_some, Bool.or_false, Bool.false_eq_true, up_zero, Nat.reduceAdd, ↓opt_def, ldc, List.map_cons, List.map_nil, hb7, hd7]
      refine tless_ok.mono ?_
      rintro v σ5 ⟨rfl, rfl⟩
      try simp only [↓reduceIte, namesOf, List.any, I.names, aops, aopsI, aopsT, qstep, CPt, qget, Tbl.get, astep, ev, setd, List.set, List.getD, List.getElem?_cons_zero, List.getElem?_cons_succ, List.getElem?_nil, List.cons_append, List.nil_append, List.length_cons, List.length_nil, List.replicate, then_normal, inBlock_normal, Option.getD_some, Option.getD_none, Bool.or_false, Bool.or_true, Bool.true_or, Bool.false_or, Bool.false_eq_true, if_false, if_true, up_zero, Nat.reduceAdd, Nat.reduceSub, binv, ↓opt_def, AV.isAny, AV.cells, ldc, List.map_cons, List.map_nil, St.set_next, St.set_same, St.up_next, Int.natCast_nonneg, lt_len, le_len, Int.toNat_natCast, true_and, and_true, eq_self, reduceCtorEq, decide_true, List.length_singleton, er_int, er_bool, er_str, srcR, up_zero]
      refine h3 _ _ ?_
      try clear h3 K_h3
      cases hless : lessS s o with
      | true =>
        refine T.cond rfl (fun _ => ?_) (fun h => by cases h)
        refine T.regi hm ?_
        simp only [↓reduceIte, namesOf, List.any, I.names, aopsI, astep, ev, setd, List.set, List.getD, List.getElem?_cons_zero, List.getElem?_cons_succ, List.cons_append, List.nil_append, List.length_cons, List.length_nil, List.replicate, then_normal, inBlock_normal, Option.getD_some, Bool.or_false, Bool.false_eq_true, up_zero, Nat.reduceAdd, ↓opt_def, ldc, eq_self, hb7, hc7, hm7, hks, e4, Nat.zero_add, List.take, List.drop, Nat.reduceLeDiff]
        rw [show (AV.agg [.int .u64 (s.tr : Int), .int .u64 (s.id : Int), .int .i64 s.st, .int .i64 s.en, .sl (bytesAV s.da) .none]) = s.av from rfl, hpm (fun o' h => by cases h; exact hless)]
        have o5 := o4.put (putS (putsS (l.take i)) s) ts clk
        refine h2 _ _ ?_
        try clear h2 K_h2
        refine T.regi hm ?_
        simp only [↓reduceIte, namesOf, List.any, I.names, aopsI, astep, ev, setd, List.set, List.getD, List.getElem?_cons_zero, List.getElem?_cons_succ, List.cons_append, List.nil_append, List.replicate, then_normal, Option.getD_some, Bool.or_false, Bool.false_eq_true, up_zero, binv, ↓opt_def, eq_self, hw]
        refine ⟨hil, _, _, Gh.keep [3, 12, 13, 14], ⟨?_, rfl⟩⟩
        rw [hta, putsS_snoc]
        exact o5
      | false =>
        refine T.cond rfl (fun h => by cases h) (fun _ => T.skip ?_)
        refine h2 _ _ ?_
        try clear h2 K_h2
        refine T.regi hm ?_
        simp only [↓reduceIte, namesOf, List.any, I.names, aopsI, astep, ev, setd, List.set, List.getD, List.getElem?_cons_zero, List.getElem?_cons_succ, List.cons_append, List.nil_append, List.replicate, then_normal, Option.getD_some, Bool.or_false, Bool.false_eq_true, up_zero, binv, ↓opt_def, eq_self, hw]
        refine ⟨hil, _, _, Gh.keep [3, 12, 13, 14], ⟨?_, rfl⟩⟩
        rw [hta, putsS_snoc, putS_same s _ o hf hless]
        exact o4
  · refine T.exit ?_
    have : i = l.length := by simp at hb; omega
    subst this
    rw [List.take_length] at o1
    try simp only [List.cons_append, List.nil_append, List.replicate, then_normal, inBlock_exit, then_exit]
    refine h1 _ _ ?_
    try clear h1 K_h1
    refine T.seq_k (fun K_h1 h1 => ?_)
    obtain ⟨ts, clk, hmp⟩ := o1.map
    refine T.regi hm ?_
    simp only [↓reduceIte, namesOf, List.any, I.names, aopsI, astep, ev, setd, List.set, List.getD, List.getElem?_cons_zero, List.getElem?_cons_succ, then_normal, Option.getD_some, Bool.or_false, Bool.false_eq_true, up_zero, List.map_cons, List.map_nil]
    refine values_ok.mono ?_
    rintro v σ2 ⟨bx, hx1, hx2, rfl, hbx, hL⟩
    try simp only [↓reduceIte, namesOf, List.any, I.names, aops, aopsI, aopsT, qstep, CPt, qget, Tbl.get, astep, ev, setd, List.set, List.getD, List.getElem?_cons_zero, List.getElem?_cons_succ, List.getElem?_nil, List.cons_append, List.nil_append, List.length_cons, List.length_nil, List.replicate, then_normal, inBlock_normal, Option.getD_some, Option.getD_none, Bool.or_false, Bool.or_true, Bool.true_or, Bool.false_or, Bool.false_eq_true, if_false, if_true, up_zero, Nat.reduceAdd, Nat.reduceSub, binv, ↓opt_def, AV.isAny, AV.cells, ldc, List.map_cons, List.map_nil, St.set_next, St.set_same, St.up_next, Int.natCast_nonneg, lt_len, le_len, Int.toNat_natCast, true_and, and_true, eq_self, reduceCtorEq, decide_true, List.length_singleton, er_int, er_bool, er_str, srcR, up_zero]
    have hlp : (putsS l).length ≤ 1000000 := Nat.le_trans (putsS_len l) hll
    refine (sortedfs_ok (l := putsS l) hbx (hL.get o1.m1 hmp) (metS_vals _) hlp).mono ?_
    rintro v σ3 ⟨l', hp, hs, hn⟩
    try simp only [↓reduceIte, namesOf, List.any, I.names, aops, aopsI, aopsT, qstep, CPt, qget, Tbl.get, astep, ev, setd, List.set, List.getD, List.getElem?_cons_zero, List.getElem?_cons_succ, List.getElem?_nil, List.cons_append, List.nil_append, List.length_cons, List.length_nil, List.replicate, then_normal, inBlock_normal, Option.getD_some, Option.getD_none, Bool.or_false, Bool.or_true, Bool.true_or, Bool.false_or, Bool.false_eq_true, if_false, if_true, up_zero, Nat.reduceAdd, Nat.reduceSub, binv, ↓opt_def, AV.isAny, AV.cells, ldc, List.map_cons, List.map_nil, St.set_next, St.set_same, St.up_next, Int.natCast_nonneg, lt_len, le_len, Int.toNat_natCast, true_and, and_true, eq_self, reduceCtorEq, decide_true, List.length_singleton, er_int, er_bool, er_str, srcR, up_zero]
    have hL2 : Like σ σ2 := ⟨Nat.le_trans o1.next hL.next, fun n hn => (hL.same n (Nat.lt_of_lt_of_le hn o1.next)).trans (o1.old n hn)⟩
    clear hL o1 hmp hbx
    refine h1 _ _ ?_
    try clear h1 K_h1
    refine T.seq_k (fun K_h1 h1 => ?_)
    rcases hn with ⟨hl0, rfl, rfl⟩ | ⟨rfl, rfl⟩
    · refine T.seq_k (fun K_h2 h2 => ?_)
      refine T.regi hm ?_
      simp only [↓reduceIte, namesOf, List.any, I.names, aopsI, astep, ev, setd, List.set, List.getD, List.getElem?_cons_zero, List.getElem?_cons_succ, List.length_nil, then_normal, Option.getD_some, Bool.or_false, Bool.false_eq_true, up_zero]
      refine h2 _ _ ?_
      try clear h2 K_h2
      refine T.block ?_
      refine T.gh (Gh.keep [9, 44, 45]) ?_
      refine T.loopi (fun i ρ t => t = σ3 ∧ ρ = List.replicate 9 .any ++ [.sl [] .nil] ++ List.replicate 34 .any ++ [.int .i64 0, .int .i64 0] ++ List.replicate 14 .any) 0 0 (Nat.zero_le _) ⟨rfl, rfl⟩ ?_
      rintro i ρ t hi ⟨rfl, rfl⟩
      refine T.seq_k (fun K_h2 h2 => ?_)
      refine T.regi hm ?_
      simp only [↓reduceIte, namesOf, List.any, I.names, aopsI, astep, ev, setd, List.set, List.getD, List.getElem?_cons_zero, List.getElem?_cons_succ, List.cons_append, List.nil_append, List.replicate, then_normal, Option.getD_some, Bool.or_false, Bool.false_eq_true, up_zero, binv, ↓opt_def, eq_self]
      refine h2 _ _ ?_
      try clear h2 K_h2
      refine T.seq_k (fun K_h2 h2 => ?_)
      refine T.cond rfl (fun h => by cases h) (fun _ => T.exit ?_)
      try simp only [List.cons_append, List.nil_append, List.replicate, then_normal, inBlock_exit, then_exit]
      refine h1 _ _ ?_
      try clear h1 K_h1
      refine T.seq_k (fun K_h1 h1 => ?_)
      refine T.regi hm ?_
      simp only [↓reduceIte, namesOf, List.any, I.names, aopsI, astep, ev, setd, List.set, List.getD, List.getElem?_cons_zero, List.getElem?_cons_succ, then_normal, Option.getD_some, Bool.or_false, Bool.false_eq_true, up_zero]
      refine h1 _ _ ?_
      try clear h1 K_h1
      exact T.ret (Fin.ret rfl ⟨l', hp, hs, .inl ⟨hl0, rfl⟩, hL2⟩)
    · refine T.seq_k (fun K_h2 h2 => ?_)
      have hr0 : ((σ2.up 1).set σ2.next (.obj (l'.flatMap cells5))).res σ2.next = some (.obj (l'.flatMap cells5)) := by simp
      have hn0 : σ2.next < ((σ2.up 1).set σ2.next (.obj (l'.flatMap cells5))).next := by simp
      have hnl : σ.next ≤ σ2.next := hL2.next
      have hL3 : Like σ ((σ2.up 1).set σ2.next (.obj (l'.flatMap cells5))) := ⟨by simp; omega, fun n hn => by rw [St.set_other _ _ (by omega)]; exact hL2.same n hn⟩
      generalize ((σ2.up 1).set σ2.next (.obj (l'.flatMap cells5))) = σ3 at hr0 hn0 hL3 ⊢
      generalize σ2.next = nm at hr0 hn0 hnl ⊢
      clear hL2
      have hlen' : l'.length ≤ 1000000 := by rw [hp.length_eq]; exact hlp
      refine T.regi hm ?_
      simp only [↓reduceIte, namesOf, List.any, I.names, aopsI, astep, ev, setd, List.set, List.getD, List.getElem?_cons_zero, List.getElem?_cons_succ, then_normal, Option.getD_some, Bool.or_false, Bool.false_eq_true, up_zero]
      refine h2 _ _ ?_
      try clear h2 K_h2
      refine T.block ?_
      refine T.gh (Gh.keep [9, 44, 45]) ?_
      refine T.loopi (fun i ρ t => (Like σ t ∧ nm < t.next ∧ t.res nm = some (.obj (l'.flatMap cells5))) ∧ ρ = List.replicate 9 .any ++ [.ref nm 0 l'.length] ++ List.replicate 34 .any ++ [.int .i64 (l'.length : Int), .int .i64 (i : Int)] ++ List.replicate 14 .any) l'.length 0 (Nat.zero_le _) ⟨⟨hL3, hn0, hr0⟩, rfl⟩ ?_
      clear hL3 hr0 hn0 σ3
      rintro i ρ t hi ⟨⟨hL, htn, hr⟩, rfl⟩
      refine T.seq_k (fun K_h2 h2 => ?_)
      refine T.regi hm ?_
      simp only [↓reduceIte, namesOf, List.any, I.names, aopsI, astep, ev, setd, List.set, List.getD, List.getElem?_cons_zero, List.getElem?_cons_succ, List.cons_append, List.nil_append, List.replicate, then_normal, Option.getD_some, Bool.or_false, Bool.false_eq_true, up_zero, binv, ↓opt_def, lt_len, eq_self]
      refine h2 _ _ ?_
      try clear h2 K_h2
      refine T.seq_k (fun K_h2 h2 => ?_)
      refine T.cond rfl (fun hb => ?_) (fun hb => ?_)
      · refine T.skip ?_
        refine h2 _ _ ?_
        try clear h2 K_h2
        have hil : i < l'.length := by simpa using hb
        have hg := flat5_get l' i hil
        have hgl := flat5_len l'
        have hw := inc64' hil (by omega)
        refine T.seq_k (fun K_h2 h2 => ?_)
        refine T.block ?_
        refine T.seq_k (fun K_h3 h3 => ?_)
        refine T.regi hm ?_
        simp only [↓reduceIte, namesOf, List.any, I.names, aopsI, astep, ev, setd, List.set, List.getD, List.getElem?_cons_zero, List.getElem?_cons_succ, List.cons_append, List.nil_append, List.replicate, then_normal, Option.getD_some, Bool.or_false, Bool.false_eq_true, up_zero]
        refine h3 _ _ ?_
        try clear h3 K_h3
        refine T.regi hm ?_
        simp only [↓reduceIte, namesOf, List.any, I.names, aopsI, astep, ev, setd, List.set, List.getD, List.getElem?_cons_zero, List.getElem?_cons_succ, List.cons_append, List.nil_append, List.replicate, then_normal, inBlock_normal, Option.getD_some, Bool.or_false, Bool.false_eq_true, up_zero, ↓opt_def, AV.cells, ldc, List.map_cons, List.map_nil, Int.natCast_nonneg, lt_len, Int.toNat_natCast, true_and, and_true, decide_true, hr, hil, hg, Nat.zero_add]
        have hds : l'[i].da.length ≤ 1099511627776 := hda _ (mem_putsS (hp.mem_iff.1 (List.getElem_mem hil)))
        have hsp := splice_same hg
        unfold splice at hsp
        rw [List.length_singleton] at hsp
        refine (clone_q hds (.inl ⟨_, rfl, fun h => by cases h⟩)).mono ?_
        rintro v τ ⟨rfl, rfl⟩
        try simp only [List.length_cons, List.length_nil, AV.isAny, AV.cells, hr, AV.fits, AV.one, List.all_cons, List.all_nil, Nat.reduceBEq, Bool.not_false, Bool.and_self, Nat.zero_add, splice]
        rw [if_pos (by rw [hgl]; simp; omega), hsp, St.set_self hr]
        refine h2 _ _ ?_
        try clear h2 K_h2
        refine T.regi hm ?_
        simp only [↓reduceIte, namesOf, List.any, I.names, aopsI, astep, ev, setd, List.set, List.getD, List.getElem?_cons_zero, List.getElem?_cons_succ, List.cons_append, List.nil_append, List.replicate, then_normal, Option.getD_some, Bool.or_false, Bool.false_eq_true, up_zero, binv, ↓opt_def, eq_self, hw]
        exact ⟨hil, _, _, Gh.keep [9, 44, 45], ⟨hL, htn, hr⟩, rfl⟩
      · refine T.exit ?_
        have : i = l'.length := by simp at hb; omega
        try simp only [List.cons_append, List.nil_append, List.replicate, then_normal, inBlock_exit, then_exit]
        refine h1 _ _ ?_
        try clear h1 K_h1
        refine T.seq_k (fun K_h1 h1 => ?_)
        refine T.regi hm ?_
        simp only [↓reduceIte, namesOf, List.any, I.names, aopsI, astep, ev, setd, List.set, List.getD, List.getElem?_cons_zero, List.getElem?_cons_succ, then_normal, Option.getD_some, Bool.or_false, Bool.false_eq_true, up_zero]
        refine h1 _ _ ?_
        try clear h1 K_h1
        exact T.ret (Fin.ret rfl ⟨l', hp, hs, .inr ⟨nm, hnl, htn, rfl, hr⟩, hL⟩)

theorem sps_flat5 (l : List Sp) : (spsAV l).flatMap AV.cells = l.flatMap cells5 := by
  induction l with
  | nil => rfl
  | cons s l ih => simp only [spsAV, List.map_cons, List.flatMap_cons] at ih ⊢; rw [ih]; rfl

theorem nb_sps (m : Nat) (l : List Sp) : nbs m (spsAV l) := by
  rw [nbs_iff]
  intro x hx
  obtain ⟨s, _, rfl⟩ := List.mem_map.1 hx
  exact ⟨trivial, trivial, trivial, trivial, ⟨nb_bytes _ _, trivial⟩, trivial⟩

/-- what is gathered, given away -/
theorem tgather_q {l : List Sp} {g : Ver} {σ : St} (hll : l.length ≤ 1000000) (hda : ∀ s ∈ l, s.da.length ≤ 1099511627776) : ACalls Try.prog n_tgather [.sl (spsAV l) g] σ
    (fun v σ' => ∃ l' : List Sp, l'.Perm (putsS l) ∧ l'.Pairwise (fun a b => aheadS b a = false) ∧ v = .sl (spsAV l') .none ∧ σ' = σ) := by
  refine (tgather_ok hll hda).gv ?_
  rintro wf v σ' ⟨l', hp, hs, (⟨rfl, rfl⟩ | ⟨nm, h1, h2, rfl, h3⟩), hL⟩
  · exact ⟨_, _, (Gv.wk (.sl _ _)).trans (Gv.quiet ⟨trivial, trivial⟩ (hL.quiet wf)), [], hp, hs, rfl, rfl⟩
  · refine ⟨_, _, (Gv.freeze (k := 5) h3 (xs := spsAV l') (sps_len l') (fun x hx => ?_) ?_).trans (Gv.quiet ⟨nb_sps _ _, trivial⟩ (fun m x hm => ?_)), l', hp, hs, rfl, rfl⟩
    · obtain ⟨y, _, rfl⟩ := List.mem_map.1 hx; rfl
    · rw [sps_flat5, List.drop_zero, List.take_of_length_le (by rw [flat5_len]; exact Nat.le_refl _)]
    · have hmn : m ≠ nm := by
        rintro rfl
        rw [wf m h1] at hm; cases hm
      simp only [St.del]
      rw [if_neg hmn]; exact hL.quiet wf m x hm

end Go.VL

namespace Go.VL

theorem sameK_iff {a b : Sp} : sameK a b = true ↔ a.tr = b.tr ∧ a.id = b.id := by simp [sameK]

theorem sameK_symm {a b : Sp} (h : sameK a b = true) : sameK b a = true := by
  rw [sameK_iff] at *; exact ⟨h.1.symm, h.2.symm⟩

theorem sameK_trans {a b c : Sp} (h : sameK a b = true) (k : sameK b c = true) : sameK a c = true := by
  rw [sameK_iff] at *; exact ⟨h.1.trans k.1, h.2.trans k.2⟩

theorem sameK_refl (a : Sp) : sameK a a = true := by rw [sameK_iff]; exact ⟨rfl, rfl⟩

theorem ahead_tot {a b : Sp} (h : sameK a b = false) : aheadS a b = true ∨ aheadS b a = true := by
  unfold aheadS
  by_cases h1 : a.st = b.st
  · by_cases h2 : a.id = b.id
    · have h3 : a.tr ≠ b.tr := fun e => by
        have := sameK_iff.2 ⟨e, h2⟩
        rw [h] at this; cases this
      simp only [h1, h2, ne_eq, not_true_eq_false, if_false, decide_eq_true_eq]; omega
    · have h3 : b.id ≠ a.id := fun e => h2 e.symm
      simp only [h1, h2, h3, ne_eq, not_true_eq_false, not_false_eq_true, if_false, if_true, decide_eq_true_eq]; omega
  · have h3 : b.st ≠ a.st := fun e => h1 e.symm
    simp only [h1, h3, ne_eq, not_false_eq_true, if_true, decide_eq_true_eq]; omega

theorem ahead_asym {a b : Sp} (h : aheadS a b = true) : aheadS b a = false := by
  cases hb : aheadS b a with
  | false => rfl
  | true => have := ahead_trans h hb; rw [ahead_irr] at this; cases this

theorem bytes_trans : ∀ {a b c : List UInt8}, Op.bytesLess a b = true → Op.bytesLess b c = true → Op.bytesLess a c = true
  | _, _, [], _, h => by simp [Op.bytesLess] at h
  | _, [], _ :: _, h, _ => by simp [Op.bytesLess] at h
  | [], _ :: _, _ :: _, _, _ => by simp [Op.bytesLess]
  | x :: a, y :: b, z :: c, h, k => by
    simp only [Op.bytesLess, Bool.or_eq_true, Bool.and_eq_true, decide_eq_true_eq, beq_iff_eq] at h k ⊢
    rcases h with h | ⟨rfl, h⟩
    · rcases k with k | ⟨rfl, k⟩
      · exact .inl (UInt8.lt_trans h k)
      · exact .inl h
    · rcases k with k | ⟨rfl, k⟩
      · exact .inl k
      · exact .inr ⟨rfl, bytes_trans h k⟩

theorem less_trans {a b c : Sp} (h : lessS a b = true) (k : lessS b c = true) : lessS a c = true := by
  unfold lessS at *
  by_cases h1 : a.st = b.st <;> by_cases h2 : b.st = c.st
  · by_cases h3 : a.en = b.en <;> by_cases h4 : b.en = c.en
    · simp only [h1, h2, h3, h4, ne_eq, not_true_eq_false, if_false] at h k ⊢; exact bytes_trans h k
    · simp only [h1, h2, h3, h4, ne_eq, not_true_eq_false, not_false_eq_true, if_false, if_true, decide_eq_true_eq] at h k ⊢; exact k
    · simp only [h1, h2, ← h4, h3, ne_eq, not_true_eq_false, not_false_eq_true, if_false, if_true, decide_eq_true_eq] at h k ⊢; exact h
    · have h5 : a.en ≠ c.en := by
        simp only [h1, h2, h3, h4, ne_eq, not_true_eq_false, not_false_eq_true, if_false, if_true, decide_eq_true_eq] at h k; omega
      simp only [h1, h2, h3, h4, h5, ne_eq, not_true_eq_false, not_false_eq_true, if_false, if_true, decide_eq_true_eq] at h k ⊢; omega
  · simp only [h1, h2, ne_eq, not_false_eq_true, if_true, decide_eq_true_eq] at k ⊢; exact k
  · simp only [← h2, h1, ne_eq, not_false_eq_true, if_true, decide_eq_true_eq] at h ⊢; exact h
  · have h3 : a.st ≠ c.st := by
      simp only [h1, h2, ne_eq, not_false_eq_true, if_true, decide_eq_true_eq] at h k; omega
    simp only [h1, h2, h3, ne_eq, not_false_eq_true, if_true, decide_eq_true_eq] at h k ⊢; omega

/-- the least of all of its Trace and Id -/
def minS (l : List Sp) (x : Sp) : Prop := x ∈ l ∧ ∀ y ∈ l, sameK y x = true → lessS y x = false

/-! ### What the map holds -/

theorem putS_keys {s : Sp} : ∀ {vs : List Sp}, vs.Pairwise (fun a b => sameK a b = false) → (putS vs s).Pairwise (fun a b => sameK a b = false)
  | [], _ => by simp [putS]
  | x :: r, h => by
    obtain ⟨h1, h2⟩ := List.pairwise_cons.1 h
    simp only [putS]
    split
    · rename_i hs
      split
      · refine List.pairwise_cons.2 ⟨fun b hb => ?_, h2⟩
        cases hc : sameK s b with
        | false => rfl
        | true => have := sameK_trans (sameK_symm hs) hc; rw [h1 b hb] at this; cases this
      · exact h
    · rename_i hs
      refine List.pairwise_cons.2 ⟨fun b hb => ?_, putS_keys h2⟩
      rcases mem_putS hb with rfl | hb
      · cases hc : sameK x b with
        | false => rfl
        | true => exact absurd (sameK_symm hc) hs
      · exact h1 b hb

/-- what was there, or something lesser, is there still -/
theorem putS_keep {s : Sp} : ∀ {vs : List Sp} {x : Sp}, x ∈ vs → x ∈ putS vs s ∨ (sameK s x = true ∧ lessS s x = true ∧ s ∈ putS vs s)
  | y :: r, x, h => by
    simp only [putS]
    rcases List.mem_cons.1 h with rfl | h
    · split
      · rename_i hs
        split
        · rename_i hl; exact .inr ⟨hs, hl, by simp⟩
        · exact .inl (by simp)
      · exact .inl (by simp)
    · split
      · split
        · exact .inl (List.mem_cons_of_mem _ h)
        · exact .inl (List.mem_cons_of_mem _ h)
      · rcases putS_keep (s := s) h with h | ⟨h1, h2, h3⟩
        · exact .inl (List.mem_cons_of_mem _ h)
        · exact .inr ⟨h1, h2, List.mem_cons_of_mem _ h3⟩

/-- one of its Trace and Id is there, and it is not lesser -/
theorem putS_new (s : Sp) : ∀ (vs : List Sp), ∃ x ∈ putS vs s, sameK s x = true ∧ lessS s x = false
  | [] => ⟨s, by simp [putS], sameK_refl s, less_irr s⟩
  | y :: r => by
    simp only [putS]
    split
    · rename_i hs
      split
      · exact ⟨s, by simp, sameK_refl s, less_irr s⟩
      · rename_i hl; exact ⟨y, by simp, hs, by simpa using hl⟩
    · obtain ⟨x, h1, h2, h3⟩ := putS_new s r
      exact ⟨x, List.mem_cons_of_mem _ h1, h2, h3⟩

structure Held (l vs : List Sp) : Prop where
  keys : vs.Pairwise (fun a b => sameK a b = false)
  sub : ∀ x ∈ vs, x ∈ l
  low : ∀ y ∈ l, ∃ x ∈ vs, sameK y x = true ∧ lessS y x = false

theorem Held.uniq {l vs : List Sp} (h : Held l vs) {x y : Sp} (hx : x ∈ vs) (hy : y ∈ vs) (hk : sameK x y = true) : x = y := by
  obtain ⟨i, hi, rfl⟩ := List.getElem_of_mem hx
  obtain ⟨j, hj, rfl⟩ := List.getElem_of_mem hy
  rcases Nat.lt_trichotomy i j with hij | rfl | hij
  · have := List.pairwise_iff_getElem.1 h.keys i j hi hj hij; rw [hk] at this; cases this
  · rfl
  · have := List.pairwise_iff_getElem.1 h.keys j i hj hi hij; rw [sameK_symm hk] at this; cases this

theorem held_puts (l : List Sp) : Held l (putsS l) := by
  have key : ∀ (r l vs : List Sp), Held l vs → Held (l ++ r) (r.foldl putS vs) := by
    intro r
    induction r with
    | nil => intro l vs h; simpa using h
    | cons s r ih =>
      intro l vs h
      have := ih (l ++ [s]) (putS vs s) ⟨putS_keys h.keys, fun x hx => ?_, fun y hy => ?_⟩
      · simpa using this
      · rcases mem_putS hx with rfl | hx
        · simp
        · exact List.mem_append_left _ (h.sub x hx)
      · rcases List.mem_append.1 hy with hy | hy
        · obtain ⟨x, hx, hk, hl⟩ := h.low y hy
          rcases putS_keep (s := s) hx with hx' | ⟨h1, h2, h3⟩
          · exact ⟨x, hx', hk, hl⟩
          · refine ⟨s, h3, sameK_trans hk (sameK_symm h1), ?_⟩
            cases hc : lessS y s with
            | false => rfl
            | true => have := less_trans hc h2; rw [hl] at this; cases this
        · simp only [List.mem_singleton] at hy
          subst hy
          exact putS_new y vs
  have := key l [] [] ⟨.nil, (fun x hx => by cases hx), (fun y hy => by cases hy)⟩
  simpa [putsS] using this

theorem Held.mem {l vs : List Sp} (h : Held l vs) (x : Sp) : x ∈ vs ↔ minS l x := by
  constructor
  · intro hx
    refine ⟨h.sub x hx, fun y hy hk => ?_⟩
    obtain ⟨z, hz, hk2, hl⟩ := h.low y hy
    have : z = x := h.uniq hz hx (sameK_trans (sameK_symm hk2) hk)
    rw [← this]; exact hl
  · rintro ⟨hx, hmin⟩
    obtain ⟨z, hz, hk, hl⟩ := h.low x hx
    have h2 := hmin z (h.sub z hz) (sameK_symm hk)
    have hk' := sameK_iff.1 hk
    have : x = z := less_total hk'.1 hk'.2 hl h2
    rw [this]; exact hz

theorem Held.nodup {l vs : List Sp} (h : Held l vs) : vs.Nodup := h.keys.imp fun {a b} hab e => by
  subst e; rw [sameK_refl] at hab; cases hab

/-! ### What the document gathers -/

theorem counts_iff {l : List Sp} {i : Nat} (hi : i < l.length) : countsB l i = true ↔ ∀ k (hk : k < l.length), sameK l[k] l[i] = true → lessS l[k] l[i] = false ∧ ¬ (l[k] = l[i] ∧ k < i) := by
  have e : l[i]? = some l[i] := by simp [hi]
  unfold countsB
  rw [e]
  simp only [List.all_eq_true, List.mem_range, Bool.not_eq_true']
  constructor
  · intro h k hk hs
    have := h k hk
    unfold outAt at this
    have ek : l[k]? = some l[k] := by simp [hk]
    rw [ek] at this
    obtain ⟨s1, s2⟩ := sameK_iff.1 hs
    simp only [s1, s2, decide_true, Bool.true_and, Bool.or_eq_false_iff, Bool.and_eq_false_iff, decide_eq_false_iff_not] at this
    refine ⟨this.1, fun hx => ?_⟩
    rcases this.2 with h | h
    · exact h hx.1
    · exact h hx.2
  · intro h k hk
    unfold outAt
    have ek : l[k]? = some l[k] := by simp [hk]
    rw [ek]
    cases hs : sameK l[k] l[i] with
    | false =>
      unfold sameK at hs
      simp only [hs, Bool.false_and]
    | true =>
      obtain ⟨h1, h2⟩ := h k hk hs
      simp only [h1, Bool.false_or, Bool.and_eq_false_iff, decide_eq_false_iff_not]
      by_cases hx : l[k] = l[i]
      · exact .inr (.inr fun hlt => h2 ⟨hx, hlt⟩)
      · exact .inr (.inl hx)

theorem gatherN_iff (l : List Sp) : ∀ n, n ≤ l.length → ∀ y, y ∈ gatherN l n ↔ ∃ j, ∃ h : j < l.length, j < n ∧ l[j] = y ∧ countsB l j = true
  | 0, _, y => by simp [gatherN]
  | n + 1, hn, y => by
    have hnl : n < l.length := by omega
    have e : l[n]? = some l[n] := by simp [hnl]
    have ih := gatherN_iff l n (by omega) y
    unfold gatherN
    rw [e]
    simp only
    cases hc : countsB l n with
    | true =>
      rw [if_pos rfl, ins_mem, ih]
      constructor
      · rintro (rfl | ⟨j, h1, h2, h3, h4⟩)
        · exact ⟨n, hnl, by omega, rfl, hc⟩
        · exact ⟨j, h1, by omega, h3, h4⟩
      · rintro ⟨j, h1, h2, h3, h4⟩
        by_cases hj : j = n
        · subst hj; exact .inl h3.symm
        · exact .inr ⟨j, h1, by omega, h3, h4⟩
    | false =>
      rw [if_neg (by simp), ih]
      constructor
      · rintro ⟨j, h1, h2, h3, h4⟩; exact ⟨j, h1, by omega, h3, h4⟩
      · rintro ⟨j, h1, h2, h3, h4⟩
        by_cases hj : j = n
        · subst hj; rw [hc] at h4; cases h4
        · exact ⟨j, h1, by omega, h3, h4⟩

theorem ins_sorted2 {out : List Sp} {x : Sp} (hs : SortedS out) (hd : ∀ y ∈ out, sameK x y = false) : SortedS (insS out x) := by
  have hle := lastAt_le out x out.length
  unfold insS
  have htake : ∀ y ∈ out.take (lastAt out x out.length), aheadS y x = true := by
    intro y hy
    rcases Nat.eq_zero_or_pos (lastAt out x out.length) with h0 | hpos
    · rw [h0] at hy; simp at hy
    · obtain ⟨j, hj, e, ha⟩ := lastAt_is out x out.length (Nat.le_refl _) hpos
      rw [e] at hy
      obtain ⟨m, hm⟩ := List.getElem?_of_mem hy
      rw [List.getElem?_take] at hm
      split at hm
      · rename_i hmj
        have hml : m < out.length := by omega
        have hy' : out[m] = y := by simpa [hml] using hm
        by_cases hx : m = j
        · subst hx; rw [← hy']; exact ha
        · rw [← hy']; exact ahead_trans (List.pairwise_iff_getElem.1 hs m j hml hj (by omega)) ha
      · cases hm
  have hdrop : ∀ y ∈ out.drop (lastAt out x out.length), aheadS x y = true := by
    intro y hy
    obtain ⟨m, hm⟩ := List.getElem?_of_mem hy
    rw [List.getElem?_drop] at hm
    have hml : lastAt out x out.length + m < out.length := (List.getElem?_eq_some_iff.1 hm).1
    have hy' : out[lastAt out x out.length + m] = y := (List.getElem?_eq_some_iff.1 hm).2
    have hno := lastAt_no out x out.length _ hml (by omega) hml
    rw [hy'] at hno
    rcases ahead_tot (hd y (List.mem_of_mem_drop hy)) with h | h
    · exact h
    · rw [hno] at h; cases h
  rw [List.append_assoc]
  refine List.pairwise_append.2 ⟨hs.sublist (List.take_sublist _ _), ?_, fun a ha b hb => ?_⟩
  · exact List.pairwise_append.2 ⟨List.pairwise_singleton _ _, hs.sublist (List.drop_sublist _ _), fun a ha b hb => by simp only [List.mem_singleton] at ha; subst ha; exact hdrop b hb⟩
  · rcases List.mem_append.1 hb with hb | hb
    · simp only [List.mem_singleton] at hb; subst hb; exact htake a ha
    · have hsp : SortedS (out.take (lastAt out x out.length) ++ out.drop (lastAt out x out.length)) := by rw [List.take_append_drop]; exact hs
      exact (List.pairwise_append.1 hsp).2.2 a ha b hb

theorem gatherN_sorted (l : List Sp) : ∀ n, n ≤ l.length → SortedS (gatherN l n)
  | 0, _ => .nil
  | n + 1, hn => by
    have hnl : n < l.length := by omega
    have e : l[n]? = some l[n] := by simp [hnl]
    have ih := gatherN_sorted l n (by omega)
    unfold gatherN
    rw [e]
    simp only
    split
    · rename_i hc
      refine ins_sorted2 ih (fun y hy => ?_)
      obtain ⟨j, hj, hjn, rfl, hcj⟩ := (gatherN_iff l n (by omega) y).1 hy
      cases hs : sameK l[n] l[j] with
      | false => rfl
      | true =>
        obtain ⟨a1, a2⟩ := (counts_iff hnl).1 hc j hj (sameK_symm hs)
        obtain ⟨b1, _⟩ := (counts_iff hj).1 hcj n hnl hs
        obtain ⟨k1, k2⟩ := sameK_iff.1 hs
        have := less_total k1 k2 b1 a1
        exact absurd ⟨this.symm, hjn⟩ a2
    · exact ih

theorem gather_mem (l : List Sp) (x : Sp) : x ∈ gatherL l ↔ minS l x := by
  unfold gatherL
  rw [gatherN_iff l l.length (Nat.le_refl _)]
  constructor
  · rintro ⟨j, hj, _, rfl, hc⟩
    refine ⟨List.getElem_mem hj, fun y hy hk => ?_⟩
    obtain ⟨k, hk2, rfl⟩ := List.getElem_of_mem hy
    exact ((counts_iff hj).1 hc k hk2 hk).1
  · rintro ⟨hx, hmin⟩
    have hidx : l.idxOf x < l.length := List.idxOf_lt_length_of_mem hx
    refine ⟨l.idxOf x, hidx, hidx, List.getElem_idxOf hidx, (counts_iff hidx).2 fun k hk hs => ?_⟩
    rw [List.getElem_idxOf hidx] at hs ⊢
    refine ⟨hmin _ (List.getElem_mem hk) hs, ?_⟩
    rintro ⟨he, hlt⟩
    have := List.not_of_lt_findIdx (p := (· == x)) (xs := l) hlt
    simp [he] at this

theorem gather_sorted (l : List Sp) : SortedS (gatherL l) := gatherN_sorted l _ (Nat.le_refl _)

theorem sorted_nodup {l : List Sp} (h : SortedS l) : l.Nodup := h.imp fun {a b} hab e => by
  subst e; rw [ahead_irr] at hab; cases hab

/-- IN ORDER, WHAT THE MAP HELD IS WHAT THE DOCUMENT GATHERS -/
theorem gathered_is {l l' : List Sp} (hp : l'.Perm (putsS l)) (hs : l'.Pairwise (fun a b => aheadS b a = false)) : l' = gatherL l := by
  have hh := held_puts l
  have hpg : l'.Perm (gatherL l) := by
    refine hp.trans ((List.perm_ext_iff_of_nodup hh.nodup (sorted_nodup (gather_sorted l))).2 fun x => ?_)
    rw [hh.mem, gather_mem]
  refine List.Perm.eq_of_pairwise (le := fun a b => aheadS b a = false) (fun a b ha hb h1 h2 => ?_) hs ((gather_sorted l).imp fun h => ahead_asym h) hpg
  have ha' : a ∈ putsS l := hp.mem_iff.1 ha
  have hb' : b ∈ putsS l := (hh.mem b).2 ((gather_mem l b).1 hb)
  cases hk : sameK a b with
  | true => exact hh.uniq ha' hb' hk
  | false =>
    rcases ahead_tot hk with h | h
    · rw [h2] at h; cases h
    · rw [h1] at h; cases h

end Go.VL

namespace Go.VL

open Go.Proofs

theorem gather_ok {l : List Sp} {g : Ver} {σ : St} (hll : l.length ≤ 1000000) (hda : ∀ s ∈ l, s.da.length ≤ 1099511627776) : ACalls Try.prog n_tgather [.sl (spsAV l) g] σ (fun v σ' => v = .sl (spsAV (gatherL l)) .none ∧ σ' = σ) := by
  refine (tgather_q hll hda).mono ?_
  rintro v σ' ⟨l', hp, hs, rfl, rfl⟩
  rw [gathered_is hp hs]
  exact ⟨rfl, rfl⟩

def rwsAV (l : List (List Sp)) : List AV := l.map fun p => .sl (spsAV p) .none

theorem rws_len (l : List (List Sp)) : (rwsAV l).length = l.length := by simp [rwsAV]

theorem rws_get {l : List (List Sp)} {i : Nat} (h : i < l.length) : (rwsAV l)[i]? = some (.sl (spsAV l[i]) .none) := by simp [rwsAV, h]

theorem sps_fits5 (l : List Sp) : (spsAV l).all (AV.fits 5) = true := by
  simp [spsAV, Sp.av, AV.fits, AV.isAny, AV.cells, AV.one]

theorem sps_er5 (l : List Sp) : (spsAV l).map AV.er = spsAV l := by
  simp only [spsAV, List.map_map]
  apply List.map_congr_left
  intro t _
  rfl

theorem sps_app5 (a b : List Sp) : spsAV a ++ spsAV b = spsAV (a ++ b) := by simp [spsAV]

theorem grows_ok {n : Nat} {σ : St} (hn : n ≤ 1000000000) : ACalls Try.prog n_grows [.sl [] .nil, .int .i64 (n : Int)] σ (fun v σ' => (n = 0 ∧ v = .sl [] .nil ∧ σ' = σ) ∨ ∃ g, OneTip σ σ' g 5 ∧ v = .sl [] (.tip g)) := by
  refine s_grows (fun wf => ?_)
  unfold c_grows
  refine T.seq_k (fun K_h1 h1 => ?_)
  refine T.regi hm ?_
  simp only [↓reduceIte, namesOf, List.any, I.names, aopsI, astep, ev, setd, List.set, List.cons_append, List.nil_append, List.length_cons, List.length_nil, List.replicate, then_normal, Bool.or_false, Bool.false_eq_true, up_zero, Nat.reduceAdd, Nat.reduceSub]
  refine h1 _ _ ?_
  try clear h1 K_h1
  refine T.seq_k (fun K_h1 h1 => ?_)
  refine T.seq_k (fun K_h2 h2 => ?_)
  have e0 : decide ((n : Int) < 0) = false := decide_eq_false (by omega)
  refine T.regi hm ?_
  simp only [↓reduceIte, namesOf, List.any, I.names, aopsI, astep, ev, setd, List.set, List.getD, List.getElem?_cons_zero, List.getElem?_cons_succ, then_normal, Option.getD_some, Bool.or_false, Bool.false_eq_true, up_zero, binv, ↓opt_def, eq_self, e0]
  refine h2 _ _ ?_
  try clear h2 K_h2
  refine T.cond rfl (fun h => by cases h) (fun _ => T.skip ?_)
  refine h1 _ _ ?_
  try clear h1 K_h1
  refine T.seq_k (fun K_h1 h1 => ?_)
  refine T.seq_k (fun K_h2 h2 => ?_)
  have e1 : IntKind.i64.wrap ((0 : Int) - ((0 : Nat) : Int)) = 0 := by decide
  have e2 : IntKind.i64.wrap ((n : Int) - 0) = (n : Int) := by rw [wrap64 (by omega) (by omega)]; omega
  refine T.regi hm ?_
  simp only [↓reduceIte, namesOf, List.any, I.names, aopsI, astep, ev, setd, List.set, List.getD, List.getElem?_cons_zero, List.getElem?_cons_succ, List.length_nil, then_normal, Option.getD_some, Bool.or_false, Bool.false_eq_true, up_zero, binv, ↓opt_def, eq_self, e1, e2]
  refine h2 _ _ ?_
  try clear h2 K_h2
  refine T.seq_k (fun K_h2 h2 => ?_)
  by_cases hz : n = 0
  · subst hz
    have e3 : decide (((0 : Nat) : Int) > 0) = false := rfl
    refine T.regi hm ?_
    simp only [↓reduceIte, namesOf, List.any, I.names, aopsI, astep, ev, setd, List.set, List.getD, List.getElem?_cons_zero, List.getElem?_cons_succ, then_normal, Option.getD_some, Bool.or_false, Bool.false_eq_true, up_zero, binv, ↓opt_def, true_and, eq_self, e3]
    refine h2 _ _ ?_
    try clear h2 K_h2
    refine T.cond rfl (fun h => by cases h) (fun _ => T.skip ?_)
    refine h1 _ _ ?_
    try clear h1 K_h1
    refine T.seq_k (fun K_h1 h1 => ?_)
    refine T.regi hm ?_
    simp only [↓reduceIte, namesOf, List.any, I.names, aopsI, astep, ev, setd, List.set, List.getD, List.getElem?_cons_zero, List.getElem?_cons_succ, then_normal, Option.getD_some, Bool.or_false, Bool.false_eq_true, up_zero, true_and, eq_self]
    refine h1 _ _ ?_
    try clear h1 K_h1
    exact T.ret (Fin.ret rfl (.inl ⟨rfl, rfl, rfl⟩))
  · have e3 : decide ((n : Int) > 0) = true := decide_eq_true (by omega)
    refine T.regi hm ?_
    simp only [↓reduceIte, namesOf, List.any, I.names, aopsI, astep, ev, setd, List.set, List.getD, List.getElem?_cons_zero, List.getElem?_cons_succ, then_normal, Option.getD_some, Bool.or_false, Bool.false_eq_true, up_zero, binv, ↓opt_def, eq_self, e3]
    refine h2 _ _ ?_
    try clear h2 K_h2
    refine T.cond rfl (fun _ => ?_) (fun h => by cases h)
    have hp : (0 : Int) < (n : Int) := by omega
    have hb : (n : Int) * ((56 : Nat) : Int) ≤ 70368744177664 := by omega
    have hm' : (n : Int) ≤ 4611686018427387904 := by omega
    refine T.regi hm ?_
    simp only [↓reduceIte, namesOf, List.any, I.names, aopsI, astep, ev, setd, List.set, List.getD, List.getElem?_cons_zero, List.getElem?_cons_succ, List.length_cons, List.length_nil, then_normal, Option.getD_some, Bool.or_false, Bool.or_true, Nat.reduceAdd, AV.isAny, AV.cells, Int.natCast_nonneg, Int.toNat_natCast, true_and, and_true, eq_self, idx, List.all_nil, Int.le_refl, List.drop_nil, List.take_nil, Ver.noRoom, hp, hb, hm', AV.fits, AV.one, List.all_cons, Bool.not_false, Bool.and_self, beq_self_eq_true, true_or, and_self]
    refine h1 _ _ ?_
    try clear h1 K_h1
    refine T.seq_k (fun K_h1 h1 => ?_)
    refine T.regi hm ?_
    simp only [↓reduceIte, namesOf, List.any, I.names, aopsI, astep, ev, setd, List.set, List.getD, List.getElem?_cons_zero, List.getElem?_cons_succ, then_normal, Option.getD_some, Bool.or_false, Bool.false_eq_true, up_zero]
    refine h1 _ _ ?_
    try clear h1 K_h1
    exact T.ret (Fin.ret rfl (.inr ⟨_, OneTip.new (by omega), rfl⟩))

theorem flat_take1s {l : List (List Sp)} {i : Nat} (h : i < l.length) : (l.take (i + 1)).flatten = (l.take i).flatten ++ l[i] := by
  rw [List.take_succ_eq_append_getElem h, List.flatten_append]; simp

theorem flat_take_les {l : List (List Sp)} (i : Nat) : (l.take i).flatten.length ≤ l.flatten.length := by
  conv => rhs; rw [← List.take_append_drop i l]
  rw [List.flatten_append, List.length_append]; omega

set_option maxRecDepth 10000 in
theorem concats_ok {l : List (List Sp)} {g : Ver} {σ : St} (hl : l.length ≤ 1000000000) (hs : l.flatten.length ≤ 1000000000) :
    ACalls Try.prog n_concats [.sl (rwsAV l) g] σ (fun v σ' => v = .sl (spsAV l.flatten) .none ∧ σ' = σ) := by
  refine s_concats (fun wf => ?_)
  unfold c_concats
  refine T.seq_k (fun K_h1 h1 => ?_)
  refine T.regi hm ?_
  simp only [↓reduceIte, namesOf, List.any, I.names, aopsI, astep, ev, setd, List.set, List.cons_append, List.nil_append, List.length_cons, List.length_nil, List.replicate, then_normal, Bool.or_false, Bool.false_eq_true, up_zero, Nat.reduceAdd, Nat.reduceSub]
  refine h1 _ _ ?_
  try clear h1 K_h1
  refine T.seq_k (fun K_h1 h1 => ?_)
  refine T.regi hm ?_
  simp only [↓reduceIte, namesOf, List.any, I.names, aopsI, astep, ev, setd, List.set, then_normal, Bool.or_false, Bool.false_eq_true, up_zero]
  refine h1 _ _ ?_
  try clear h1 K_h1
  refine T.seq_k (fun K_h1 h1 => ?_)
  refine T.seq_k (fun K_h2 h2 => ?_)
  refine T.regi hm ?_
  simp only [↓reduceIte, namesOf, List.any, I.names, aopsI, astep, ev, setd, List.set, List.getD, List.getElem?_cons_zero, List.getElem?_cons_succ, then_normal, Option.getD_some, Bool.or_false, Bool.false_eq_true, up_zero, rws_len]
  refine h2 _ _ ?_
  try clear h2 K_h2
  refine T.block ?_
  refine T.gh (Gh.keep [0, 3, 9, 10, 11]) ?_
  refine T.loopi (fun i ρ σ' => σ' = σ ∧ ρ = [.sl (rwsAV l) g, .any, .any, .int .i64 ((l.take i).flatten.length : Int), .any, .any, .any, .any, .any, .sl (rwsAV l) g, .int .i64 (l.length : Int), .int .i64 (i : Int)] ++ List.replicate 24 .any)
    l.length 0 (Nat.zero_le _) ⟨rfl, rfl⟩ ?_
  rintro i ρ σ' hi ⟨rfl, rfl⟩
  refine T.seq_k (fun K_h2 h2 => ?_)
  refine T.regi hm ?_
  simp only [↓reduceIte, namesOf, List.any, I.names, aopsI, astep, ev, setd, List.set, List.getD, List.getElem?_cons_zero, List.getElem?_cons_succ, List.cons_append, List.nil_append, List.replicate, then_normal, Option.getD_some, Bool.or_false, Bool.false_eq_true, up_zero, binv, ↓opt_def, lt_len, eq_self]
  refine h2 _ _ ?_
  try clear h2 K_h2
  refine T.seq_k (fun K_h2 h2 => ?_)
  refine T.cond rfl (fun hb => ?_) (fun hb => ?_)
  · refine T.skip ?_
    refine h2 _ _ ?_
    try clear h2 K_h2
    have hil : i < l.length := by simpa using hb
    clear hb
    refine T.seq_k (fun K_h2 h2 => ?_)
    refine T.block ?_
    refine T.seq_k (fun K_h3 h3 => ?_)
    refine T.regi hm ?_
    simp only [↓reduceIte, namesOf, List.any, I.names, aopsI, astep, ev, setd, List.set, List.getD, List.getElem?_cons_zero, List.getElem?_cons_succ, List.cons_append, List.nil_append, List.length_cons, List.length_nil, List.replicate, then_normal, Option.getD_some, Bool.or_false, Bool.false_eq_true, up_zero, Nat.reduceAdd, ↓opt_def, AV.cells, ldc, Int.natCast_nonneg, lt_len, Int.toNat_natCast, true_and, and_true, eq_self, decide_true, rws_len, rws_get hil, hil]
    refine h3 _ _ ?_
    try clear h3 K_h3
    refine T.seq_k (fun K_h3 h3 => ?_)
    have hle := flat_take_les (l := l) (i + 1)
    have hft := flat_take1s hil
    have e1 : IntKind.i64.wrap (((l.take i).flatten.length : Int) + (l[i].length : Int)) = ((l.take (i + 1)).flatten.length : Int) := by
      rw [hft] at hle ⊢
      rw [List.length_append] at hle ⊢
      rw [wrap64 (by omega) (by omega)]; omega
    refine T.regi hm ?_
    simp only [↓reduceIte, namesOf, List.any, I.names, aopsI, astep, ev, setd, List.set, List.getD, List.getElem?_cons_zero, List.getElem?_cons_succ, List.cons_append, List.nil_append, List.replicate, then_normal, Option.getD_some, Bool.or_false, Bool.false_eq_true, up_zero, binv, ↓opt_def, eq_self, sps_len, e1]
    refine h3 _ _ ?_
    try clear h3 K_h3
    refine T.seq_k (fun K_h3 h3 => ?_)
    have e2 : decide (((l.take (i + 1)).flatten.length : Int) < 0) = false := decide_eq_false (by omega)
    refine T.regi hm ?_
    simp only [↓reduceIte, namesOf, List.any, I.names, aopsI, astep, ev, setd, List.set, List.getD, List.getElem?_cons_zero, List.getElem?_cons_succ, List.cons_append, List.nil_append, List.replicate, then_normal, Option.getD_some, Bool.or_false, Bool.false_eq_true, up_zero, binv, ↓opt_def, eq_self, e2]
    refine h3 _ _ ?_
    try clear h3 K_h3
    refine T.cond rfl (fun h => by cases h) (fun _ => T.skip ?_)
    refine h2 _ _ ?_
    try clear h2 K_h2
    have hw := inc64 hil (by omega)
    refine T.regi hm ?_
    simp only [↓reduceIte, namesOf, List.any, I.names, aopsI, astep, ev, setd, List.set, List.getD, List.getElem?_cons_zero, List.getElem?_cons_succ, List.cons_append, List.nil_append, List.replicate, then_normal, Option.getD_some, Bool.or_false, Bool.false_eq_true, up_zero, binv, ↓opt_def, eq_self, hw]
    exact ⟨hil, _, _, Gh.keep [0, 3, 9, 10, 11], rfl, rfl⟩
  · refine T.exit ?_
    have : i = l.length := by simp at hb; omega
    subst this
    rw [List.take_length]
    try simp only [List.cons_append, List.nil_append, List.replicate, then_normal, inBlock_exit, then_exit]
    refine h1 _ _ ?_
    try clear h1 K_h1
    refine T.seq_k (fun K_h1 h1 => ?_)
    refine T.regi hm ?_
    simp only [↓reduceIte, namesOf, List.any, I.names, aopsI, astep, ev, setd, List.set, List.getD, List.getElem?_cons_zero, List.getElem?_cons_succ, then_normal, Option.getD_some, Bool.or_false, Bool.false_eq_true, up_zero, List.map_cons, List.map_nil]
    refine (grows_ok (n := l.flatten.length) hs).mono ?_
    rintro v σ1 hv
    try simp only [↓reduceIte, namesOf, List.any, I.names, aops, aopsI, aopsT, qstep, CPt, qget, Tbl.get, astep, ev, setd, List.set, List.getD, List.getElem?_cons_zero, List.getElem?_cons_succ, List.getElem?_nil, List.cons_append, List.nil_append, List.length_cons, List.length_nil, List.replicate, then_normal, inBlock_normal, Option.getD_some, Option.getD_none, Bool.or_false, Bool.or_true, Bool.true_or, Bool.false_or, Bool.false_eq_true, if_false, if_true, up_zero, Nat.reduceAdd, Nat.reduceSub, binv, ↓opt_def, AV.isAny, AV.cells, ldc, List.map_cons, List.map_nil, St.set_next, St.set_same, St.up_next, Int.natCast_nonneg, lt_len, le_len, Int.toNat_natCast, true_and, and_true, eq_self, reduceCtorEq, decide_true, List.length_singleton, er_int, er_bool, er_str, srcR, up_zero]
    refine h1 _ _ ?_
    try clear h1 K_h1
    refine T.seq_k (fun K_h1 h1 => ?_)
    refine T.seq_k (fun K_h2 h2 => ?_)
    refine T.regi hm ?_
    simp only [↓reduceIte, namesOf, List.any, I.names, aopsI, astep, ev, setd, List.set, List.getD, List.getElem?_cons_zero, List.getElem?_cons_succ, then_normal, Option.getD_some, Bool.or_false, Bool.false_eq_true, up_zero, rws_len]
    refine h2 _ _ ?_
    try clear h2 K_h2
    refine T.block ?_
    refine T.gh (Gh.keep [6, 25, 26, 27]) ?_
    refine T.loopi (fun i ρ σ2 => ((l.flatten.length = 0 ∧ (∀ n r, σ'.res n = some r → σ2.res n = some r) ∧ ρ.getD 6 .any = .sl [] .nil) ∨ ∃ g1, OneTip σ' σ2 g1 5 ∧ ρ.getD 6 .any = .sl (spsAV (l.take i).flatten) (.tip g1)) ∧
      ∃ x, ρ = [.any, .any, .any, .any, .any, .any, x, .any, .any, .any, .any, .any, .any, .any, .any, .any, .any, .any, .any, .any, .any, .any, .any, .any, .any, .sl (rwsAV l) g, .int .i64 (l.length : Int), .int .i64 (i : Int)] ++ List.replicate 8 .any)
      l.length 0 (Nat.zero_le _) ⟨?_, v, rfl⟩ ?_
    · rcases hv with ⟨h0, rfl, rfl⟩ | ⟨g1, o1, rfl⟩
      · exact .inl ⟨h0, fun _ _ h => h, rfl⟩
      · exact .inr ⟨g1, o1, by simp [spsAV, keep]⟩
    clear hv
    rintro i ρ σ2 hi2 ⟨hv, x, rfl⟩
    simp only [List.cons_append, List.getD, List.getElem?_cons_succ, List.getElem?_cons_zero, Option.getD_some] at hv
    refine T.seq_k (fun K_h2 h2 => ?_)
    refine T.regi hm ?_
    simp only [↓reduceIte, namesOf, List.any, I.names, aopsI, astep, ev, setd, List.set, List.getD, List.getElem?_cons_zero, List.getElem?_cons_succ, List.cons_append, List.nil_append, List.replicate, then_normal, Option.getD_some, Bool.or_false, Bool.false_eq_true, up_zero, binv, ↓opt_def, lt_len, eq_self]
    refine h2 _ _ ?_
    try clear h2 K_h2
    refine T.seq_k (fun K_h2 h2 => ?_)
    refine T.cond rfl (fun hb => ?_) (fun hb => ?_)
    · refine T.skip ?_
      refine h2 _ _ ?_
      try clear h2 K_h2
      have hil : i < l.length := by simpa using hb
      clear hb
      have hw := inc64 hil (by omega)
      have hle := flat_take_les (l := l) (i + 1)
      have hft := flat_take1s hil
      refine T.seq_k (fun K_h2 h2 => ?_)
      refine T.block ?_
      refine T.seq_k (fun K_h3 h3 => ?_)
      refine T.regi hm ?_
      simp only [↓reduceIte, namesOf, List.any, I.names, aopsI, astep, ev, setd, List.set, List.getD, List.getElem?_cons_zero, List.getElem?_cons_succ, List.cons_append, List.nil_append, List.length_cons, List.length_nil, List.replicate, then_normal, Option.getD_some, Bool.or_false, Bool.false_eq_true, up_zero, Nat.reduceAdd, ↓opt_def, AV.cells, ldc, Int.natCast_nonneg, lt_len, Int.toNat_natCast, true_and, and_true, eq_self, decide_true, rws_len, rws_get hil, hil]
      refine h3 _ _ ?_
      try clear h3 K_h3
      rcases hv with ⟨h0, hq0, rfl⟩ | ⟨g1, o1, rfl⟩
      · have hz : l[i] = [] := by
          apply List.eq_nil_of_length_eq_zero
          rw [hft, List.length_append] at hle; omega
        refine T.regi hm ?_
        simp only [↓reduceIte, namesOf, List.any, I.names, aopsI, astep, ev, setd, List.set, List.getD, List.getElem?_cons_zero, List.getElem?_cons_succ, List.cons_append, List.nil_append, List.length_cons, List.length_nil, List.replicate, then_normal, inBlock_normal, Option.getD_some, Bool.or_false, Bool.or_true, Nat.reduceAdd, List.map_nil, eq_self, decide_true, srcOf, hz, spsAV, List.all_nil, Bool.true_and, List.isEmpty, Nat.zero_mul, Nat.zero_le, and_self, Nat.add_zero, Nat.zero_add]
        refine h2 _ _ ?_
        try clear h2 K_h2
        refine T.regi hm ?_
        simp only [↓reduceIte, namesOf, List.any, I.names, aopsI, astep, ev, setd, List.set, List.getD, List.getElem?_cons_zero, List.getElem?_cons_succ, List.cons_append, List.nil_append, List.replicate, then_normal, Option.getD_some, Bool.or_false, Bool.false_eq_true, up_zero, binv, ↓opt_def, eq_self, hw]
        exact ⟨hil, _, _, Gh.keep [6, 25, 26, 27], .inl ⟨h0, hq0, rfl⟩, _, rfl⟩
      · refine T.regi hm ?_
        simp only [↓reduceIte, namesOf, List.any, I.names, aopsI, astep, ev, setd, List.set, List.getD, List.getElem?_cons_zero, List.getElem?_cons_succ, List.cons_append, List.nil_append, List.length_cons, List.length_nil, List.replicate, then_normal, inBlock_normal, Option.getD_some, Bool.or_false, Bool.or_true, Nat.reduceAdd, eq_self, srcOf, sps_er5, o1.at_, St.up_res, sps_app5, ← hft, sps_fits5, Bool.true_and]
        rw [if_pos (by rw [hft, List.length_append] at hle; simp only [sps_len, decide_eq_true_eq]; omega)]
        have o2 : OneTip σ' (((σ2.up 4).del g1).set (σ2.next + 2) (Res.tip 5)) (σ2.next + 2) 5 := (o1.up 4).mv wf (by have := o1.lo; have := o1.hi; omega) (by simp)
        refine h2 _ _ ?_
        try clear h2 K_h2
        refine T.regi hm ?_
        simp only [↓reduceIte, namesOf, List.any, I.names, aopsI, astep, ev, setd, List.set, List.getD, List.getElem?_cons_zero, List.getElem?_cons_succ, List.cons_append, List.nil_append, List.replicate, then_normal, Option.getD_some, Bool.or_false, Bool.false_eq_true, up_zero, binv, ↓opt_def, eq_self, hw]
        exact ⟨hil, _, _, Gh.keep [6, 25, 26, 27], .inr ⟨_, o2, rfl⟩, _, rfl⟩
    · refine T.exit ?_
      have : i = l.length := by simp at hb; omega
      subst this
      rw [List.take_length] at hv
      try simp only [List.getD, List.cons_append, List.nil_append, List.replicate, then_normal, inBlock_exit, then_exit]
      refine h1 _ _ ?_
      try clear h1 K_h1
      refine T.seq_k (fun K_h1 h1 => ?_)
      refine T.regi hm ?_
      simp only [↓reduceIte, namesOf, List.any, I.names, aopsI, astep, ev, setd, List.set, List.getD, List.getElem?_cons_zero, List.getElem?_cons_succ, then_normal, Option.getD_some, Bool.or_false, Bool.false_eq_true, up_zero]
      refine h1 _ _ ?_
      try clear h1 K_h1
      rcases hv with ⟨h0, hq0, rfl⟩ | ⟨g1, o1, rfl⟩
      · have : l.flatten = [] := List.eq_nil_of_length_eq_zero h0
        exact T.ret (Fin.quietw rfl (Wk.sl _ _) ⟨trivial, trivial⟩ hq0 ⟨by rw [this]; rfl, rfl⟩)
      · exact T.ret (Fin.quietw rfl (Wk.sl _ _) ⟨nb_sps _ _, trivial⟩ (o1.quiet wf) ⟨rfl, rfl⟩)

theorem gather_len (l : List Sp) : (gatherL l).length ≤ l.length := gatherN_le l _

theorem tmerge_ok {a b : List Sp} {g g' : Ver} {σ : St} (hla : a.length ≤ 100000) (hlb : b.length ≤ 100000) (hda : ∀ s ∈ a, s.da.length ≤ 1099511627776) (hdb : ∀ s ∈ b, s.da.length ≤ 1099511627776) :
    ACalls Try.prog n_tmerge [.sl (spsAV a) g, .sl (spsAV b) g'] σ (fun v σ' => v = .sl (spsAV (gatherL (a ++ b))) .none ∧ σ' = σ) := by
  refine s_tmerge (fun wf => ?_)
  unfold c_tmerge
  refine T.seq_k (fun K_h1 h1 => ?_)
  refine T.regi hm ?_
  simp only [↓reduceIte, namesOf, List.any, I.names, aopsI, astep, ev, setd, List.set, List.cons_append, List.nil_append, List.length_cons, List.length_nil, List.replicate, then_normal, Bool.or_false, Bool.false_eq_true, up_zero, Nat.reduceAdd, Nat.reduceSub]
  refine h1 _ _ ?_
  try clear h1 K_h1
  refine T.seq_k (fun K_h1 h1 => ?_)
  refine T.regi hm ?_
  simp only [↓reduceIte, namesOf, List.any, I.names, aopsI, astep, ev, setd, List.set, List.getD, List.getElem?_cons_zero, List.getElem?_cons_succ, List.length_cons, List.length_nil, then_normal, Option.getD_some, Bool.or_false, Bool.false_eq_true, up_zero, AV.isAny, AV.cells, List.map_cons, List.map_nil, eq_self, AV.fits, AV.one, List.all_cons, List.all_nil, Nat.reduceBEq, Bool.not_false, Bool.and_self, Nat.zero_add, held, AV.er, AV.er1]
  have hrw : [AV.sl (spsAV a) .none, AV.sl (spsAV b) .none] = rwsAV [a, b] := rfl
  rw [hrw]
  have hfl : [a, b].flatten = a ++ b := by simp
  refine (concats_ok (l := [a, b]) (by simp) (by rw [hfl, List.length_append]; omega)).mono ?_
  rintro v σ1 ⟨rfl, rfl⟩
  rw [hfl]
  try simp only [↓reduceIte, namesOf, List.any, I.names, aops, aopsI, aopsT, qstep, CPt, qget, Tbl.get, astep, ev, setd, List.set, List.getD, List.getElem?_cons_zero, List.getElem?_cons_succ, List.getElem?_nil, List.cons_append, List.nil_append, List.length_cons, List.length_nil, List.replicate, then_normal, inBlock_normal, Option.getD_some, Option.getD_none, Bool.or_false, Bool.or_true, Bool.true_or, Bool.false_or, Bool.false_eq_true, if_false, if_true, up_zero, Nat.reduceAdd, Nat.reduceSub, binv, ↓opt_def, AV.isAny, AV.cells, ldc, List.map_cons, List.map_nil, St.set_next, St.set_same, St.up_next, Int.natCast_nonneg, lt_len, le_len, Int.toNat_natCast, true_and, and_true, eq_self, reduceCtorEq, decide_true, List.length_singleton, er_int, er_bool, er_str, srcR, up_zero]
  refine (gather_ok (by rw [List.length_append]; omega) (fun s hs => ?_)).mono ?_
  · rcases List.mem_append.1 hs with h | h
    · exact hda s h
    · exact hdb s h
  rintro v σ2 ⟨rfl, rfl⟩
  try simp only [↓reduceIte, namesOf, List.any, I.names, aops, aopsI, aopsT, qstep, CPt, qget, Tbl.get, astep, ev, setd, List.set, List.getD, List.getElem?_cons_zero, List.getElem?_cons_succ, List.getElem?_nil, List.cons_append, List.nil_append, List.length_cons, List.length_nil, List.replicate, then_normal, inBlock_normal, Option.getD_some, Option.getD_none, Bool.or_false, Bool.or_true, Bool.true_or, Bool.false_or, Bool.false_eq_true, if_false, if_true, up_zero, Nat.reduceAdd, Nat.reduceSub, binv, ↓opt_def, AV.isAny, AV.cells, ldc, List.map_cons, List.map_nil, St.set_next, St.set_same, St.up_next, Int.natCast_nonneg, lt_len, le_len, Int.toNat_natCast, true_and, and_true, eq_self, reduceCtorEq, decide_true, List.length_singleton, er_int, er_bool, er_str, srcR, up_zero]
  refine h1 _ _ ?_
  try clear h1 K_h1
  exact T.ret (Fin.ret rfl ⟨rfl, rfl⟩)

end Go.VL

namespace Go.VL

theorem minS_set {l l' : List Sp} (h : ∀ x, x ∈ l ↔ x ∈ l') (x : Sp) : minS l x ↔ minS l' x :=
  ⟨fun ⟨h1, h2⟩ => ⟨(h x).1 h1, fun y hy => h2 y ((h y).2 hy)⟩, fun ⟨h1, h2⟩ => ⟨(h x).2 h1, fun y hy => h2 y ((h y).1 hy)⟩⟩

theorem gather_ext {l l' : List Sp} (h : ∀ x, minS l x ↔ minS l' x) : gatherL l = gatherL l' := by
  refine List.Perm.eq_of_pairwise (le := fun a b => aheadS a b = true) (fun a b _ _ h1 h2 => ?_) (gather_sorted l) (gather_sorted l') ?_
  · have := ahead_asym h1; rw [h2] at this; cases this
  · exact (List.perm_ext_iff_of_nodup (sorted_nodup (gather_sorted l)) (sorted_nodup (gather_sorted l'))).2 fun x => by rw [gather_mem, gather_mem]; exact h x

theorem gather_set {l l' : List Sp} (h : ∀ x, x ∈ l ↔ x ∈ l') : gatherL l = gatherL l' := gather_ext (minS_set h)

theorem gather_low {l : List Sp} {y : Sp} (hy : y ∈ l) : ∃ z ∈ gatherL l, sameK y z = true ∧ lessS y z = false := by
  obtain ⟨z, hz, h⟩ := (held_puts l).low y hy
  exact ⟨z, (gather_mem l z).2 (((held_puts l).mem z).1 hz), h⟩

theorem gather_app (l c : List Sp) : gatherL (gatherL l ++ c) = gatherL (l ++ c) := by
  refine gather_ext fun x => ⟨fun ⟨h1, h2⟩ => ⟨?_, fun y hy hk => ?_⟩, fun ⟨h1, h2⟩ => ⟨?_, fun y hy hk => ?_⟩⟩
  · rcases List.mem_append.1 h1 with h | h
    · exact List.mem_append_left _ ((gather_mem l x).1 h).1
    · exact List.mem_append_right _ h
  · rcases List.mem_append.1 hy with hy | hy
    · obtain ⟨z, hz, hk2, hl⟩ := gather_low hy
      have hzx : sameK z x = true := sameK_trans (sameK_symm hk2) hk
      have h3 := h2 z (List.mem_append_left _ hz) hzx
      cases hc : lessS y x with
      | false => rfl
      | true =>
        cases hzy : lessS z y with
        | true => have := less_trans hzy hc; rw [h3] at this; cases this
        | false =>
          have hkk := sameK_iff.1 hk2
          have : y = z := less_total hkk.1 hkk.2 hl hzy
          subst this; rw [hc] at h3; cases h3
    · exact h2 y (List.mem_append_right _ hy) hk
  · rcases List.mem_append.1 h1 with h | h
    · exact List.mem_append_left _ ((gather_mem l x).2 ⟨h, fun y hy => h2 y (List.mem_append_left _ hy)⟩)
    · exact List.mem_append_right _ h
  · rcases List.mem_append.1 hy with hy | hy
    · exact h2 y (List.mem_append_left _ ((gather_mem l y).1 hy).1) hk
    · exact h2 y (List.mem_append_right _ hy) hk

end Go.VL

namespace Go.VL

open Go.Proofs

/-- is a span of another trace? -/
def offT (id : Nat) (s : Sp) : Bool := decide ((s.tr : Int) ≠ (id : Int))

def ofT (id : Nat) (l : List Sp) : List Sp := l.filter fun s => !offT id s

end Go.VL

namespace Go.VL

open Go.Proofs

/-- a reader (an owned thing nm), a row that grows, and names that nobody knows -/
structure Rk (σ t : St) (nm : Nat) (r : Res) (k : Nat) (v : Ver) : Prop where
  like : Like σ t
  lo : σ.next ≤ nm
  hi : nm < t.next
  at_ : t.res nm = some r
  ver : v = .nil ∨ ∃ g, v = .tip g ∧ g ≠ nm ∧ σ.next ≤ g ∧ g < t.next ∧ t.res g = some (.tip k)

theorem Rk.set {σ t : St} {nm k : Nat} {r : Res} {v : Ver} (h : Rk σ t nm r k v) (r' : Res) : Rk σ (t.set nm r') nm r' k v :=
  ⟨h.like.set _ h.lo, h.lo, h.hi, by simp, h.ver.imp id fun ⟨g, a1, a2, a3, a4, a5⟩ => ⟨g, a1, a2, a3, a4, by rw [St.set_other _ _ a2]; exact a5⟩⟩

theorem Rk.up {σ t : St} {nm k : Nat} {r : Res} {v : Ver} (h : Rk σ t nm r k v) (n : Nat) : Rk σ (t.up n) nm r k v :=
  ⟨h.like.up n, h.lo, Nat.lt_of_lt_of_le h.hi (Nat.le_add_right _ _), h.at_, h.ver.imp id fun ⟨g, a1, a2, a3, a4, a5⟩ => ⟨g, a1, a2, a3, Nat.lt_of_lt_of_le a4 (Nat.le_add_right _ _), a5⟩⟩

theorem Rk.new {σ t : St} {nm k : Nat} {r : Res} {v : Ver} (h : Rk σ t nm r k v) {a : Nat} (r' : Res) (ha : σ.next ≤ a) (hn : a ≠ nm) (hv : ∀ g, v = .tip g → a ≠ g) : Rk σ (t.set a r') nm r k v :=
  ⟨h.like.set _ ha, h.lo, h.hi, by rw [St.set_other _ _ (Ne.symm hn)]; exact h.at_, h.ver.imp id fun ⟨g, a1, a2, a3, a4, a5⟩ => ⟨g, a1, a2, a3, a4, by rw [St.set_other _ _ (Ne.symm (hv g a1))]; exact a5⟩⟩

theorem Rk.lt {σ t : St} {nm k : Nat} {r : Res} {v : Ver} (h : Rk σ t nm r k v) {g : Nat} (hv : v = .tip g) : g < t.next := by
  rcases h.ver with e | ⟨g', e, _, _, h4, _⟩
  · rw [hv] at e; cases e
  · rw [hv] at e; cases e; exact h4

end Go.VL

namespace Go.VL

open Go.Proofs

open Classical in
noncomputable def gGather (args : List AV) : Option AV := if h : ∃ l : List Sp, args = [.sl (spsAV l) .none] ∧ l.length ≤ 1000000 then some (.sl (spsAV (gatherL h.choose)) .none) else none

open Classical in
noncomputable def gSpans (args : List AV) : Option AV := if h : ∃ p : List Sp × List Sp, args = [.sl (spsAV p.1) .none, .sl (spsAV p.2) .none] ∧ p.1.length ≤ 1000000 then some (.bool (decide (h.choose.1 = h.choose.2))) else none

noncomputable def tI : Tbl := [(n_rgather, gGather), (n_rspans, gSpans)]

def risAt (l : List Tc) (i : Nat) : Bool := match l[i]? with
  | some t => decide (1 ≤ t.sp.length) && decide (t.sp.length ≤ 100) && (i == 0 || (match l[i - 1]? with | some p => decide (p.id < t.id) | none => false)) &&
      t.sp.all (fun s => mayS s && decide (s.tr = t.id)) && decide (gatherL t.sp = t.sp)
  | none => false

def risB (l : List Tc) : Bool := (List.range l.length).all (risAt l)

end Go.VL

namespace Go.VL

open Go.Proofs

theorem cmp3_neg {a b : Int} : cmp3 a b < 0 ↔ a < b := by
  unfold cmp3; split
  · omega
  · split <;> omega

theorem cmp3_zero {a b : Int} : cmp3 a b = 0 ↔ a = b := by
  unfold cmp3; split
  · omega
  · split <;> omega

theorem cmp3_self (a : Int) : cmp3 a a = 0 := by unfold cmp3; simp

theorem cmp_ahead (a b : Sp) : decide (cmpSp a b < 0) = aheadS a b := by
  rw [Bool.eq_iff_iff, decide_eq_true_eq]
  unfold cmpSp cmpS aheadS
  simp only [orI]
  by_cases h1 : a.st = b.st
  · have e1 : cmp3 a.st b.st = 0 := cmp3_zero.2 h1
    by_cases h2 : a.id = b.id
    · have e2 : cmp3 (a.id : Int) (b.id : Int) = 0 := cmp3_zero.2 (by omega)
      by_cases h3 : a.tr = b.tr
      · have e3 : cmp3 (a.tr : Int) (b.tr : Int) = 0 := cmp3_zero.2 (by omega)
        simp only [cmp3_self, e1, e2, e3, h1, h2, h3, if_true, ne_eq, not_true_eq_false, if_false, decide_eq_true_eq]; omega
      · have e3 : ¬ cmp3 (a.tr : Int) (b.tr : Int) = 0 := by rw [cmp3_zero]; omega
        simp only [cmp3_self, e1, e2, e3, h1, h2, if_true, ne_eq, not_true_eq_false, if_false, decide_eq_true_eq, cmp3_neg]; omega
    · have e2 : ¬ cmp3 (a.id : Int) (b.id : Int) = 0 := by rw [cmp3_zero]; omega
      simp only [cmp3_self, e1, e2, h1, h2, if_true, ne_eq, not_true_eq_false, not_false_eq_true, if_false, decide_eq_true_eq, cmp3_neg]; omega
  · have e1 : ¬ cmp3 a.st b.st = 0 := by rw [cmp3_zero]; exact h1
    simp only [e1, h1, if_true, ne_eq, not_false_eq_true, if_false, decide_eq_true_eq, cmp3_neg]

def docOne (t : Tc) : Bool := decide (1 ≤ t.sp.length) && decide (t.sp.length ≤ 100) && t.sp.all (fun s => mayS s && decide (s.tr = t.id)) && decide (gatherL t.sp = t.sp)

theorem ok_at {t : Tc} {i : Nat} (hi : i < t.sp.length) : okAt t i = true ↔ t.sp[i].tr = t.id ∧ mayS t.sp[i] = true ∧ (∀ j (hj : j < i), t.sp[j].id ≠ t.sp[i].id) ∧ ∀ j (hj : j + 1 = i), aheadS t.sp[j] t.sp[i] = true := by
  unfold okAt
  have e : t.sp[i]? = some t.sp[i] := by simp [hi]
  rw [e]
  simp only [Bool.and_eq_true, decide_eq_true_eq, Bool.not_eq_true', Bool.or_eq_true, beq_iff_eq, and_assoc]
  refine and_congr Iff.rfl (and_congr Iff.rfl (and_congr ?_ ?_))
  · constructor
    · intro h j hj he
      have : ((t.sp.take i).map Sp.id).contains t.sp[i].id = true := by
        simp only [List.contains_iff_mem, List.mem_map]
        refine ⟨t.sp[j], ?_, he⟩
        have : (t.sp.take i)[j]? = some t.sp[j] := by rw [List.getElem?_take, if_pos hj]; simp [show j < t.sp.length by omega]
        exact List.mem_of_getElem? this
      rw [h] at this; cases this
    · intro h
      rw [Bool.eq_false_iff]
      intro hc
      simp only [List.contains_iff_mem, List.mem_map] at hc
      obtain ⟨s, hs, he⟩ := hc
      obtain ⟨j, hj⟩ := List.getElem?_of_mem hs
      rw [List.getElem?_take] at hj
      split at hj
      · rename_i hji
        have : t.sp[j]'(by omega) = s := by simpa [show j < t.sp.length by omega] using hj
        exact h j hji (by rw [this]; exact he)
      · cases hj
  · cases i with
    | zero => exact ⟨fun _ j hj => by omega, fun _ => .inl rfl⟩
    | succ i =>
      have e2 : t.sp[i]? = some (t.sp[i]'(by omega)) := by simp [show i < t.sp.length by omega]
      simp only [Nat.add_sub_cancel, e2, Nat.succ_ne_zero, Nat.add_eq_zero_iff, Nat.one_ne_zero, and_false, false_or]
      rw [cmp_ahead]
      exact ⟨fun h j hj => by have : j = i := by omega
                              subst this; exact h, fun h => h i rfl⟩

theorem one_doc (t : Tc) : oneB t = docOne t := by
  rw [Bool.eq_iff_iff]
  unfold oneB docOne
  simp only [Bool.and_eq_true, decide_eq_true_eq, List.all_eq_true, List.mem_range]
  constructor
  · rintro ⟨⟨h1, h2⟩, h3⟩
    have hk : ∀ i (hi : i < t.sp.length), _ := fun i hi => (ok_at hi).1 (h1 i hi)
    have htr : ∀ s ∈ t.sp, s.tr = t.id := by
      intro s hs
      obtain ⟨i, hi, rfl⟩ := List.getElem_of_mem hs
      exact (hk i hi).1
    refine ⟨⟨⟨h2, h3⟩, fun s hs => ?_⟩, (gather_id htr).2 ⟨fun i j hi hj hij => (hk j hj).2.2.1 i hij, ?_⟩⟩
    · obtain ⟨i, hi, rfl⟩ := List.getElem_of_mem hs
      exact ⟨(hk i hi).2.1, (hk i hi).1⟩
    · rw [SortedS, List.pairwise_iff_getElem]
      intro i j hi hj hij
      induction j with
      | zero => omega
      | succ j ih =>
        have hst := (hk (j + 1) hj).2.2.2 j rfl
        by_cases hx : i = j
        · subst hx; exact hst
        · exact ahead_trans (ih (by omega) (by omega)) hst
  · rintro ⟨⟨⟨h2, h3⟩, h1⟩, hg⟩
    have htr : ∀ s ∈ t.sp, s.tr = t.id := fun s hs => (h1 s hs).2
    obtain ⟨hap, hso⟩ := (gather_id htr).1 hg
    refine ⟨⟨fun i hi => (ok_at hi).2 ⟨(h1 _ (List.getElem_mem hi)).2, (h1 _ (List.getElem_mem hi)).1, fun j hj => hap j i (by omega) hi hj, fun j hj => ?_⟩, h2⟩, h3⟩
    exact List.pairwise_iff_getElem.1 hso j i (by omega) hi (by omega)

theorem is_doc (l : List Tc) : isB l = risB l := by
  unfold isB risB
  congr 1
  funext i
  unfold isAt risAt
  cases l[i]? with
  | none => rfl
  | some t =>
    simp only
    rw [one_doc]
    unfold docOne
    generalize (i == 0 || (match l[i - 1]? with | some p => decide (p.id < t.id) | none => false)) = b
    cases b <;> simp only [Bool.and_true, Bool.and_false, Bool.false_and]

end Go.VL

namespace Go.VL

open Go.Proofs

/-- the reader's place in what is left of the bytes -/
def sh (k : Nat) (s : Rs) : Rs := ⟨s.at_ - k, if s.bad = -1 then -1 else s.bad - k⟩

structure SH (k : Nat) (b : List UInt8) (s : Rs) : Prop where
  ok : s.ok b
  len : k ≤ b.length
  lo : (k : Int) ≤ s.at_
  bad : s.bad = -1 ∨ (k : Int) ≤ s.bad

theorem SH.neg {k : Nat} {b : List UInt8} {s : Rs} (h : SH k b s) : (sh k s).bad = -1 ↔ s.bad = -1 := by
  unfold sh; have := h.bad
  split <;> simp_all <;> omega

theorem SH.pos {k : Nat} {b : List UInt8} {s : Rs} (h : SH k b s) : 0 ≤ (sh k s).bad ↔ 0 ≤ s.bad := by
  unfold sh; have := h.bad
  split <;> simp_all <;> omega

theorem SH.rt {k : Nat} {b : List UInt8} {s : Rs} (h : SH k b s) (w : Int) : rT (b.drop k) (sh k s) w = rT b s w := by
  have e := h.neg
  have := h.len
  unfold rT
  rw [Bool.eq_iff_iff, decide_eq_true_eq, decide_eq_true_eq, e, List.length_drop]
  unfold sh
  constructor <;> rintro ⟨h1, h2⟩ <;> refine ⟨h1, ?_⟩ <;> simp only [] at * <;> omega

theorem SH.rw {k : Nat} {b : List UInt8} {s : Rs} (h : SH k b s) (w : Nat) : rW (b.drop k) (sh k s) w = rW b s w := by
  unfold rW
  rw [h.rt]
  have : (b.drop k).drop (sh k s).at_.toNat = b.drop s.at_.toNat := by
    rw [List.drop_drop]; unfold sh; have := h.lo; congr 1; simp only []; omega
  rw [this]

end Go.VL

namespace Go.VL

open Go.Proofs

/-- an owned thing nm, and a row that grows -/
structure RS (σ σ' : St) (nm : Nat) (r : Res) (k : Nat) (v : Ver) : Prop where
  old : ∀ m, m < σ.next → σ'.res m = σ.res m
  lo : σ.next ≤ nm
  hi : nm < σ'.next
  at_ : σ'.res nm = some r
  ver : v = .nil ∨ ∃ g, v = .tip g ∧ g ≠ nm ∧ σ.next ≤ g ∧ g < σ'.next ∧ σ'.res g = some (.tip k)

theorem RS.set {σ σ' : St} {nm k : Nat} {r : Res} {v : Ver} (h : RS σ σ' nm r k v) (r' : Res) : RS σ (σ'.set nm r') nm r' k v where
  old := fun m hm => by rw [St.set_other _ _ (by have := h.lo; omega)]; exact h.old m hm
  lo := h.lo
  hi := h.hi
  at_ := by simp
  ver := h.ver.imp id fun ⟨g, h1, h2, h3, h4, h5⟩ => ⟨g, h1, h2, h3, h4, by rw [St.set_other _ _ h2]; exact h5⟩

theorem RS.up {σ σ' : St} {nm k : Nat} {r : Res} {v : Ver} (h : RS σ σ' nm r k v) (n : Nat) : RS σ (σ'.up n) nm r k v :=
  ⟨h.old, h.lo, Nat.lt_of_lt_of_le h.hi (Nat.le_add_right _ _), h.at_, h.ver.imp id fun ⟨g, h1, h2, h3, h4, h5⟩ => ⟨g, h1, h2, h3, Nat.lt_of_lt_of_le h4 (Nat.le_add_right _ _), h5⟩⟩

theorem RS.nil {σ σ' : St} {nm k g2 : Nat} {r : Res} (h : RS σ σ' nm r k .nil) (h1 : nm < g2) (h2 : g2 < σ'.next) : RS σ (σ'.set g2 (.tip k)) nm r k (.tip g2) where
  old := fun m hm => by rw [St.set_other _ _ (by have := h.lo; omega)]; exact h.old m hm
  lo := h.lo
  hi := h.hi
  at_ := by rw [St.set_other _ _ (by omega)]; exact h.at_
  ver := .inr ⟨g2, rfl, by omega, by have := h.lo; omega, h2, by simp⟩

theorem RS.tip {σ σ' : St} {nm k g g2 : Nat} {r : Res} (h : RS σ σ' nm r k (.tip g)) (h1 : nm < g2) (h2 : g2 < σ'.next) : RS σ ((σ'.del g).set g2 (.tip k)) nm r k (.tip g2) := by
  obtain ⟨g', e, a1, a2, a3, a4⟩ := h.ver.resolve_left (by simp)
  cases e
  refine ⟨fun m hm => ?_, h.lo, h.hi, ?_, .inr ⟨g2, rfl, by omega, by have := h.lo; omega, h2, by simp⟩⟩
  · rw [St.set_other _ _ (by have := h.lo; omega)]
    simp only [St.del]
    rw [if_neg (by omega)]; exact h.old m hm
  · rw [St.set_other _ _ (by omega)]
    simp only [St.del]
    rw [if_neg (fun e => a1 e.symm)]; exact h.at_

theorem RS.quiet {σ σ' : St} {nm k : Nat} {r : Res} {v : Ver} (wf : WF σ) (h : RS σ σ' nm r k v) : ∀ m s, σ.res m = some s → σ'.res m = some s := by
  intro m s hm
  have : m < σ.next := by
    rcases Nat.lt_or_ge m σ.next with h | h
    · exact h
    · rw [wf m h] at hm; cases hm
  rw [h.old m this]; exact hm

end Go.VL

namespace Go.VL

open Go.Proofs

/-! ### Group, plain -/

def atG (out : List Tc) (id : Nat) : Nat := out.findIdx fun t => decide (id ≤ t.id)

def insG (out : List Tc) (id : Nat) (sp : List Sp) : List Tc := match out[atG out id]? with
  | some t => if t.id = id then out else out.take (atG out id) ++ [⟨id, sp⟩] ++ out.drop (atG out id)
  | none => out.take (atG out id) ++ [⟨id, sp⟩] ++ out.drop (atG out id)

def groupN (l : List Sp) : Nat → List Tc
  | 0 => []
  | n + 1 => match l[n]? with
    | some s => insG (groupN l n) s.tr (ofT s.tr (gatherL l))
    | none => groupN l n

def groupL (l : List Sp) : List Tc := groupN l l.length

/-- what is grouped, told -/
structure GroupOf (l : List Sp) (ids : Nat → Prop) (out : List Tc) : Prop where
  sorted : out.Pairwise (fun a b => a.id < b.id)
  sp : ∀ t ∈ out, t.sp = ofT t.id (gatherL l)
  ids : ∀ id, (∃ t ∈ out, t.id = id) ↔ ids id

theorem GroupOf.uniq {l : List Sp} {ids : Nat → Prop} {a b : List Tc} (ha : GroupOf l ids a) (hb : GroupOf l ids b) : a = b := by
  have key : ∀ {a b : List Tc}, GroupOf l ids a → GroupOf l ids b → ∀ t ∈ a, t ∈ b := by
    intro a b ha hb t ht
    obtain ⟨u, hu, he⟩ := (hb.ids t.id).2 ((ha.ids t.id).1 ⟨t, ht, rfl⟩)
    have : u = t := by
      have h1 := ha.sp t ht
      have h2 := hb.sp u hu
      cases t; cases u
      simp only at he h1 h2 ⊢
      subst he
      rw [h1, h2]
    exact this ▸ hu
  have nd : ∀ {a : List Tc}, a.Pairwise (fun a b => a.id < b.id) → a.Nodup := fun h => h.imp fun {a b} hab e => by subst e; omega
  refine List.Perm.eq_of_pairwise (le := fun a b => a.id < b.id) (fun a b _ _ h1 h2 => by omega) ha.sorted hb.sorted ?_
  exact (List.perm_ext_iff_of_nodup (nd ha.sorted) (nd hb.sorted)).2 fun t => ⟨key ha hb t, key hb ha t⟩

theorem atG_take {out : List Tc} {id : Nat} : ∀ t ∈ out.take (atG out id), t.id < id := by
  intro t ht
  obtain ⟨j, hj, rfl⟩ := List.getElem_of_mem ht
  rw [List.length_take] at hj
  rw [List.getElem_take]
  have := List.not_of_lt_findIdx (p := fun t : Tc => decide (id ≤ t.id)) (xs := out) (i := j) (by unfold atG at hj; omega)
  simp at this; exact this

theorem atG_drop {out : List Tc} {id : Nat} (hs : out.Pairwise (fun a b => a.id < b.id)) : ∀ t ∈ out.drop (atG out id), id ≤ t.id := by
  intro t ht
  obtain ⟨j, hj, rfl⟩ := List.getElem_of_mem ht
  rw [List.length_drop] at hj
  rw [List.getElem_drop]
  have hlt : atG out id < out.length := by omega
  have h0 := List.findIdx_getElem (p := fun t : Tc => decide (id ≤ t.id)) (xs := out) (w := hlt)
  simp only [decide_eq_true_eq] at h0
  have h0' : id ≤ (out[atG out id]'hlt).id := h0
  rcases Nat.eq_zero_or_pos j with rfl | hp
  · exact h0'
  · have := List.pairwise_iff_getElem.1 hs (atG out id) (atG out id + j) hlt (by omega) (by omega)
    omega

theorem GroupOf.ins {l : List Sp} {ids : Nat → Prop} {out : List Tc} (h : GroupOf l ids out) (id : Nat) : GroupOf l (fun x => ids x ∨ x = id) (insG out id (ofT id (gatherL l))) := by
  have new : (¬ ∃ t ∈ out, t.id = id) → GroupOf l (fun x => ids x ∨ x = id) (out.take (atG out id) ++ [⟨id, ofT id (gatherL l)⟩] ++ out.drop (atG out id)) := by
    intro hno
    have hmem : ∀ t, t ∈ out.take (atG out id) ++ [(⟨id, ofT id (gatherL l)⟩ : Tc)] ++ out.drop (atG out id) ↔ t ∈ out ∨ t = ⟨id, ofT id (gatherL l)⟩ := by
      intro t
      have e : t ∈ out ↔ t ∈ out.take (atG out id) ∨ t ∈ out.drop (atG out id) := by
        conv => lhs; rw [← List.take_append_drop (atG out id) out]
        exact List.mem_append
      simp only [List.mem_append, List.mem_singleton, e]
      constructor
      · rintro ((h | h) | h)
        · exact .inl (.inl h)
        · exact .inr h
        · exact .inl (.inr h)
      · rintro ((h | h) | h)
        · exact .inl (.inl h)
        · exact .inr h
        · exact .inl (.inr h)
    refine ⟨?_, fun t ht => ?_, fun x => ?_⟩
    · rw [List.append_assoc, List.pairwise_append]
      refine ⟨h.sorted.sublist (List.take_sublist _ _), List.pairwise_append.2 ⟨List.pairwise_singleton _ _, h.sorted.sublist (List.drop_sublist _ _), fun a ha b hb => ?_⟩, fun a ha b hb => ?_⟩
      · simp only [List.mem_singleton] at ha; subst ha
        have h1 := atG_drop h.sorted b hb
        have h2 : b.id ≠ id := fun e => hno ⟨b, List.mem_of_mem_drop hb, e⟩
        show id < b.id
        omega
      · have h1 := atG_take a ha
        rcases List.mem_append.1 hb with hb | hb
        · simp only [List.mem_singleton] at hb; subst hb; exact h1
        · have := atG_drop h.sorted b hb; omega
    · rcases (hmem t).1 ht with ht | rfl
      · exact h.sp t ht
      · rfl
    · constructor
      · rintro ⟨t, ht, rfl⟩
        rcases (hmem t).1 ht with ht | rfl
        · exact .inl ((h.ids _).1 ⟨t, ht, rfl⟩)
        · exact .inr rfl
      · rintro (hx | rfl)
        · obtain ⟨t, ht, e⟩ := (h.ids x).2 hx
          exact ⟨t, (hmem t).2 (.inl ht), e⟩
        · exact ⟨_, (hmem _).2 (.inr rfl), rfl⟩
  unfold insG
  split
  · rename_i t ht
    split
    · rename_i he
      refine ⟨h.sorted, h.sp, fun x => ?_⟩
      rw [h.ids]
      refine ⟨.inl, ?_⟩
      rintro (hx | rfl)
      · exact hx
      · exact (h.ids _).1 ⟨t, List.mem_of_getElem? ht, he⟩
    · rename_i hne
      refine new ?_
      rintro ⟨u, hu, rfl⟩
      have e : u ∈ out.take (atG out u.id) ∨ u ∈ out.drop (atG out u.id) := by
        rw [← List.mem_append, List.take_append_drop]; exact hu
      rcases e with e | e
      · have := atG_take u e; omega
      · obtain ⟨hl, rfl⟩ := List.getElem?_eq_some_iff.1 ht
        have h1 := atG_drop h.sorted (out[atG out u.id]) (by rw [List.drop_eq_getElem_cons hl]; exact List.mem_cons_self ..)
        rw [List.drop_eq_getElem_cons hl] at e
        rcases List.mem_cons.1 e with e | e
        · exact hne (by rw [← e])
        · obtain ⟨j, hj, hju⟩ := List.getElem_of_mem e
          rw [List.getElem_drop] at hju
          rw [List.length_drop] at hj
          have := List.pairwise_iff_getElem.1 h.sorted (atG out u.id) (atG out u.id + 1 + j) hl (by omega) (by omega)
          rw [hju] at this; omega
  · rename_i ht
    refine new ?_
    rintro ⟨u, hu, rfl⟩
    have hge : out.length ≤ atG out u.id := List.getElem?_eq_none_iff.1 ht
    have := atG_take u (by rw [List.take_of_length_le hge]; exact hu)
    omega

theorem groupN_is (l : List Sp) : ∀ n, n ≤ l.length → GroupOf l (fun id => ∃ s ∈ l.take n, s.tr = id) (groupN l n)
  | 0, _ => ⟨.nil, fun t ht => (by cases ht), fun id => by simp [groupN]⟩
  | n + 1, hn => by
    have ih := groupN_is l n (by omega)
    have e : l[n]? = some l[n] := by simp
    unfold groupN
    rw [e]
    have := ih.ins l[n].tr
    refine ⟨this.sorted, this.sp, fun id => ?_⟩
    rw [this.ids, List.take_succ_eq_append_getElem (by omega)]
    constructor
    · rintro (⟨s, hs, e⟩ | rfl)
      · exact ⟨s, List.mem_append_left _ hs, e⟩
      · exact ⟨l[n], List.mem_append_right _ (List.mem_singleton.2 rfl), rfl⟩
    · rintro ⟨s, hs, e⟩
      rcases List.mem_append.1 hs with hs | hs
      · exact .inl ⟨s, hs, e⟩
      · simp only [List.mem_singleton] at hs; subst hs; exact .inr e.symm

theorem group_is (l : List Sp) : GroupOf l (fun id => ∃ s ∈ l, s.tr = id) (groupL l) := by
  have := groupN_is l l.length (Nat.le_refl _)
  rwa [List.take_length] at this

/-! ### Flat -/

def spansP (l : List (List Tc)) : List Sp := l.flatMap fun r => r.flatMap Tc.sp

/-! ### Group -/

end Go.VL

namespace Go.VL

def stepM (out : List Tc) (t : Tc) : List Tc := match out.getLast? with
  | some u => if u.id = t.id then out.dropLast ++ [⟨u.id, gatherL (u.sp ++ t.sp)⟩] else out ++ [⟨t.id, gatherL t.sp⟩]
  | none => [⟨t.id, gatherL t.sp⟩]

def mergeT (l : List Tc) : List Tc := l.foldl stepM []

theorem mergeT_snoc (l : List Tc) (t : Tc) : mergeT (l ++ [t]) = stepM (mergeT l) t := by simp [mergeT]

def ofI (id : Nat) (l : List Tc) : List Sp := (l.filter fun t => decide (t.id = id)).flatMap Tc.sp

theorem ofI_snoc (id : Nat) (l : List Tc) (t : Tc) : ofI id (l ++ [t]) = ofI id l ++ if t.id = id then t.sp else [] := by
  unfold ofI
  rw [List.filter_append, List.flatMap_append]
  congr 1
  by_cases h : t.id = id <;> simp [h]

theorem split_last {α : Type} {l : List α} {u : α} (h : l.getLast? = some u) : l = l.dropLast ++ [u] := by
  obtain ⟨ys, rfl⟩ := List.getLast?_eq_some_iff.1 h
  simp

structure MergeOf (l out : List Tc) : Prop where
  sorted : out.Pairwise (fun a b => a.id < b.id)
  sp : ∀ u ∈ out, u.sp = gatherL (ofI u.id l)
  ids : ∀ x, (∃ u ∈ out, u.id = x) ↔ ∃ t ∈ l, t.id = x
  last : out.getLast?.map Tc.id = l.getLast?.map Tc.id

theorem MergeOf.step {l out : List Tc} {t : Tc} (h : MergeOf l out) (ht : ∀ t' ∈ l, t'.id ≤ t.id) (hl : ∀ u, l.getLast? = some u → ∀ t' ∈ l, t'.id ≤ u.id) : MergeOf (l ++ [t]) (stepM out t) := by
  have hids : ∀ x, (∃ t' ∈ l ++ [t], t'.id = x) ↔ (∃ t' ∈ l, t'.id = x) ∨ x = t.id := by
    intro x
    constructor
    · rintro ⟨t', ht', rfl⟩
      rcases List.mem_append.1 ht' with h | h
      · exact .inl ⟨t', h, rfl⟩
      · simp only [List.mem_singleton] at h; subst h; exact .inr rfl
    · rintro (⟨t', ht', rfl⟩ | rfl)
      · exact ⟨t', List.mem_append_left _ ht', rfl⟩
      · exact ⟨t, List.mem_append_right _ (List.mem_singleton.2 rfl), rfl⟩
  unfold stepM
  cases ho : out.getLast? with
  | none =>
    have hnil : out = [] := List.getLast?_eq_none_iff.1 ho
    subst hnil
    have hln : l = [] := by
      cases l with
      | nil => rfl
      | cons a r =>
        obtain ⟨u, hu, _⟩ := (h.ids a.id).2 ⟨a, by simp, rfl⟩
        cases hu
    subst hln
    refine ⟨List.pairwise_singleton _ _, fun u hu => ?_, fun x => ?_, rfl⟩
    · simp only [List.mem_singleton] at hu; subst hu
      simp [ofI]
    · simp
  | some u =>
    have hum : u ∈ out := List.mem_of_getLast? ho
    have hsplit : out = out.dropLast ++ [u] := split_last ho
    have hlast := h.last
    rw [ho] at hlast
    simp only [Option.map_some] at hlast
    obtain ⟨w, hw, hwu⟩ : ∃ w, l.getLast? = some w ∧ w.id = u.id := by
      cases hll : l.getLast? with
      | none => rw [hll] at hlast; cases hlast
      | some w => rw [hll] at hlast; simp at hlast; exact ⟨w, rfl, hlast.symm⟩
    have hle := hl w hw
    simp only
    have hs := h.sorted
    rw [hsplit] at hs
    have hpre := (List.pairwise_append.1 hs).2.2
    split
    · rename_i heq
      refine ⟨?_, fun v hv => ?_, fun x => ?_, by simp [heq]⟩
      · rw [List.pairwise_append]
        refine ⟨(List.pairwise_append.1 hs).1, List.pairwise_singleton _ _, fun a ha b hb => ?_⟩
        simp only [List.mem_singleton] at hb; subst hb
        exact hpre a ha u (by simp)
      · rcases List.mem_append.1 hv with hv | hv
        · have hlt := hpre v hv u (by simp)
          rw [ofI_snoc, if_neg (by omega), List.append_nil]
          exact h.sp v (by rw [hsplit]; exact List.mem_append_left _ hv)
        · simp only [List.mem_singleton] at hv; subst hv
          simp only
          rw [ofI_snoc, if_pos heq.symm, h.sp u hum, gather_app]
      · rw [hids]
        constructor
        · rintro ⟨v, hv, rfl⟩
          rcases List.mem_append.1 hv with hv | hv
          · exact .inl ((h.ids _).1 ⟨v, by rw [hsplit]; exact List.mem_append_left _ hv, rfl⟩)
          · simp only [List.mem_singleton] at hv; subst hv; exact .inr heq
        · rintro (hx | rfl)
          · obtain ⟨v, hv, rfl⟩ := (h.ids x).2 hx
            rw [hsplit] at hv
            rcases List.mem_append.1 hv with hv | hv
            · exact ⟨v, List.mem_append_left _ hv, rfl⟩
            · simp only [List.mem_singleton] at hv; subst hv
              exact ⟨_, List.mem_append_right _ (List.mem_singleton.2 rfl), rfl⟩
          · exact ⟨_, List.mem_append_right _ (List.mem_singleton.2 rfl), heq⟩
    · rename_i hne
      have hwt := ht w (List.mem_of_getLast? hw)
      have hlt : u.id < t.id := by omega
      refine ⟨?_, fun v hv => ?_, fun x => ?_, by simp⟩
      · rw [List.pairwise_append]
        refine ⟨h.sorted, List.pairwise_singleton _ _, fun a ha b hb => ?_⟩
        simp only [List.mem_singleton] at hb; subst hb
        rw [hsplit] at ha
        rcases List.mem_append.1 ha with ha | ha
        · have := hpre a ha u (by simp)
          show a.id < t.id
          omega
        · simp only [List.mem_singleton] at ha; subst ha; exact hlt
      · rcases List.mem_append.1 hv with hv | hv
        · have hvu : v.id ≤ u.id := by
            rw [hsplit] at hv
            rcases List.mem_append.1 hv with hv | hv
            · exact Nat.le_of_lt (hpre v hv u (by simp))
            · simp only [List.mem_singleton] at hv; subst hv; exact Nat.le_refl _
          rw [ofI_snoc, if_neg (by omega), List.append_nil]
          exact h.sp v hv
        · simp only [List.mem_singleton] at hv; subst hv
          simp only
          rw [ofI_snoc, if_pos rfl]
          have : ofI t.id l = [] := by
            unfold ofI
            rw [List.filter_eq_nil_iff.2 (fun t' ht' => by have := hle t' ht'; simp; omega)]; rfl
          rw [this, List.nil_append]
      · rw [hids]
        constructor
        · rintro ⟨v, hv, rfl⟩
          rcases List.mem_append.1 hv with hv | hv
          · exact .inl ((h.ids _).1 ⟨v, hv, rfl⟩)
          · simp only [List.mem_singleton] at hv; subst hv; exact .inr rfl
        · rintro (hx | rfl)
          · obtain ⟨v, hv, rfl⟩ := (h.ids x).2 hx
            exact ⟨v, List.mem_append_left _ hv, rfl⟩
          · exact ⟨_, List.mem_append_right _ (List.mem_singleton.2 rfl), rfl⟩

theorem mergeT_is : ∀ (l : List Tc), l.Pairwise (fun a b => a.id ≤ b.id) → MergeOf l (mergeT l) := by
  have key : ∀ n (l : List Tc), l.length = n → l.Pairwise (fun a b => a.id ≤ b.id) → MergeOf l (mergeT l) := by
    intro n
    induction n with
    | zero =>
      intro l hl _
      have : l = [] := List.eq_nil_of_length_eq_zero hl
      subst this
      exact ⟨.nil, fun u hu => (by cases hu), fun x => by simp [mergeT], rfl⟩
    | succ n ih =>
      intro l hl hp
      have hne : l ≠ [] := by intro e; subst e; simp at hl
      have hs : l = l.dropLast ++ [l.getLast hne] := (List.dropLast_concat_getLast hne).symm
      rw [hs] at hp
      obtain ⟨h1, _, h3⟩ := List.pairwise_append.1 hp
      have ih' := ih l.dropLast (by rw [List.length_dropLast]; omega) h1
      rw [hs, mergeT_snoc]
      refine ih'.step (fun t' ht' => h3 t' ht' _ (by simp)) (fun u hu t' ht' => ?_)
      have hs2 : l.dropLast = l.dropLast.dropLast ++ [u] := split_last hu
      rw [hs2] at h1 ht'
      rcases List.mem_append.1 ht' with h | h
      · exact (List.pairwise_append.1 h1).2.2 t' h u (by simp)
      · simp only [List.mem_singleton] at h; subst h; exact Nat.le_refl _
  exact fun l => key _ l rfl

theorem gather_of (id : Nat) (l : List Sp) : ofT id (gatherL l) = gatherL (ofT id l) := by
  have hsrt : SortedS (ofT id (gatherL l)) := (gather_sorted l).sublist List.filter_sublist
  refine List.Perm.eq_of_pairwise (le := fun a b => aheadS a b = true) (fun a b _ _ h1 h2 => ?_) hsrt (gather_sorted _) ?_
  · have := ahead_asym h1; rw [h2] at this; cases this
  · refine (List.perm_ext_iff_of_nodup (sorted_nodup hsrt) (sorted_nodup (gather_sorted _))).2 fun x => ?_
    rw [gather_mem]
    unfold ofT
    rw [List.mem_filter, gather_mem]
    constructor
    · rintro ⟨⟨h1, h2⟩, h3⟩
      exact ⟨List.mem_filter.2 ⟨h1, h3⟩, fun y hy hk => h2 y (List.mem_filter.1 hy).1 hk⟩
    · rintro ⟨h1, h2⟩
      obtain ⟨h3, h4⟩ := List.mem_filter.1 h1
      refine ⟨⟨h3, fun y hy hk => h2 y (List.mem_filter.2 ⟨hy, ?_⟩) hk⟩, h4⟩
      have := (sameK_iff.1 hk).1
      unfold offT at h4 ⊢
      rw [this]; exact h4

/-- canonical traces, told -/
theorem ris_at {l : List Tc} (h : risB l = true) {i : Nat} {t : Tc} (ht : l[i]? = some t) : 1 ≤ t.sp.length ∧ t.sp.length ≤ 100 ∧ (∀ s ∈ t.sp, mayS s = true ∧ s.tr = t.id) ∧ gatherL t.sp = t.sp ∧ (0 < i → ∃ p, l[i - 1]? = some p ∧ p.id < t.id) := by
  have hi := (List.getElem?_eq_some_iff.1 ht).1
  have := List.all_eq_true.1 h i (by simpa using hi)
  unfold risAt at this
  rw [ht] at this
  simp only [Bool.and_eq_true, decide_eq_true_eq, Bool.or_eq_true, beq_iff_eq, List.all_eq_true] at this
  obtain ⟨⟨⟨⟨h1, h2⟩, h3⟩, h4⟩, h5⟩ := this
  refine ⟨h1, h2, h4, h5, fun hp => ?_⟩
  rcases h3 with h3 | h3
  · omega
  · split at h3
    · rename_i p hpp
      exact ⟨p, hpp, by simpa using h3⟩
    · cases h3

theorem ris_sorted {l : List Tc} (h : risB l = true) : l.Pairwise (fun a b => a.id < b.id) := by
  rw [List.pairwise_iff_getElem]
  intro i j hi hj hij
  induction j with
  | zero => omega
  | succ j ih =>
    obtain ⟨p, hp, hlt⟩ := (ris_at h (i := j + 1) (t := l[j + 1]) (by simp [hj])).2.2.2.2 (by omega)
    simp only [Nat.add_sub_cancel] at hp
    obtain ⟨hjl, rfl⟩ := List.getElem?_eq_some_iff.1 hp
    by_cases hij2 : i = j
    · subst hij2; exact hlt
    · exact Nat.lt_trans (ih hjl (by omega)) hlt

/-- all rows are canonical -/
def Canon (rows : List (List Tc)) : Prop := ∀ r ∈ rows, risB r = true

theorem Canon.rising {rows : List (List Tc)} (h : Canon rows) : ∀ r ∈ rows, Rising keyT r := by
  intro r hr i j a b hij ha hb
  obtain ⟨hi, rfl⟩ := List.getElem?_eq_some_iff.1 ha
  obtain ⟨hj, rfl⟩ := List.getElem?_eq_some_iff.1 hb
  by_cases e : i = j
  · subst e; exact Int.le_refl _
  · have := List.pairwise_iff_getElem.1 (ris_sorted (h r hr)) i j hi hj (by omega)
    show (r[i].id : Int) ≤ (r[j].id : Int)
    omega

theorem outP_mem {rows : List (List Tc)} {ps : List (Nat × Nat)} (hK : KOut keyT rows ps) (t : Tc) : t ∈ outP rows ps ↔ ∃ r ∈ rows, t ∈ r := by
  unfold outP
  rw [List.mem_filterMap]
  constructor
  · rintro ⟨p, _, hp⟩
    unfold atP at hp
    rw [Option.bind_eq_some_iff] at hp
    obtain ⟨r, h1, h2⟩ := hp
    exact ⟨r, List.mem_of_getElem? h1, List.mem_of_getElem? h2⟩
  · rintro ⟨r, hr, ht⟩
    obtain ⟨i, hi⟩ := List.getElem?_of_mem hr
    obtain ⟨j, hj⟩ := List.getElem?_of_mem ht
    have : atP rows (i, j) = some t := by simp [atP, hi, hj]
    exact ⟨(i, j), (hK.all _).2 ⟨t, this⟩, this⟩

theorem outP_sorted {rows : List (List Tc)} {ps : List (Nat × Nat)} (hK : KOut keyT rows ps) : (outP rows ps).Pairwise (fun a b => a.id ≤ b.id) := by
  unfold outP
  refine List.Pairwise.filterMap _ (fun p q hpq a ha b hb => ?_) hK.sorted
  obtain ⟨x, y, h1, h2, h3⟩ := hpq
  rw [h1] at ha; rw [h2] at hb
  cases ha; cases hb
  have h4 : (a.id : Int) < (b.id : Int) ∨ (a.id : Int) = (b.id : Int) ∧ (p.1 < q.1 ∨ p.1 = q.1 ∧ p.2 < q.2) := h3
  omega

/-- MERGED, ROW BY ROW: THE GROUPS OF ALL SPANS -/
theorem merged_is {rows : List (List Tc)} {ps : List (Nat × Nat)} (hc : Canon rows) (hK : KOut keyT rows ps) : mergeT (outP rows ps) = groupL (spansP rows) := by
  have hm := mergeT_is _ (outP_sorted hK)
  have hcan : ∀ t, t ∈ outP rows ps → ∃ r ∈ rows, t ∈ r ∧ 1 ≤ t.sp.length ∧ (∀ s ∈ t.sp, s.tr = t.id) := by
    intro t ht
    obtain ⟨r, hr, htr⟩ := (outP_mem hK t).1 ht
    obtain ⟨i, hi⟩ := List.getElem?_of_mem htr
    obtain ⟨h1, _, h3, _⟩ := ris_at (hc r hr) hi
    exact ⟨r, hr, htr, h1, fun s hs => (h3 s hs).2⟩
  have hsp : ∀ s, s ∈ spansP rows ↔ ∃ t ∈ outP rows ps, s ∈ t.sp := by
    intro s
    unfold spansP
    simp only [List.mem_flatMap]
    constructor
    · rintro ⟨r, hr, t, ht, hs⟩
      exact ⟨t, (outP_mem hK t).2 ⟨r, hr, ht⟩, hs⟩
    · rintro ⟨t, ht, hs⟩
      obtain ⟨r, hr, htr⟩ := (outP_mem hK t).1 ht
      exact ⟨r, hr, t, htr, hs⟩
  refine GroupOf.uniq (l := spansP rows) (ids := fun id => ∃ s ∈ spansP rows, s.tr = id) ⟨hm.sorted, fun u hu => ?_, fun x => ?_⟩ (group_is _)
  · rw [hm.sp u hu, gather_of]
    refine gather_set fun s => ?_
    unfold ofI ofT
    rw [List.mem_filter, List.mem_flatMap, hsp]
    simp only [List.mem_filter, decide_eq_true_eq]
    constructor
    · rintro ⟨t, ⟨ht, hid⟩, hs⟩
      obtain ⟨_, _, _, _, h4⟩ := hcan t ht
      exact ⟨⟨t, ht, hs⟩, by simp [offT, h4 s hs, hid]⟩
    · rintro ⟨⟨t, ht, hs⟩, ho⟩
      obtain ⟨_, _, _, _, h4⟩ := hcan t ht
      have h0 : (s.tr : Int) = (u.id : Int) := by simpa [offT] using ho
      have : s.tr = u.id := by omega
      exact ⟨t, ⟨ht, by rw [← h4 s hs, this]⟩, hs⟩
  · rw [hm.ids]
    constructor
    · rintro ⟨t, ht, rfl⟩
      obtain ⟨_, _, _, h1, h4⟩ := hcan t ht
      have : t.sp ≠ [] := fun e => by rw [e] at h1; simp at h1
      obtain ⟨s, hs⟩ := List.exists_mem_of_ne_nil _ this
      exact ⟨s, (hsp s).2 ⟨t, ht, hs⟩, h4 s hs⟩
    · rintro ⟨s, hs, rfl⟩
      obtain ⟨t, ht, hst⟩ := (hsp s).1 hs
      obtain ⟨_, _, _, _, h4⟩ := hcan t ht
      exact ⟨t, ht, (h4 s hst).symm⟩

end Go.VL

namespace Go.VL

open Go.Proofs

abbrev tcC (t : Tc) : List AV := [.int .u64 (t.id : Int), .sl (spsAV t.sp) .none]

theorem tcC_len (t : Tc) : (tcC t).length = 2 := rfl

theorem xsT_tcs (l : List Tc) : xsAVT l = tcsAV l := rfl

/-- what is put out so far -/
def OutS (σ t : St) (out : List Tc) (x : AV) : Prop := Like σ t ∧ ((x = .sl [] .nil ∧ out = []) ∨ ∃ nm, out ≠ [] ∧ x = .refr nm 2 out.length ∧ t.res nm = some (.obj (out.flatMap tcC)) ∧ σ.next ≤ nm ∧ nm < t.next)

theorem mergeT_sp (l : List Tc) : ∀ u ∈ mergeT l, u.sp.length ≤ (l.flatMap Tc.sp).length ∧ ∀ s ∈ u.sp, s ∈ l.flatMap Tc.sp := by
  have key : ∀ n (l : List Tc), l.length = n → ∀ u ∈ mergeT l, u.sp.length ≤ (l.flatMap Tc.sp).length ∧ ∀ s ∈ u.sp, s ∈ l.flatMap Tc.sp := by
    intro n
    induction n with
    | zero =>
      intro l hl
      have : l = [] := List.eq_nil_of_length_eq_zero hl
      subst this
      intro u hu; cases hu
    | succ n ih =>
      intro l hl
      have hne : l ≠ [] := by intro e; subst e; simp at hl
      have hs : l = l.dropLast ++ [l.getLast hne] := (List.dropLast_concat_getLast hne).symm
      have ih' := ih l.dropLast (by rw [List.length_dropLast]; omega)
      generalize l.getLast hne = t at hs
      generalize l.dropLast = p at hs ih'
      subst hs
      rw [mergeT_snoc, List.flatMap_append]
      have ht : ([t].flatMap Tc.sp) = t.sp := by simp
      rw [ht]
      have hnew : ∀ u : Tc, u.sp = gatherL t.sp → u.sp.length ≤ (p.flatMap Tc.sp ++ t.sp).length ∧ ∀ s ∈ u.sp, s ∈ p.flatMap Tc.sp ++ t.sp := fun u hu => by
        rw [hu]
        refine ⟨?_, fun s hs => List.mem_append_right _ ((gather_mem _ s).1 hs).1⟩
        have := gather_len t.sp
        rw [List.length_append]; omega
      have hold : ∀ u ∈ mergeT p, u.sp.length ≤ (p.flatMap Tc.sp ++ t.sp).length ∧ ∀ s ∈ u.sp, s ∈ p.flatMap Tc.sp ++ t.sp := fun u hu => by
        obtain ⟨h1, h2⟩ := ih' u hu
        exact ⟨by rw [List.length_append]; omega, fun s hs => List.mem_append_left _ (h2 s hs)⟩
      intro u hu
      unfold stepM at hu
      split at hu
      · rename_i v hv
        have hvm : v ∈ mergeT p := List.mem_of_getLast? hv
        split at hu
        · rcases List.mem_append.1 hu with hu | hu
          · exact hold u (List.dropLast_subset _ hu)
          · simp only [List.mem_singleton] at hu; subst hu
            obtain ⟨h1, h2⟩ := ih' v hvm
            refine ⟨?_, fun s hs => ?_⟩
            · have := gather_len (v.sp ++ t.sp)
              rw [List.length_append] at this ⊢
              show (gatherL (v.sp ++ t.sp)).length ≤ _
              omega
            · have := ((gather_mem _ s).1 hs).1
              rcases List.mem_append.1 this with h | h
              · exact List.mem_append_left _ (h2 s h)
              · exact List.mem_append_right _ h
        · rcases List.mem_append.1 hu with hu | hu
          · exact hold u hu
          · simp only [List.mem_singleton] at hu; subst hu; exact hnew _ rfl
      · simp only [List.mem_singleton] at hu; subst hu; exact hnew _ rfl
  exact key _ l rfl

theorem mergeT_len (l : List Tc) : (mergeT l).length ≤ l.length := by
  have key : ∀ (l out : List Tc), (l.foldl stepM out).length ≤ out.length + l.length := by
    intro l
    induction l with
    | nil => intro out; simp
    | cons t l ih =>
      intro out
      have h1 := ih (stepM out t)
      have h2 : (stepM out t).length ≤ out.length + 1 := by
        unfold stepM
        split
        · split
          · rw [List.length_append, List.length_dropLast, List.length_singleton]; omega
          · rw [List.length_append, List.length_singleton]; omega
        · simp
      simp only [List.foldl_cons, List.length_cons]; omega
  have := key l []
  simpa [mergeT] using this

theorem splice_last (P : List AV) (a b c : AV) : splice (P ++ [a, b]) (P.length + 1) [c] = P ++ [a, c] := by
  unfold splice
  have e1 : (P ++ [a, b]).take (P.length + 1) = P ++ [a] := by
    rw [show P ++ [a, b] = (P ++ [a]) ++ [b] by simp, List.take_append_of_le_length (by simp), List.take_of_length_le (by simp)]
  have e2 : (P ++ [a, b]).drop (P.length + 1 + [c].length) = [] := List.drop_eq_nil_of_le (by simp)
  rw [e1, e2]; simp

theorem last_cell0 (P : List AV) (a b : AV) : (P ++ [a, b])[P.length]? = some a := by simp

theorem last_cell1 (P : List AV) (a b : AV) : (P ++ [a, b])[P.length + 1]? = some b := by simp

theorem Wk.refr (n k len : Nat) : Wk (.refr n k len) (.ref n 0 len) := fun _ _ _ h => by
  obtain ⟨cap, rfl, h1, h2, _⟩ := h.refr_inv
  exact .ref n 0 len cap h2 h1

theorem Wks.set {x y : AV} (hw : Wk x y) : ∀ {ρ : List AV} {i : Nat}, ρ[i]? = some x → Wks ρ (ρ.set i y)
  | [], _, h => by simp at h
  | a :: ρ, 0, h => by simp at h; subst h; exact .cons hw (.refl ρ)
  | a :: ρ, i + 1, h => by simpa using Wks.cons (.refl a) (Wks.set hw (ρ := ρ) (i := i) (by simpa using h))

/-- an owned row with room is told to be a value -/
theorem Gh.frozen {ρ : List AV} {σ : St} {t n k len kk : Nat} {cs xs : List AV} (ht : ρ[t]? = some (.refr n k len)) (hr : σ.res n = some (.obj cs)) (hlen : xs.length = len) (hk : ∀ x ∈ xs, x.cells.length = kk)
    (hx : xs.flatMap AV.cells = cs.take (len * kk)) : Gh ρ σ (ρ.set t (.sl xs .none)) (σ.del n) := by
  have h1 : Gh ρ σ (ρ.set t (.ref n 0 len)) σ := .env (.set (.refr n k len) ht)
  have htl := (List.getElem?_eq_some_iff.1 ht).1
  have h2 := Gh.freeze (ρ := ρ.set t (.ref n 0 len)) (t := t) (off := 0) (k := kk) (xs := xs) (by rw [List.getElem?_set_self htl]) hr hlen hk (by simpa using hx) (Nat.zero_le _)
  rw [List.set_set] at h2
  exact h1.trans h2

theorem tcs_flat (l : List Tc) : (tcsAV l).flatMap AV.cells = l.flatMap tcC := by
  induction l with
  | nil => rfl
  | cons t l ih => simp only [tcsAV, List.map_cons, List.flatMap_cons] at ih ⊢; rw [ih]; rfl

/-- what is told of merged rows -/
def mergeR (rows : List (List Tc)) : AV :=
  if rows.all risB then (if risB (groupL (spansP rows)) then .tup [.sl (tcsAV (groupL (spansP rows))) .none, .nili] else .tup [.sl [] .nil, .iface tCode (.int .i64 3)]) else .tup [.sl [] .nil, .iface tCode (.int .i64 1)]

theorem flat_bound {l : List Tc} (h : ∀ t ∈ l, t.sp.length ≤ 100) : (l.flatMap Tc.sp).length ≤ 100 * l.length := by
  induction l with
  | nil => simp
  | cons t l ih =>
    have h1 := h t (by simp)
    have h2 := ih (fun t ht => h t (List.mem_cons_of_mem _ ht))
    simp only [List.flatMap_cons, List.length_append, List.length_cons]; omega

/-- the end of a round: the last one gets the spans -/
abbrev c_kmtail : C := (.reg [⟨(some 51), (.mv (.t 6)), none⟩, ⟨(some 52), (.mv (.t 9)), none⟩, ⟨(some 53), (.mv (.t 6)), none⟩, ⟨(some 54), (.mv (.t 9)), none⟩, ⟨(some 55), (.iaddr 2 (.t 53) (.t 54)), none⟩, ⟨(some 56), (.faddr 1 (.t 55)), none⟩, ⟨(some 57), (.load none (.t 56)), none⟩, ⟨(some 58), (.faddr 1 (.t 8)), none⟩, ⟨(some 59), (.load none (.t 58)), none⟩, ⟨(some 60), (.qcall n_tmerge [(.t 57), (.t 59)]), none⟩, ⟨(some 61), (.iaddr 2 (.t 51) (.t 52)), none⟩, ⟨(some 62), (.faddr 1 (.t 61)), none⟩, ⟨none, (.store 1 (.t 62) (.t 60)), none⟩])

set_option maxRecDepth 10000 in
theorem ktail_ok {S : List Tc} {i b nm id : Nat} {pre : List Tc} {a : List Sp} {y : Tc} {t2 u1 : St} {Q : Ex → List AV → St → Prop} (ha : a.length ≤ 90000) (hda : ∀ s ∈ a, s.da.length ≤ 1099511627776) (hy : y.sp.length ≤ 100) (hdy : ∀ s ∈ y.sp, s.da.length ≤ 1099511627776) (hpl : pre.length ≤ 1000)
    (hr : u1.res nm = some (.obj (pre.flatMap tcC ++ [.int .u64 (id : Int), .sl (spsAV a) .none]))) (hb : u1.res b = some (.obj (tcC y))) (hL : Like t2 u1) (hnm : t2.next ≤ nm) (hn : nm < u1.next)
    (hq : ∀ ρ2 u2, keep [6, 22, 23, 24] 0 ρ2 = [.any, .any, .any, .any, .any, .any, .refr nm 2 (pre.length + 1), .any, .any, .any, .any, .any, .any, .any, .any, .any, .any, .any, .any, .any, .any, .any, .sl (tcsAV S) .none, .int .i64 (S.length : Int), .int .i64 (i : Int)] ++ List.replicate 44 .any →
      u2.res nm = some (.obj ((pre ++ [(⟨id, gatherL (a ++ y.sp)⟩ : Tc)]).flatMap tcC)) → Like t2 u2 → nm < u2.next → Q .normal ρ2 u2) :
    T Try.prog ann_kmerge c_kmtail Q ([.any, .any, .any, .any, .any, .any, .refr nm 2 (pre.length + 1), .any, .ptr b 0, .int .i64 (pre.length : Int), .any, .any, .any, .any, .any, .any, .any, .any, .any, .any, .any, .any, .sl (tcsAV S) .none, .int .i64 (S.length : Int), .int .i64 (i : Int)] ++ List.replicate 44 .any) u1 := by
  have hPl : (pre.flatMap tcC).length = pre.length * 2 := flatk_len tcC_len pre
  have hc1 := last_cell1 (pre.flatMap tcC) (.int .u64 (id : Int)) (.sl (spsAV a) .none)
  have hsp := splice_last (pre.flatMap tcC) (.int .u64 (id : Int)) (.sl (spsAV a) .none) (.sl (spsAV (gatherL (a ++ y.sp))) .none)
  rw [hPl] at hc1 hsp
  have hlt : pre.length < pre.length + 1 := by omega
  have hltI : (pre.length : Int) < ((pre.length + 1 : Nat) : Int) := by omega
  have hlen : pre.length * 2 + 1 + 1 ≤ (pre.flatMap tcC ++ [AV.int .u64 (id : Int), .sl (spsAV a) .none]).length := by rw [List.length_append, hPl]; simp
  refine T.regt hm (tbl := []) Tbl.ok_nil ?_
  refine aopsT_cut 10 (fun K_c h_c => ?_)
  try simp only [↓reduceIte, namesOf, List.any, I.names, aopsT, qstep, qget, Tbl.get, astep, ev, setd, List.set, List.getD, List.getElem?_cons_zero, List.getElem?_cons_succ, List.cons_append, List.nil_append, List.replicate, Option.getD_some, Bool.or_false, Bool.false_eq_true, up_zero, ↓opt_def, ldc, List.map_cons, List.map_nil, Int.natCast_nonneg, Int.toNat_natCast, and_true, hr, hb, hc1, hltI, Nat.zero_add, List.take]
  refine ⟨_, tmerge_ok (a := a) (b := y.sp) (by omega) (by omega) hda hdy, ?_⟩
  refine h_c _ _ ?_
  clear h_c K_c
  simp only [List.drop_succ_cons, List.drop_zero, Nat.zero_add]
  try simp only [↓reduceIte, aopsT, qstep, astep, ev, setd, List.set, List.getD, List.getElem?_cons_zero, List.getElem?_cons_succ, List.length_cons, List.length_nil, Option.getD_some, Nat.reduceAdd, AV.isAny, AV.cells, Int.natCast_nonneg, Int.toNat_natCast, and_true, eq_self, decide_true, hr, hltI, hsp, hlen, AV.fits, AV.one, List.all_cons, List.all_nil, Nat.reduceBEq, Bool.not_false, Bool.and_self, decide_true]
  refine hq _ _ rfl ?_ (hL.set _ hnm) hn
  rw [St.set_same, List.flatMap_append]; rfl

set_option maxRecDepth 10000 in
set_option maxHeartbeats 2000000 in
theorem kmerge_ok {rows : List (List Tc)} {g : Ver} {σ : St} (hrn : rows.length ≤ 1000) (htot : (rows.map List.length).sum ≤ 900) (hrl : ∀ r ∈ rows, r.length ≤ 1000000)
    (hsl : ∀ r ∈ rows, ∀ t ∈ r, t.sp.length ≤ 9223372036854775807) (hda : ∀ r ∈ rows, ∀ t ∈ r, ∀ s ∈ t.sp, s.da.length ≤ 1099511627776) :
    ACalls Try.prog n_kmerge [.sl (pgsAV rows) g] σ (fun v σ' => v = mergeR rows ∧ σ' = σ) := by
  refine s_kmerge (fun wf => ?_)
  unfold c_kmerge
  refine T.seq_k (fun K_h0 h0 => ?_)
  refine T.regi hm ?_
  simp only [↓reduceIte, namesOf, List.any, I.names, aopsI, astep, ev, setd, List.set, List.cons_append, List.nil_append, List.length_cons, List.length_nil, List.replicate, then_normal, Bool.or_false, Bool.false_eq_true, up_zero, Nat.reduceAdd, Nat.reduceSub]
  refine h0 _ _ ?_
  try clear h0 K_h0
  refine T.seq_k (fun K_h1 h1 => ?_)
  refine T.seq_k (fun K_h0 h0 => ?_)
  refine T.regi hm ?_
  simp only [↓reduceIte, namesOf, List.any, I.names, aopsI, astep, ev, setd, List.set, List.getD, List.getElem?_cons_zero, List.getElem?_cons_succ, then_normal, Option.getD_some, Bool.or_false, Bool.false_eq_true, up_zero, pgs_len]
  refine h0 _ _ ?_
  try clear h0 K_h0
  refine T.block ?_
  refine T.gh (Gh.keep [0, 10, 11, 12]) ?_
  refine T.loopi (fun i ρ t => t = σ ∧ (rows.take i).all risB = true ∧ ρ = [.sl (pgsAV rows) g, .any, .any, .any, .any, .any, .any, .any, .any, .any, .sl (pgsAV rows) g, .int .i64 (rows.length : Int), .int .i64 (i : Int)] ++ List.replicate 56 .any)
    rows.length 0 (Nat.zero_le _) ⟨rfl, rfl, rfl⟩ ?_
  rintro i ρ t hi ⟨rfl, hpre, rfl⟩
  refine T.seq_k (fun K_h0 h0 => ?_)
  refine T.regi hm ?_
  simp only [↓reduceIte, namesOf, List.any, I.names, aopsI, astep, ev, setd, List.set, List.getD, List.getElem?_cons_zero, List.getElem?_cons_succ, List.cons_append, List.nil_append, List.replicate, then_normal, Option.getD_some, Bool.or_false, Bool.false_eq_true, up_zero, binv, ↓opt_def, lt_len, eq_self]
  refine h0 _ _ ?_
  try clear h0 K_h0
  refine T.seq_k (fun K_h2 h2 => ?_)
  by_cases hil : i < rows.length
  · refine T.cond (b := true) (by simp [ev]; omega) (fun _ => T.skip ?_) (fun h => by cases h)
    refine h2 _ _ ?_
    try clear h2 K_h2
    have hw := inc64' hil (by omega)
    have hg := pgs_get hil
    have hrm := List.getElem_mem hil
    have hrli := hrl _ hrm
    have hsli := hsl _ hrm
    refine T.seq_k (fun K_h2 h2 => ?_)
    refine T.block ?_
    refine T.seq_k (fun K_h0 h0 => ?_)
    refine T.regi hm ?_
    simp only [↓reduceIte, namesOf, List.any, I.names, aopsI, astep, ev, setd, List.set, List.getD, List.getElem?_cons_zero, List.getElem?_cons_succ, List.cons_append, List.nil_append, List.length_cons, List.length_nil, List.replicate, then_normal, Option.getD_some, Bool.or_false, Bool.false_eq_true, up_zero, ↓opt_def, AV.cells, ldc, Int.natCast_nonneg, lt_len, Int.toNat_natCast, true_and, and_true, eq_self, decide_true, hil, pgs_len, hg, Nat.zero_add]
    refine h0 _ _ ?_
    try clear h0 K_h0
    refine T.seq_k (fun K_h3 h3 => ?_)
    refine T.regi hm ?_
    simp only [↓reduceIte, namesOf, List.any, I.names, aopsI, astep, ev, setd, List.set, List.getD, List.getElem?_cons_zero, List.getElem?_cons_succ, List.cons_append, List.nil_append, List.replicate, then_normal, Option.getD_some, Bool.or_false, Bool.false_eq_true, up_zero, List.map_cons, List.map_nil]
    refine (is_ok (l := rows[i]) (by omega) hsli).mono ?_
    rintro v t2 ⟨rfl, rfl⟩
    rw [is_doc]
    try simp only []
    refine h3 _ _ ?_
    try clear h3 K_h3
    cases hr : risB rows[i] with
    | false =>
      refine T.cond rfl (fun _ => ?_) (fun h => by cases h)
      refine T.seq_k (fun K_h0 h0 => ?_)
      refine T.regi hm ?_
      simp only [↓reduceIte, namesOf, List.any, I.names, aopsI, astep, ev, setd, List.set, List.getD, List.getElem?_cons_zero, List.getElem?_cons_succ, List.cons_append, List.nil_append, List.replicate, then_normal, Option.getD_some, Bool.or_false, Bool.false_eq_true, up_zero]
      refine h0 _ _ ?_
      try clear h0 K_h0
      refine T.ret (Fin.ret rfl ⟨?_, rfl⟩)
      have : rows.all risB = false := all_ff hil hr
      simp [pack, mergeR, this]
    | true =>
      refine T.cond rfl (fun h => by cases h) (fun _ => T.skip ?_)
      try simp only [List.cons_append, List.nil_append, List.replicate, then_normal, inBlock_normal, inBlock_normal]
      refine h2 _ _ ?_
      try clear h2 K_h2
      refine T.regi hm ?_
      simp only [↓reduceIte, namesOf, List.any, I.names, aopsI, astep, ev, setd, List.set, List.getD, List.getElem?_cons_zero, List.getElem?_cons_succ, List.cons_append, List.nil_append, List.replicate, then_normal, Option.getD_some, Bool.or_false, Bool.false_eq_true, up_zero, binv, ↓opt_def, eq_self, hw]
      exact ⟨hil, _, _, Gh.keep [0, 10, 11, 12], rfl, take_all hil hpre hr, rfl⟩
  · refine T.cond (b := false) (by simp [ev]; omega) (fun h => by cases h) (fun _ => T.exit ?_)
    have hie : i = rows.length := by omega
    subst hie
    rw [List.take_length] at hpre
    have hc : Canon rows := fun r hr => List.all_eq_true.1 hpre r hr
    try simp only [List.cons_append, List.nil_append, List.replicate, then_normal, inBlock_exit, then_exit]
    refine h1 _ _ ?_
    try clear h1 K_h1
    refine T.seq_k (fun K_h0 h0 => ?_)
    refine T.regi hm ?_
    simp only [↓reduceIte, namesOf, List.any, I.names, aopsI, astep, ev, setd, List.set, then_normal, Bool.or_false, Bool.false_eq_true, up_zero]
    refine h0 _ _ ?_
    try clear h0 K_h0
    refine T.seq_k (fun K_h1 h1 => ?_)
    refine T.seq_k (fun K_h2 h2 => ?_)
    refine T.regi hm ?_
    simp only [↓reduceIte, namesOf, List.any, I.names, aopsI, astep, ev, setd, List.set, List.getD, List.getElem?_cons_zero, List.getElem?_cons_succ, then_normal, Option.getD_some, Bool.or_false, Bool.false_eq_true, up_zero, List.map_cons, List.map_nil]
    refine (ksortT_ok (rows := rows) hc.rising hrn hrl (by omega)).mono ?_
    rintro v t2 ⟨ps, hK, rfl, rfl⟩
    have hS := merged_is hc hK
    have hSn : (outP rows ps).length ≤ 900 := Nat.le_trans (outP_le ps) (Nat.le_trans hK.len htot)
    have hSm : ∀ t ∈ outP rows ps, t.sp.length ≤ 100 ∧ ∀ s ∈ t.sp, s.da.length ≤ 1099511627776 := fun t ht => by
      obtain ⟨r, hr, htr⟩ := (outP_mem hK t).1 ht
      obtain ⟨j, hj⟩ := List.getElem?_of_mem htr
      exact ⟨(ris_at (hc r hr) hj).2.1, hda r hr t htr⟩
    rw [xsT_tcs]
    generalize outP rows ps = S at hS hSn hSm
    try simp only [tcs_len]
    refine h2 _ _ ?_
    try clear h2 K_h2
    refine T.block ?_
    refine T.gh (Gh.keep [6, 22, 23, 24]) ?_
    refine T.loopi (fun i ρ t => ∃ x, OutS t2 t (mergeT (S.take i)) x ∧ ρ = [.any, .any, .any, .any, .any, .any, x, .any, .any, .any, .any, .any, .any, .any, .any, .any, .any, .any, .any, .any, .any, .any, .sl (tcsAV S) .none, .int .i64 (S.length : Int), .int .i64 (i : Int)] ++ List.replicate 44 .any)
      S.length 0 (Nat.zero_le _) ⟨_, ⟨.refl _, .inl ⟨rfl, rfl⟩⟩, rfl⟩ ?_
    rintro i ρ t hi2 ⟨x, ⟨hL, hO⟩, rfl⟩
    refine T.seq_k (fun K_h0 h0 => ?_)
    refine T.regi hm ?_
    simp only [↓reduceIte, namesOf, List.any, I.names, aopsI, astep, ev, setd, List.set, List.getD, List.getElem?_cons_zero, List.getElem?_cons_succ, List.cons_append, List.nil_append, List.replicate, then_normal, Option.getD_some, Bool.or_false, Bool.false_eq_true, up_zero, binv, ↓opt_def, lt_len, eq_self]
    refine h0 _ _ ?_
    try clear h0 K_h0
    refine T.seq_k (fun K_h2 h2 => ?_)
    by_cases hil : i < S.length
    · refine T.cond (b := true) (by simp [ev]; omega) (fun _ => T.skip ?_) (fun h => by cases h)
      refine h2 _ _ ?_
      try clear h2 K_h2
      have hw := inc64' hil (by omega)
      have hg := tcs_get hil
      have hst : mergeT (S.take (i + 1)) = stepM (mergeT (S.take i)) S[i] := by rw [List.take_succ_eq_append_getElem hil, mergeT_snoc]
      obtain ⟨hy1, hy2⟩ := hSm _ (List.getElem_mem hil)
      have hfb := flat_bound (l := S.take i) (fun t ht => (hSm t (List.mem_of_mem_take ht)).1)
      have hbd : ∀ u ∈ mergeT (S.take i), u.sp.length ≤ 90000 ∧ ∀ s ∈ u.sp, s.da.length ≤ 1099511627776 := fun u hu => by
        obtain ⟨h1, h2⟩ := mergeT_sp (S.take i) u hu
        rw [List.length_take] at hfb
        refine ⟨by omega, fun s hs => ?_⟩
        have := h2 s hs
        rw [List.mem_flatMap] at this
        obtain ⟨t, ht, hst⟩ := this
        exact (hSm t (List.mem_of_mem_take ht)).2 s hst
      have hol := mergeT_len (S.take i)
      rw [List.length_take] at hol
      generalize S[i] = y at hg hst hy1 hy2
      generalize mergeT (S.take i) = out at hst hbd hol hO
      rw [tcav'] at hg
      refine T.seq_k (fun K_h2 h2 => ?_)
      refine T.block ?_
      refine T.seq_k (fun K_h3 h3 => ?_)
      refine T.regi hm ?_
      simp only [↓reduceIte, namesOf, List.any, I.names, aopsI, astep, ev, setd, List.set, List.getD, List.getElem?_cons_zero, List.getElem?_cons_succ, List.cons_append, List.nil_append, List.length_cons, List.length_nil, List.replicate, then_normal, Option.getD_some, Bool.or_false, Bool.or_true, Nat.reduceAdd, ↓opt_def, AV.isAny, AV.cells, ldc, St.set_same, Int.natCast_nonneg, lt_len, Int.toNat_natCast, true_and, and_true, eq_self, decide_true, hil, tcs_len, hg, AV.fits, AV.one, List.all_cons, List.all_nil, Nat.reduceBEq, Bool.not_false, Bool.and_self, Nat.zero_add, splice, List.take, List.drop, Nat.reduceLeDiff, St.set_set]
      have hb : ((t.up 4).set (t.next + 2) (.obj (tcC y))).res (t.next + 2) = some (.obj (tcC y)) := St.set_same _ _ _
      have hL1 : Like t2 ((t.up 4).set (t.next + 2) (.obj (tcC y))) := hL.box (n := 4) (i := 2) _
      have hO1 : (x = .sl [] .nil ∧ out = []) ∨ ∃ nm, out ≠ [] ∧ x = .refr nm 2 out.length ∧ ((t.up 4).set (t.next + 2) (.obj (tcC y))).res nm = some (.obj (out.flatMap tcC)) ∧ t2.next ≤ nm ∧ nm < t.next + 2 := by
        rcases hO with h | ⟨nm, h1, h2, h3, h4, h5⟩
        · exact .inl h
        · exact .inr ⟨nm, h1, h2, by rw [St.set_other _ _ (by omega)]; exact h3, h4, by omega⟩
      have hbn : t.next + 2 < ((t.up 4).set (t.next + 2) (.obj (tcC y))).next := by simp
      have hbl : t2.next ≤ t.next + 2 := by have := hL.next; omega
      generalize ((t.up 4).set (t.next + 2) (.obj (tcC y))) = u at hb hL1 hO1 hbn ⊢
      generalize t.next + 2 = b at hb hO1 hbn hbl ⊢
      clear hO hL
      refine h3 _ _ ?_
      try clear h3 K_h3
      refine T.seq_k (fun K_h3 h3 => ?_)
      have hfin : ∀ (pre : List Tc) (id : Nat) (a : List Sp) (nm : Nat), stepM out y = pre ++ [⟨id, gatherL (a ++ y.sp)⟩] → t2.next ≤ nm → ∀ (ρ2 : List AV) (u2 : St), keep [6, 22, 23, 24] 0 ρ2 = [.any, .any, .any, .any, .any, .any, .refr nm 2 (pre.length + 1), .any, .any, .any, .any, .any, .any, .any, .any, .any, .any, .any, .any, .any, .any, .any, .sl (tcsAV S) .none, .int .i64 (S.length : Int), .int .i64 (i : Int)] ++ List.replicate 44 .any →
          u2.res nm = some (.obj ((pre ++ [(⟨id, gatherL (a ++ y.sp)⟩ : Tc)]).flatMap tcC)) → Like t2 u2 → nm < u2.next → K_h2 ρ2 u2 := by
        intro pre id a nm hstep hnm ρ2 u2 hk hr hl hn
        refine h2 _ _ ?_
        refine T.gh (Gh.keep [6, 22, 23, 24]) ?_
        rw [hk]
        refine T.regi hm ?_
        simp only [↓reduceIte, namesOf, List.any, I.names, aopsI, astep, ev, setd, List.set, List.getD, List.getElem?_cons_zero, List.getElem?_cons_succ, List.cons_append, List.nil_append, List.replicate, then_normal, Option.getD_some, Bool.or_false, Bool.false_eq_true, up_zero, binv, ↓opt_def, eq_self, hw]
        refine ⟨hil, _, _, Gh.keep [6, 22, 23, 24], _, ⟨hl, .inr ⟨nm, ?_, rfl, ?_, hnm, hn⟩⟩, ?_⟩
        · rw [hst, hstep]; simp
        · rw [hst, hstep]; exact hr
        · rw [hst, hstep]; simp [keep]
      have hbu : ∀ k, (u.up k).res b = some (.obj (tcC y)) := fun _ => hb
      rcases hO1 with ⟨rfl, rfl⟩ | ⟨nm, hne, rfl, hr, hn1, hn2⟩
      · have e1 : IntKind.i64.wrap (((0 : Nat) : Int) - 1) = -1 := by decide
        have e2 : decide ((-1 : Int) < 0) = true := rfl
        have e3 : IntKind.i64.wrap ((-1 : Int) + 1) = 0 := by decide
        refine T.regi hm ?_
        simp only [↓reduceIte, namesOf, List.any, I.names, aopsI, astep, ev, setd, List.set, List.getD, List.getElem?_cons_zero, List.getElem?_cons_succ, List.cons_append, List.nil_append, List.length_nil, List.replicate, then_normal, Option.getD_some, Bool.or_false, Bool.false_eq_true, up_zero, binv, ↓opt_def, eq_self, e1]
        refine h3 _ _ ?_
        try clear h3 K_h3
        refine T.seq_k (fun K_h3 h3 => ?_)
        refine T.seq_k (fun K_h0 h0 => ?_)
        refine T.regi hm ?_
        simp only [↓reduceIte, namesOf, List.any, I.names, aopsI, astep, ev, setd, List.set, List.getD, List.getElem?_cons_zero, List.getElem?_cons_succ, List.cons_append, List.nil_append, List.replicate, then_normal, Option.getD_some, Bool.or_false, Bool.false_eq_true, up_zero, binv, ↓opt_def, eq_self, reduceCtorEq, e2]
        refine h0 _ _ ?_
        try clear h0 K_h0
        refine T.cond rfl (fun _ => ?_) (fun h => by cases h)
        refine T.seq_k (fun K_h4 h4 => ?_)
        refine T.regi hm ?_
        simp only [↓reduceIte, namesOf, List.any, I.names, aopsI, astep, ev, setd, List.set, List.getD, List.getElem?_cons_zero, List.getElem?_cons_succ, List.cons_append, List.nil_append, List.length_cons, List.length_nil, List.replicate, then_normal, Option.getD_some, Bool.or_false, Bool.or_true, Bool.false_eq_true, Nat.reduceAdd, ↓opt_def, AV.isAny, AV.cells, ldc, List.map_cons, List.map_nil, eq_self, srcR, hbu, fillA, ↓Option.map_some, held, srcOf, AV.er, AV.er1, Ver.noRoom, AV.fits, AV.one, List.all_cons, List.all_nil, Nat.reduceBEq, Bool.not_false, Bool.and_self, Nat.zero_add, splice, List.take, List.drop, Nat.reduceLeDiff, Nat.one_mul, and_self, List.isEmpty, List.flatMap_cons, List.flatMap_nil, List.append_nil]
        have hb2 : ((u.up 7).set (u.next + 5) (.obj [.int .u64 (y.id : Int), .sl [] .none])).res b = some (.obj (tcC y)) := by rw [St.set_other _ _ (by omega)]; exact hb
        have hr2 : ((u.up 7).set (u.next + 5) (.obj [.int .u64 (y.id : Int), .sl [] .none])).res (u.next + 5) = some (.obj [.int .u64 (y.id : Int), .sl [] .none]) := St.set_same _ _ _
        have hL2 : Like t2 ((u.up 7).set (u.next + 5) (.obj [.int .u64 (y.id : Int), .sl [] .none])) := hL1.box (n := 7) (i := 5) _
        have hn2 : u.next + 5 < ((u.up 7).set (u.next + 5) (.obj [.int .u64 (y.id : Int), .sl [] .none])).next := by simp
        have hlo2 : t2.next ≤ u.next + 5 := by have := hL1.next; omega
        generalize ((u.up 7).set (u.next + 5) (.obj [.int .u64 (y.id : Int), .sl [] .none])) = u1 at hb2 hr2 hL2 hn2 ⊢
        generalize u.next + 5 = nm at hr2 hn2 hlo2 ⊢
        refine h4 _ _ ?_
        try clear h4 K_h4
        refine T.regi hm ?_
        simp only [↓reduceIte, namesOf, List.any, I.names, aopsI, astep, ev, setd, List.set, List.getD, List.getElem?_cons_zero, List.getElem?_cons_succ, List.cons_append, List.nil_append, List.replicate, then_normal, Option.getD_some, Bool.or_false, Bool.false_eq_true, up_zero, binv, ↓opt_def, eq_self, e3]
        refine h3 _ _ ?_
        refine T.gh (Gh.keep [6, 8, 9, 22, 23, 24]) ?_
        exact ktail_ok (S := S) (i := i) (pre := []) (a := []) (id := y.id) (by simp) (fun s hs => by cases hs) hy1 hy2 (by simp) hr2 hb2 hL2 hlo2 hn2 (hfin [] y.id [] nm rfl hlo2)
      · obtain ⟨pre, v, rfl⟩ : ∃ pre v, out = pre ++ [v] := ⟨out.dropLast, out.getLast hne, (List.dropLast_concat_getLast hne).symm⟩
        obtain ⟨hv1, hv2⟩ := hbd v (by simp)
        have hgl : (pre ++ [v]).getLast? = some v := by simp
        have hPl : (pre.flatMap tcC).length = pre.length * 2 := flatk_len tcC_len pre
        have hfl : (pre ++ [v]).flatMap tcC = pre.flatMap tcC ++ [.int .u64 (v.id : Int), .sl (spsAV v.sp) .none] := by rw [List.flatMap_append]; rfl
        rw [hfl] at hr
        have hll : (pre ++ [v]).length = pre.length + 1 := by simp
        rw [hll] at hol ⊢
        have hc0 := last_cell0 (pre.flatMap tcC) (.int .u64 (v.id : Int)) (.sl (spsAV v.sp) .none)
        rw [hPl] at hc0
        have e1 : IntKind.i64.wrap (((pre.length + 1 : Nat) : Int) - 1) = (pre.length : Int) := by rw [wrap64 (by omega) (by omega)]; omega
        have e2 : decide ((pre.length : Int) < 0) = false := decide_eq_false (by omega)
        have hltI : (pre.length : Int) < ((pre.length + 1 : Nat) : Int) := by omega
        have hst2 : stepM (pre ++ [v]) y = if v.id = y.id then pre ++ [⟨v.id, gatherL (v.sp ++ y.sp)⟩] else (pre ++ [v]) ++ [⟨y.id, gatherL ([] ++ y.sp)⟩] := by
          unfold stepM; rw [hgl]; simp
        refine T.regi hm ?_
        simp only [↓reduceIte, namesOf, List.any, I.names, aopsI, astep, ev, setd, List.set, List.getD, List.getElem?_cons_zero, List.getElem?_cons_succ, List.cons_append, List.nil_append, List.replicate, then_normal, Option.getD_some, Bool.or_false, Bool.false_eq_true, up_zero, binv, ↓opt_def, eq_self, e1]
        refine h3 _ _ ?_
        try clear h3 K_h3
        refine T.seq_k (fun K_h3 h3 => ?_)
        by_cases hid : v.id = y.id
        · have e3 : ((v.id : Int) != (y.id : Int)) = false := by simp; omega
          rw [if_pos hid] at hst2
          refine T.seq_k (fun K_h0 h0 => ?_)
          refine T.regi hm ?_
          simp only [↓reduceIte, namesOf, List.any, I.names, aopsI, astep, ev, setd, List.set, List.getD, List.getElem?_cons_zero, List.getElem?_cons_succ, List.cons_append, List.nil_append, List.replicate, then_normal, Option.getD_some, Bool.or_false, Bool.false_eq_true, up_zero, binv, ↓opt_def, ldc, Int.natCast_nonneg, Int.toNat_natCast, and_true, eq_self, e2, e3, hr, hb, hc0, hltI, Nat.add_zero]
          refine h0 _ _ ?_
          try clear h0 K_h0
          refine T.cond rfl (fun h => by cases h) (fun _ => T.skip ?_)
          refine h3 _ _ ?_
          refine T.gh (Gh.keep [6, 8, 9, 22, 23, 24]) ?_
          exact ktail_ok (S := S) (i := i) (pre := pre) (a := v.sp) (id := v.id) hv1 hv2 hy1 hy2 (by omega) hr hb hL1 hn1 (by omega) (hfin pre v.id v.sp nm hst2 hn1)
        · have e3 : ((v.id : Int) != (y.id : Int)) = true := by simp; omega
          rw [if_neg hid] at hst2
          refine T.seq_k (fun K_h0 h0 => ?_)
          refine T.regi hm ?_
          simp only [↓reduceIte, namesOf, List.any, I.names, aopsI, astep, ev, setd, List.set, List.getD, List.getElem?_cons_zero, List.getElem?_cons_succ, List.cons_append, List.nil_append, List.replicate, then_normal, Option.getD_some, Bool.or_false, Bool.false_eq_true, up_zero, binv, ↓opt_def, ldc, Int.natCast_nonneg, Int.toNat_natCast, and_true, eq_self, e2, e3, hr, hb, hc0, hltI, Nat.add_zero]
          refine h0 _ _ ?_
          try clear h0 K_h0
          refine T.cond rfl (fun _ => ?_) (fun h => by cases h)
          have hru : ∀ k, (u.up k).res nm = some (.obj (pre.flatMap tcC ++ [.int .u64 (v.id : Int), .sl (spsAV v.sp) .none])) := fun _ => hr
          have hcl : (pre.length + 1) * 2 ≤ (pre.flatMap tcC ++ [AV.int .u64 (v.id : Int), .sl (spsAV v.sp) .none]).length := by rw [List.length_append, hPl]; simp; omega
          have hct : (pre.flatMap tcC ++ [AV.int .u64 (v.id : Int), .sl (spsAV v.sp) .none]).take ((pre.length + 1) * 2) = (pre ++ [v]).flatMap tcC := by
            rw [List.take_of_length_le (by rw [List.length_append, hPl]; simp; omega), hfl]
          have hb1 : (pre.length + 1 + 1) * 32 ≤ 70368744177664 := by omega
          have hb2 : pre.length + 1 + 1 ≤ 4611686018427387904 := by omega
          have e4 : IntKind.i64.wrap ((pre.length : Int) + 1) = ((pre.length + 1 : Nat) : Int) := by rw [wrap64 (by omega) (by omega)]; omega
          refine T.seq_k (fun K_h4 h4 => ?_)
          refine T.regi hm ?_
          simp only [↓reduceIte, namesOf, List.any, I.names, aopsI, astep, ev, setd, List.set, List.getD, List.getElem?_cons_zero, List.getElem?_cons_succ, List.cons_append, List.nil_append, List.length_cons, List.length_nil, List.replicate, then_normal, Option.getD_some, Bool.or_false, Bool.or_true, Nat.reduceAdd, ↓opt_def, AV.isAny, AV.cells, ldc, List.map_cons, List.map_nil, eq_self, srcR, hbu, hru, hcl, hct, hb1, hb2, fillA, ↓Option.map_some, held, srcOf, AV.er, AV.er1, AV.fits, AV.one, List.all_cons, List.all_nil, Nat.reduceBEq, Bool.not_false, Bool.and_self, Nat.zero_add, splice, List.drop, Nat.reduceLeDiff, and_self, List.flatMap_cons, List.flatMap_nil, List.append_nil, List.take_zero]
          have hb3 : (((u.up 7).del nm).set (u.next + 5) (.obj ((pre ++ [v]).flatMap tcC ++ [.int .u64 (y.id : Int), .sl [] .none]))).res b = some (.obj (tcC y)) := by
            rw [St.set_other _ _ (by omega)]
            simp only [St.del]
            rw [if_neg (by omega)]; exact hb
          have hr3 : (((u.up 7).del nm).set (u.next + 5) (.obj ((pre ++ [v]).flatMap tcC ++ [.int .u64 (y.id : Int), .sl [] .none]))).res (u.next + 5) = some (.obj ((pre ++ [v]).flatMap tcC ++ [.int .u64 (y.id : Int), .sl [] .none])) := St.set_same _ _ _
          have hlo3 : t2.next ≤ u.next + 5 := by have := hL1.next; omega
          have hL3 : Like t2 (((u.up 7).del nm).set (u.next + 5) (.obj ((pre ++ [v]).flatMap tcC ++ [.int .u64 (y.id : Int), .sl [] .none]))) := ((hL1.up 7).del hn1).set _ hlo3
          have hn3 : u.next + 5 < (((u.up 7).del nm).set (u.next + 5) (.obj ((pre ++ [v]).flatMap tcC ++ [.int .u64 (y.id : Int), .sl [] .none]))).next := by simp
          generalize (((u.up 7).del nm).set (u.next + 5) (.obj ((pre ++ [v]).flatMap tcC ++ [.int .u64 (y.id : Int), .sl [] .none]))) = u1 at hb3 hr3 hL3 hn3 ⊢
          generalize u.next + 5 = nm2 at hr3 hn3 hlo3 ⊢
          have hll2 : (pre ++ [v]).length = pre.length + 1 := by simp
          refine h4 _ _ ?_
          try clear h4 K_h4
          refine T.regi hm ?_
          simp only [↓reduceIte, namesOf, List.any, I.names, aopsI, astep, ev, setd, List.set, List.getD, List.getElem?_cons_zero, List.getElem?_cons_succ, List.cons_append, List.nil_append, List.replicate, then_normal, Option.getD_some, Bool.or_false, Bool.false_eq_true, up_zero, binv, ↓opt_def, eq_self, e4]
          refine h3 _ _ ?_
          refine T.gh (Gh.keep [6, 8, 9, 22, 23, 24]) ?_
          rw [← hll2]
          exact ktail_ok (S := S) (i := i) (pre := pre ++ [v]) (a := []) (id := y.id) (by simp) (fun s hs => by cases hs) hy1 hy2 (by omega) hr3 hb3 hL3 hlo3 hn3 (hfin (pre ++ [v]) y.id [] nm2 hst2 hlo3)
    · refine T.cond (b := false) (by simp [ev]; omega) (fun h => by cases h) (fun _ => T.exit ?_)
      have hie : i = S.length := by omega
      subst hie
      rw [List.take_length] at hO
      try simp only [List.cons_append, List.nil_append, List.replicate, then_normal, inBlock_exit, then_exit]
      refine h1 _ _ ?_
      try clear h1 K_h1
      refine T.gh (Gh.keep [6]) ?_
      have hgh : ∃ (v : Ver) (u : St), Gh ([.any, .any, .any, .any, .any, .any, x] ++ List.replicate 62 .any) t ([.any, .any, .any, .any, .any, .any, .sl (tcsAV (mergeT S)) v] ++ List.replicate 62 .any) u ∧ ∀ n x, t2.res n = some x → u.res n = some x := by
        rcases hO with ⟨rfl, h⟩ | ⟨nm, _, rfl, h3, h4, h5⟩
        · rw [h]; exact ⟨.nil, t, .refl, hL.quiet wf⟩
        · refine ⟨.none, t.del nm, Gh.frozen (t := 6) (kk := 2) rfl h3 (tcs_len _) (fun x hx => ?_) ?_, fun n x hx => ?_⟩
          · obtain ⟨y, _, rfl⟩ := List.mem_map.1 hx; rfl
          · rw [tcs_flat, List.take_of_length_le (by rw [flatk_len tcC_len]; exact Nat.le_refl _)]
          · have hn := wf.lt hx
            simp only [St.del]
            rw [if_neg (by omega)]; exact hL.quiet wf n x hx
      obtain ⟨v, u, hgh, hqu⟩ := hgh
      refine T.gh hgh ?_
      have hGm : ∀ t ∈ mergeT S, t.sp.length ≤ 9223372036854775807 := fun t ht => by
        have h1 := (mergeT_sp S t ht).1
        have h2 := flat_bound (l := S) (fun t ht => (hSm t ht).1)
        omega
      have hGl := mergeT_len S
      rw [hS] at hGm hGl ⊢
      refine T.seq_k (fun K_h1 h1 => ?_)
      refine T.seq_k (fun K_h2 h2 => ?_)
      refine T.regi hm ?_
      simp only [↓reduceIte, namesOf, List.any, I.names, aopsI, astep, ev, setd, List.set, List.getD, List.getElem?_cons_zero, List.getElem?_cons_succ, List.cons_append, List.nil_append, List.replicate, then_normal, Option.getD_some, Bool.or_false, Bool.false_eq_true, up_zero, List.map_cons, List.map_nil]
      refine (is_ok (l := groupL (spansP rows)) (by omega) hGm).mono ?_
      rintro w u2 ⟨rfl, rfl⟩
      rw [is_doc]
      try simp only []
      refine h2 _ _ ?_
      try clear h2 K_h2
      cases hr : risB (groupL (spansP rows)) with
      | false =>
        refine T.cond rfl (fun _ => ?_) (fun h => by cases h)
        refine T.seq_k (fun K_h0 h0 => ?_)
        refine T.regi hm ?_
        simp only [↓reduceIte, namesOf, List.any, I.names, aopsI, astep, ev, setd, List.set, List.getD, List.getElem?_cons_zero, List.getElem?_cons_succ, then_normal, Option.getD_some, Bool.or_false, Bool.false_eq_true, up_zero]
        refine h0 _ _ ?_
        try clear h0 K_h0
        exact T.ret (Fin.quiet rfl ⟨⟨trivial, trivial⟩, trivial, trivial⟩ hqu ⟨by simp [pack, mergeR, hpre, hr], rfl⟩)
      | true =>
        refine T.cond rfl (fun h => by cases h) (fun _ => T.skip ?_)
        refine h1 _ _ ?_
        try clear h1 K_h1
        refine T.seq_k (fun K_h0 h0 => ?_)
        refine T.regi hm ?_
        simp only [↓reduceIte, namesOf, List.any, I.names, aopsI, astep, ev, setd, List.set, List.getD, List.getElem?_cons_zero, List.getElem?_cons_succ, then_normal, Option.getD_some, Bool.or_false, Bool.false_eq_true, up_zero]
        refine h0 _ _ ?_
        try clear h0 K_h0
        exact T.ret (Fin.quietw rfl (Wk.tup2 (.sl _ _)) ⟨⟨nbs_tcs _ _, trivial⟩, trivial, trivial⟩ hqu ⟨by simp [mergeR, hpre, hr], rfl⟩)

end Go.VL

namespace Go.VL

open Go.Proofs

def exK1 : List (List Tc) := [[⟨1, [⟨1, 2, 0, 0, []⟩]⟩], [⟨1, [⟨1, 1, 0, 0, []⟩]⟩]]

def exK2 : List (List Tc) := [[⟨0, []⟩]]

theorem exK1_is : mergeR exK1 = .tup [.sl (tcsAV [⟨1, [⟨1, 1, 0, 0, []⟩, ⟨1, 2, 0, 0, []⟩]⟩]) .none, .nili] := by
  unfold mergeR
  rw [if_pos (by decide), if_pos (by decide)]
  have : groupL (spansP exK1) = [⟨1, [⟨1, 1, 0, 0, []⟩, ⟨1, 2, 0, 0, []⟩]⟩] := by decide
  rw [this]

theorem exK2_is : mergeR exK2 = .tup [.sl [] .nil, .iface tCode (.int .i64 1)] := by
  unfold mergeR
  rw [if_neg (by decide)]

set_option maxRecDepth 10000 in
set_option maxHeartbeats 4000000 in
theorem up10_ok {σ : St} : ACalls Try.prog n_up10 [] σ (fun v σ' => v = .bool true ∧ σ' = σ) := by
  refine s_up10 (fun wf => ?_)
  unfold c_up10
  refine T.seq_k (fun K_h0 h0 => ?_)
  refine T.regi hm ?_
  simp only [↓reduceIte, namesOf, List.any, I.names, aopsI, astep, ev, setd, List.set, List.nil_append, List.length_nil, List.replicate, then_normal, Bool.or_false, Bool.false_eq_true, up_zero, Nat.reduceSub]
  refine h0 _ _ ?_
  try clear h0 K_h0
  refine T.seq_k (fun K_h0 h0 => ?_)
  refine T.regi hm ?_
  simp only [↓reduceIte, namesOf, List.any, I.names, aopsI, astep, ev, setd, List.set, List.getD, List.getElem?_cons_zero, List.getElem?_cons_succ, List.cons_append, List.nil_append, List.length_cons, List.length_nil, then_normal, Option.getD_some, Bool.or_false, Bool.false_eq_true, up_zero, Nat.reduceAdd, ↓opt_def, AV.isAny, AV.cells, List.map_cons, List.map_nil, and_true, eq_self, AV.fits, AV.one, List.all_cons, List.all_nil, Nat.reduceBEq, Bool.not_false, Bool.and_self, Nat.zero_add, splice, List.take, List.drop, Nat.reduceLeDiff, held, AV.er, AV.er1, fillA, ↓Option.map_some]
  refine h0 _ _ ?_
  try clear h0 K_h0
  refine T.seq_k (fun K_h0 h0 => ?_)
  refine T.regi hm ?_
  simp only [↓reduceIte, namesOf, List.any, I.names, aopsI, astep, ev, setd, List.set, List.getD, List.getElem?_cons_zero, List.getElem?_cons_succ, List.cons_append, List.nil_append, List.length_cons, List.length_nil, then_normal, Option.getD_some, Bool.or_false, Bool.false_eq_true, up_zero, Nat.reduceAdd, ↓opt_def, AV.isAny, AV.cells, List.map_cons, List.map_nil, and_true, eq_self, AV.fits, AV.one, List.all_cons, List.all_nil, Nat.reduceBEq, Bool.not_false, Bool.and_self, Nat.zero_add, splice, List.take, List.drop, Nat.reduceLeDiff, held, AV.er, AV.er1, fillA, ↓Option.map_some]
  refine h0 _ _ ?_
  try clear h0 K_h0
  refine T.seq_k (fun K_h1 h1 => ?_)
  refine T.regi hm ?_
  simp only [↓reduceIte, namesOf, List.any, I.names, aopsI, astep, ev, setd, List.set, List.getD, List.getElem?_cons_zero, List.getElem?_cons_succ, List.length_cons, List.length_nil, then_normal, Option.getD_some, Bool.or_false, Bool.false_eq_true, up_zero, ↓opt_def, AV.isAny, AV.cells, List.map_cons, List.map_nil, eq_self, AV.fits, AV.one, List.all_cons, List.all_nil, Nat.reduceBEq, Bool.not_false, Bool.and_self, Nat.zero_add, held, AV.er, AV.er1]
  refine (kmerge_ok (rows := exK1) (g := .none) (by simp [exK1]) (by simp [exK1]) (by simp [exK1]) (by simp [exK1]) (by simp [exK1])).mono ?_
  rintro v σ1 ⟨rfl, rfl⟩
  rw [exK1_is]
  try simp only [List.getElem?_cons_zero, List.getElem?_cons_succ]
  refine h1 _ _ ?_
  try clear h1 K_h1
  refine T.seq_k (fun K_h1 h1 => ?_)
  refine T.regi hm ?_
  simp only [↓reduceIte, namesOf, List.any, I.names, aopsI, astep, ev, setd, List.set, List.getD, List.getElem?_cons_zero, List.getElem?_cons_succ, List.length_cons, List.length_nil, then_normal, Option.getD_some, Bool.or_false, Bool.false_eq_true, up_zero, Nat.reduceAdd, ↓opt_def, AV.isAny, AV.cells, List.map_cons, List.map_nil, eq_self, AV.fits, AV.one, List.all_cons, List.all_nil, Nat.reduceBEq, Bool.not_false, Bool.and_self, Nat.zero_add, held, AV.er, AV.er1, fillA, ↓Option.map_some]
  refine (kmerge_ok (rows := exK2) (g := .none) (by simp [exK2]) (by simp [exK2]) (by simp [exK2]) (by simp [exK2]) (by simp [exK2])).mono ?_
  rintro v σ2 ⟨rfl, rfl⟩
  rw [exK2_is]
  try simp only [List.getElem?_cons_zero, List.getElem?_cons_succ]
  refine h1 _ _ ?_
  try clear h1 K_h1
  have hlen : (tcsAV [⟨1, [⟨1, 1, 0, 0, []⟩, ⟨1, 2, 0, 0, []⟩]⟩]).length = 1 := rfl
  have hx0 : (tcsAV [⟨1, [⟨1, 1, 0, 0, []⟩, ⟨1, 2, 0, 0, []⟩]⟩])[0]? = some (.agg [.int .u64 1, .sl [.agg [.int .u64 1, .int .u64 1, .int .i64 0, .int .i64 0, .sl [] .none], .agg [.int .u64 1, .int .u64 2, .int .i64 0, .int .i64 0, .sl [] .none]] .none]) := rfl
  generalize tcsAV [⟨1, [⟨1, 1, 0, 0, []⟩, ⟨1, 2, 0, 0, []⟩]⟩] = xs at hlen hx0 ⊢
  refine T.seq_k (fun K_h1 h1 => ?_)
  have f0 : ((0 : Int) < ((1 : Nat) : Int)) = True := eq_true (by decide)
  have f1 : ((0 : Int) < ((2 : Nat) : Int)) = True := eq_true (by decide)
  have f3 : ((0 : Int) ≤ 0) = True := eq_true (by decide)
  have f4 : ((((1 : Nat) : Int)) == 1) = true := rfl
  have f5 : ((((2 : Nat) : Int)) == 2) = true := rfl
  have f6 : (0 : Int).toNat = 0 := rfl
  have f7 : eqIv true [(31, .i64)] .nili .nili = some true := rfl
  have f8 : eqIv false [(31, .i64)] (.iface tCode (.int .i64 1)) (.iface 31 (.int .i64 1)) = some true := rfl
  refine T.regt hm (tbl := []) Tbl.ok_nil ?_
  iterate 30 (refine aopsT_cut 1 (fun K_c h_c => ?_); simp only [↓reduceIte, namesOf, List.any, I.names, aopsT, qstep, astep, ev, setd, List.set, List.getD, List.getElem?_cons_zero, List.getElem?_cons_succ, List.length_cons, List.length_nil, Option.getD_some, Bool.or_false, Bool.false_eq_true, up_zero, Nat.reduceAdd, binv, ↓opt_def, AV.cells, ldc, and_true, eq_self, Nat.zero_add, List.take, List.drop, hlen, hx0, f0, f1, f3, f4, f5, f6, f7, f8, beq_self_eq_true]; refine h_c _ _ ?_; clear h_c K_c; simp only [List.drop_succ_cons, List.drop_zero, Nat.zero_add, Nat.reduceAdd])
  simp only [aopsT, qstep, astep, ev, setd, List.set, List.getD, List.getElem?_cons_zero, List.getElem?_cons_succ, then_normal, Option.getD_some]
  refine h1 _ _ ?_
  try clear h1 K_h1
  exact T.ret (Fin.ret rfl ⟨rfl, rfl⟩)

/-! ### Plain: what is merged in parts -/

end Go.VL

namespace Go.VL

open Go.Proofs

abbrev cO (t : On) : List AV := [.int .i64 t.n, .int .i64 t.row, .int .i64 t.at_]

theorem cO_len (t : On) : (cO t).length = 3 := rfl

theorem xsO_flat (l : List On) : (xsAVO l).flatMap AV.cells = l.flatMap cO := by
  induction l with
  | nil => rfl
  | cons t l ih => simp only [xsAVO, List.map_cons, List.flatMap_cons] at ih ⊢; rw [ih]; rfl

theorem flatO_er (l : List On) : (l.flatMap cO).map AV.er1 = l.flatMap cO := by
  induction l with
  | nil => rfl
  | cons t l ih => simp only [List.flatMap_cons, List.map_append, ih]; rfl

theorem flatO_one (l : List On) : (l.flatMap cO).all AV.one = true := by
  induction l with
  | nil => rfl
  | cons t l ih => simp only [List.flatMap_cons, List.all_append, ih]; rfl

theorem chunkO (l : List On) : (chunks 3 l.length (l.flatMap cO)).map AV.agg = xsAVO l := by
  induction l with
  | nil => rfl
  | cons t l ih =>
    have h1 : (cO t ++ l.flatMap cO).take 3 = cO t := by simp
    have h2 : (cO t ++ l.flatMap cO).drop 3 = l.flatMap cO := by simp
    simp only [List.length_cons, List.flatMap_cons, chunks, List.map_cons, h1, h2, ih]; rfl

theorem srcO_refr {t : St} {a m : Nat} {r : List On} (hr : t.res a = some (.obj (r.flatMap cO))) (hm : m ≤ r.length) : srcC t 3 (.refr a 3 m) = some (xsAVO (r.take m)) := by
  have hl : (r.take m).length = m := by rw [List.length_take]; omega
  have he := chunkO (r.take m)
  rw [hl] at he
  simp only [srcC, hr, flatk_take cO_len, flatO_er, flatO_one, he]
  rw [if_pos ⟨trivial, by rw [flatk_len cO_len]; omega, trivial⟩]

theorem srcO_ref {t : St} {a p : Nat} {r : List On} (hr : t.res a = some (.obj (r.flatMap cO))) (hp : p ≤ r.length) : srcC t 3 (.ref a (p * 3) (r.length - p)) = some (xsAVO (r.drop p)) := by
  have hl : (r.drop p).length = r.length - p := List.length_drop
  have he := chunkO (r.drop p)
  rw [hl] at he
  have ht : ((r.drop p).flatMap cO).take ((r.length - p) * 3) = (r.drop p).flatMap cO := List.take_of_length_le (by rw [flatk_len cO_len, hl]; exact Nat.le_refl _)
  simp only [srcC, hr, flatk_drop cO_len, ht, flatO_er, flatO_one, he]
  rw [if_pos ⟨by rw [flatk_len cO_len]; omega, trivial⟩]

theorem srcO_none {t : St} {a o m : Nat} : srcOf t 3 (.ref a o m) = none := by
  simp only [srcOf]
  split <;> simp

theorem srcO_none' {t : St} {a m : Nat} : srcOf t 3 (.refr a 3 m) = none := rfl

def isAV (l : List (List Int)) : List AV := l.map fun r => .sl (nums .i64 r) .none

theorem isAV_len (l : List (List Int)) : (isAV l).length = l.length := by simp [isAV]

theorem isAV_get {l : List (List Int)} {i : Nat} {r : List Int} (h : l[i]? = some r) : (isAV l)[i]? = some (.sl (nums .i64 r) .none) := by simp [isAV, h]

/-- a row that is made: empty, or owned -/
def RO (g : Ver) (lo : Nat) (t : St) (x : AV) (s : List On) : Prop := (x = .sl [] g ∧ s = []) ∨ ∃ a, s ≠ [] ∧ x = .refr a 3 s.length ∧ t.res a = some (.obj (s.flatMap cO)) ∧ lo ≤ a ∧ a < t.next

theorem RO.like {g : Ver} {lo : Nat} {t u : St} {x : AV} {s : List On} (h : RO g lo t x s) (hl : Like t u) : RO g lo u x s := by
  rcases h with h | ⟨a, h1, h2, h3, h4, h5⟩
  · exact .inl h
  · exact .inr ⟨a, h1, h2, by rw [hl.same a h5]; exact h3, h4, Nat.lt_of_lt_of_le h5 hl.next⟩

abbrev c_ks14 : C := (.reg [⟨(some 54), (.bslice 3 .zero []), none⟩, ⟨(some 55), (.mv (.t 7)), none⟩, ⟨(some 56), (.mv (.t 9)), none⟩, ⟨(some 57), (.slice 3 (.t 55) none (some (.t 56))), none⟩, ⟨(some 58), (.appR 3 24 (.t 54) (.t 57)), none⟩, ⟨(some 10), (.mv (.t 58)), none⟩])

abbrev c_ks15 : C := (.reg [⟨(some 59), (.mv (.t 10)), none⟩, ⟨(some 60), (.mv (.t 0)), none⟩, ⟨(some 61), (.mv (.t 6)), none⟩, ⟨(some 62), (.iaddr 1 (.t 60) (.t 61)), none⟩, ⟨(some 63), (.load none (.t 62)), none⟩, ⟨(some 64), (.mv (.t 8)), none⟩, ⟨(some 65), (.iaddr 1 (.t 63) (.t 64)), none⟩, ⟨(some 66), (.load none (.t 65)), none⟩, ⟨(some 67), (.build [(.int .i64 0), (.int .i64 0), (.int .i64 0)] [(0, (1, (.t 66)))]), none⟩, ⟨(some 68), (.bslice 3 .val [(.t 67)]), none⟩, ⟨(some 69), (.appR 3 24 (.t 59) (.t 68)), none⟩, ⟨(some 10), (.mv (.t 69)), none⟩])

abbrev c_ks16 : C := (.reg [⟨(some 70), (.mv (.t 10)), none⟩, ⟨(some 71), (.mv (.t 7)), none⟩, ⟨(some 72), (.mv (.t 9)), none⟩, ⟨(some 73), (.slice 3 (.t 71) (some (.t 72)) none), none⟩, ⟨(some 74), (.appR 3 24 (.t 70) (.t 73)), none⟩, ⟨(some 7), (.mv (.t 74)), none⟩])

set_option maxRecDepth 10000 in
theorem ks14_ok {L x4 n5 i6 x j8 : AV} {p lo : Nat} {r : List On} {t : St} {Q : Ex → List AV → St → Prop} (hR : RO .nil lo t x r) (hp : p ≤ r.length) (hn : r.length ≤ 1048576)
    (hq : ∀ ρ' t' s', keep [0, 3, 4, 5, 6, 7, 8, 9, 10] 0 ρ' = [L, .any, .any, .bool true, x4, n5, i6, x, j8, .int .i64 (p : Int), s'] ++ List.replicate 151 .any → RO .zero t.next t' s' (r.take p) → Like t t' → Q .normal ρ' t') :
    T Try.prog ann_kwaySorts c_ks14 Q ([L, .any, .any, .bool true, x4, n5, i6, x, j8, .int .i64 (p : Int)] ++ List.replicate 152 .any) t := by
  have h0 : ((0 : Int) ≤ 0) = True := eq_true (Int.le_refl 0)
  rcases hR with ⟨rfl, rfl⟩ | ⟨a, hne, rfl, hr, ha1, ha2⟩
  · have hp0 : p = 0 := by simpa using hp
    subst hp0
    refine T.regi hm ?_
    simp only [↓reduceIte, namesOf, List.any, I.names, aopsI, astep, ev, setd, List.set, List.getD, List.getElem?_cons_zero, List.getElem?_cons_succ, List.cons_append, List.nil_append, List.length_cons, List.length_nil, List.replicate, Option.getD_some, Bool.or_false, Bool.or_true, Nat.reduceAdd, List.map_nil, true_and, eq_self, srcR, idx, srcOf, Int.natCast_zero, h0, and_self, List.all_nil, List.isEmpty, List.drop_nil, List.take_nil, Ver.noRoom, Nat.zero_mul, Nat.zero_le]
    refine hq _ _ _ rfl (.inl ⟨rfl, rfl⟩) ((Like.refl t).up _)
  · have hs : ∀ k, srcC (t.up k) 3 (.refr a 3 p) = some (xsAVO (r.take p)) := fun k => srcO_refr (by exact hr) hp
    have hl : (r.take p).length = p := by rw [List.length_take]; omega
    have hb1 : p * 24 ≤ 70368744177664 := by omega
    have hb2 : p ≤ 4611686018427387904 := by omega
    by_cases hp0 : p = 0
    · subst hp0
      refine T.regi hm ?_
      simp only [↓reduceIte, namesOf, List.any, I.names, aopsI, astep, ev, setd, List.set, List.getD, List.getElem?_cons_zero, List.getElem?_cons_succ, List.cons_append, List.nil_append, List.length_cons, List.length_nil, List.replicate, Option.getD_some, Bool.or_false, Bool.or_true, Nat.reduceAdd, Int.natCast_nonneg, true_and, eq_self, srcR, idx, srcO_none', hs, Int.natCast_zero, h0, and_self, List.isEmpty, List.take_zero, Ver.noRoom, Int.toNat_zero]
      refine hq _ _ _ rfl (.inl ⟨rfl, rfl⟩) ((Like.refl t).up _)
    · have hsl : (0 : Int) ≤ (p : Int) := by omega
      have he : (xsAVO (r.take p)).isEmpty = false := by
        cases hc : r.take p with
        | nil => rw [hc] at hl; simp at hl; omega
        | cons y ys => rfl
      have hz : (p : Int).toNat = p := rfl
      refine T.regi hm ?_
      simp only [↓reduceIte, namesOf, List.any, I.names, aopsI, astep, ev, setd, List.set, List.getD, List.getElem?_cons_zero, List.getElem?_cons_succ, List.cons_append, List.nil_append, List.length_cons, List.length_nil, List.replicate, Option.getD_some, Bool.or_false, Bool.or_true, Bool.false_eq_true, Nat.reduceAdd, le_len, eq_self, srcR, idx, srcO_none', hs, and_self, Ver.noRoom, hsl, hz, hp, xsO_fits, xsO_len, hl, hb1, hb2, he, xsO_flat]
      refine hq _ _ (.refr (t.next + 4) 3 p) rfl (.inr ⟨t.next + 4, fun e => ?_, by rw [hl], St.set_same _ _ _, by omega, by simp⟩) ((Like.refl t).box (n := 6) (i := 4) _)
      rw [e] at hl; simp at hl; omega

set_option maxRecDepth 10000 in
theorem ks15_ok {l : List (List Int)} {g : Ver} {x4 n5 x s : AV} {i j p lo : Nat} {q : List On} {row : List Int} {v : Int} {t1 t : St} {Q : Ex → List AV → St → Prop} (hR : RO .zero t1.next t s q) (hL : Like t1 t) (hn : q.length ≤ 1048576)
    (hi : l[i]? = some row) (hj : row[j]? = some v)
    (hq : ∀ ρ' t' s', keep [0, 3, 4, 5, 6, 7, 8, 9, 10] 0 ρ' = [.sl (isAV l) g, .any, .any, .bool true, x4, n5, .int .i64 (i : Int), x, .int .i64 (j : Int), .int .i64 (p : Int), s'] ++ List.replicate 151 .any → RO .zero t1.next t' s' (q ++ [⟨v, 0, 0⟩]) → Like t1 t' → Q .normal ρ' t') :
    T Try.prog ann_kwaySorts c_ks15 Q ([.sl (isAV l) g, .any, .any, .bool true, x4, n5, .int .i64 (i : Int), x, .int .i64 (j : Int), .int .i64 (p : Int), s] ++ List.replicate 151 .any) t := by
  have hil : i < (isAV l).length := by rw [isAV_len]; exact (List.getElem?_eq_some_iff.1 hi).1
  have hgi := isAV_get hi
  have hjl : j < (nums .i64 row).length := by rw [nums_len]; exact (List.getElem?_eq_some_iff.1 hj).1
  have hgj : (nums .i64 row)[j]? = some (.int .i64 v) := by simp [nums, hj]
  have hne : q ++ [(⟨v, 0, 0⟩ : On)] ≠ [] := by simp
  have hll : (q ++ [(⟨v, 0, 0⟩ : On)]).length = q.length + 1 := by simp
  have hfl : (q ++ [(⟨v, 0, 0⟩ : On)]).flatMap cO = q.flatMap cO ++ [.int .i64 v, .int .i64 0, .int .i64 0] := by rw [List.flatMap_append]; rfl
  have hnx := hL.next
  rcases hR with ⟨rfl, rfl⟩ | ⟨a, hqne, rfl, hr, ha1, ha2⟩
  · refine T.regi hm ?_
    simp only [↓reduceIte, namesOf, List.any, I.names, aopsI, astep, ev, setd, List.set, List.getD, List.getElem?_cons_zero, List.getElem?_cons_succ, List.cons_append, List.nil_append, List.length_cons, List.length_nil, List.replicate, Option.getD_some, Bool.or_false, Bool.or_true, Bool.false_eq_true, Nat.reduceAdd, ↓opt_def, AV.isAny, AV.cells, ldc, List.map_cons, List.map_nil, Int.natCast_nonneg, lt_len, Int.toNat_natCast, eq_self, srcR, hil, hgi, hjl, hgj, fillA, ↓Option.map_some, held, srcOf, AV.er, AV.er1, Ver.noRoom, AV.fits, AV.one, List.all_cons, List.all_nil, Nat.reduceBEq, Bool.not_false, Bool.and_self, Nat.zero_add, splice, List.take, List.drop, Nat.reduceLeDiff, Nat.one_mul, and_self, List.isEmpty, List.flatMap_cons, List.flatMap_nil, List.append_nil]
    refine hq _ _ (.refr (t.next + 10) 3 1) rfl (.inr ⟨t.next + 10, hne, by rw [hll]; rfl, by rw [hfl]; exact St.set_same _ _ _, by omega, by simp⟩) (hL.box (n := 12) (i := 10) _)
  · have hru : ∀ k, (t.up k).res a = some (.obj (q.flatMap cO)) := fun _ => hr
    have hcl : q.length * 3 ≤ (q.flatMap cO).length := by rw [flatk_len cO_len]; exact Nat.le_refl _
    have hct : (q.flatMap cO).take (q.length * 3) = q.flatMap cO := List.take_of_length_le (by rw [flatk_len cO_len]; exact Nat.le_refl _)
    have hb1 : (q.length + 1) * 24 ≤ 70368744177664 := by omega
    have hb2 : q.length + 1 ≤ 4611686018427387904 := by omega
    refine T.regi hm ?_
    simp only [↓reduceIte, namesOf, List.any, I.names, aopsI, astep, ev, setd, List.set, List.getD, List.getElem?_cons_zero, List.getElem?_cons_succ, List.cons_append, List.nil_append, List.length_cons, List.length_nil, List.replicate, Option.getD_some, Bool.or_false, Bool.or_true, Nat.reduceAdd, ↓opt_def, AV.isAny, AV.cells, ldc, List.map_cons, List.map_nil, Int.natCast_nonneg, lt_len, Int.toNat_natCast, eq_self, srcR, hil, hgi, hjl, hgj, hru, hcl, hct, hb1, hb2, fillA, ↓Option.map_some, held, srcOf, AV.er, AV.er1, AV.fits, AV.one, List.all_cons, List.all_nil, Nat.reduceBEq, Bool.not_false, Bool.and_self, Nat.zero_add, splice, List.drop, Nat.reduceLeDiff, and_self, List.flatMap_cons, List.flatMap_nil, List.append_nil, List.take_zero]
    refine hq _ _ (.refr (t.next + 10) 3 (q.length + 1)) rfl (.inr ⟨t.next + 10, hne, by rw [hll], by rw [hfl]; exact St.set_same _ _ _, by omega, by simp⟩) (((hL.up 12).del ha1).set _ (by omega))

set_option maxRecDepth 10000 in
theorem ks16_ok {L x4 n5 i6 x j8 s : AV} {p lo : Nat} {r q : List On} {t1 t : St} {Q : Ex → List AV → St → Prop} (hR : RO .nil lo t1 x r) (hS : RO .zero t1.next t s q) (hL : Like t1 t) (hp : p ≤ r.length) (hne : q ≠ []) (hn : q.length + r.length ≤ 2097152)
    (hq : ∀ ρ' t' x', keep [0, 3, 4, 5, 6, 7, 8] 0 ρ' = [L, .any, .any, .bool true, x4, n5, i6, x', j8] ++ List.replicate 153 .any → RO .nil t1.next t' x' (q ++ r.drop p) → Like t1 t' → Q .normal ρ' t') :
    T Try.prog ann_kwaySorts c_ks16 Q ([L, .any, .any, .bool true, x4, n5, i6, x, j8, .int .i64 (p : Int), s] ++ List.replicate 151 .any) t := by
  have h0 : ((0 : Int) ≤ 0) = True := eq_true (Int.le_refl 0)
  obtain ⟨a, _, rfl, hr, ha1, ha2⟩ : ∃ a, q ≠ [] ∧ s = .refr a 3 q.length ∧ t.res a = some (.obj (q.flatMap cO)) ∧ t1.next ≤ a ∧ a < t.next := hS.resolve_left fun h => hne h.2
  have hnx := hL.next
  have hru : ∀ k, (t.up k).res a = some (.obj (q.flatMap cO)) := fun _ => hr
  have hcl : q.length * 3 ≤ (q.flatMap cO).length := by rw [flatk_len cO_len]; exact Nat.le_refl _
  have hct : (q.flatMap cO).take (q.length * 3) = q.flatMap cO := List.take_of_length_le (by rw [flatk_len cO_len]; exact Nat.le_refl _)
  have hdl : (r.drop p).length = r.length - p := List.length_drop
  have hb1 : (q.length + (r.length - p)) * 24 ≤ 70368744177664 := by omega
  have hb2 : q.length + (r.length - p) ≤ 4611686018427387904 := by omega
  have hne2 : q ++ r.drop p ≠ [] := by simp [hne]
  have hll : (q ++ r.drop p).length = q.length + (r.length - p) := by rw [List.length_append, hdl]
  have hfin : ∀ ρ', keep [0, 3, 4, 5, 6, 7, 8] 0 ρ' = [L, .any, .any, .bool true, x4, n5, i6, .refr (t.next + 4) 3 (q.length + (r.length - p)), j8] ++ List.replicate 153 .any → Q .normal ρ' (((t.up 6).del a).set (t.next + 4) (.obj (q.flatMap cO ++ (r.drop p).flatMap cO))) := fun ρ' hk =>
    hq _ _ _ hk (.inr ⟨t.next + 4, hne2, by rw [hll], by rw [List.flatMap_append]; exact St.set_same _ _ _, by omega, by simp⟩) (((hL.up 6).del ha1).set _ (by omega))
  have hfin0 : r.drop p = [] → ∀ ρ', keep [0, 3, 4, 5, 6, 7, 8] 0 ρ' = [L, .any, .any, .bool true, x4, n5, i6, .refr (t.next + 4) 3 q.length, j8] ++ List.replicate 153 .any → Q .normal ρ' (((t.up 6).del a).set (t.next + 4) (.obj (q.flatMap cO))) := fun he ρ' hk => by
    have hz : r.length - p = 0 := by rw [← hdl, he]; rfl
    rw [he, hz] at hfin
    exact hfin ρ' (by rw [hk]; rfl) |> fun h => by simpa using h
  rcases hR with ⟨rfl, rfl⟩ | ⟨b, hrne, rfl, hrb, hb3, hb4⟩
  · have hp0 : p = 0 := by simpa using hp
    subst hp0
    have hb3 : q.length * 24 ≤ 70368744177664 := by omega
    have hb4 : q.length ≤ 4611686018427387904 := by omega
    refine T.regi hm ?_
    simp only [↓reduceIte, namesOf, List.any, I.names, aopsI, astep, ev, setd, List.set, List.getD, List.getElem?_cons_zero, List.getElem?_cons_succ, List.cons_append, List.nil_append, List.length_cons, List.length_nil, List.replicate, Option.getD_some, Bool.or_false, Bool.or_true, Nat.reduceAdd, List.map_nil, true_and, eq_self, srcR, idx, srcOf, hru, hcl, hct, hb3, hb4, Int.natCast_zero, h0, and_self, List.all_nil, List.drop_nil, List.take_nil, Nat.add_zero, List.flatMap_nil, List.append_nil]
    exact hfin0 rfl _ rfl
  · have hrbu : ∀ k, (t.up k).res b = some (.obj (r.flatMap cO)) := fun k => by
      show t.res b = _
      rw [hL.same b hb4]; exact hrb
    by_cases hp0 : p = 0
    · subst hp0
      have hs : ∀ k, srcC (t.up k) 3 (.refr b 3 r.length) = some (xsAVO r) := fun k => by rw [srcO_refr (hrbu k) (Nat.le_refl _), List.take_length]
      have hb5 : (q.length + r.length) * 24 ≤ 70368744177664 := by omega
      have hb6 : q.length + r.length ≤ 4611686018427387904 := by omega
      refine T.regi hm ?_
      simp only [↓reduceIte, namesOf, List.any, I.names, aopsI, astep, ev, setd, List.set, List.getD, List.getElem?_cons_zero, List.getElem?_cons_succ, List.cons_append, List.nil_append, List.length_cons, List.length_nil, List.replicate, Option.getD_some, Bool.or_false, Bool.or_true, Nat.reduceAdd, Int.natCast_nonneg, Int.toNat_natCast, eq_self, srcR, idx, srcO_none', hs, hru, hcl, hct, hb5, hb6, Int.natCast_zero, and_self, Int.le_refl, xsO_fits, xsO_len, xsO_flat]
      rw [List.drop_zero, Nat.sub_zero] at hfin
      exact hfin _ rfl
    · have hne0 : ((p : Int) = 0) = False := eq_false (by omega)
      have hp1 : ((p : Int) ≤ (r.length : Int)) = True := eq_true (by omega)
      have hz : ((r.length : Int) - (p : Int)).toNat = r.length - p := by omega
      by_cases hpl : p = r.length
      · have hd0 : r.drop p = [] := List.drop_eq_nil_of_le (by omega)
        have hb3 : q.length * 24 ≤ 70368744177664 := by omega
        have hb4 : q.length ≤ 4611686018427387904 := by omega
        have he1 : ((p : Int) = (r.length : Int)) = True := eq_true (by omega)
        refine T.regi hm ?_
        simp only [↓reduceIte, namesOf, List.any, I.names, aopsI, astep, ev, setd, List.set, List.getD, List.getElem?_cons_zero, List.getElem?_cons_succ, List.cons_append, List.nil_append, List.length_cons, List.length_nil, List.replicate, Option.getD_some, Bool.or_false, Bool.or_true, Nat.reduceAdd, List.map_nil, Int.natCast_nonneg, and_true, eq_self, srcR, idx, srcOf, hru, hcl, hct, hb3, hb4, hne0, he1, hp1, and_self, List.all_nil, Int.le_refl, Nat.add_zero, List.flatMap_nil, List.append_nil]
        exact hfin0 hd0 _ rfl
      · have he1 : ((p : Int) = (r.length : Int)) = False := eq_false (by omega)
        have hs : ∀ k, srcC (t.up k) 3 (.ref b (p * 3) (r.length - p)) = some (xsAVO (r.drop p)) := fun k => srcO_ref (hrbu k) hp
        refine T.regi hm ?_
        simp only [↓reduceIte, namesOf, List.any, I.names, aopsI, astep, ev, setd, List.set, List.getD, List.getElem?_cons_zero, List.getElem?_cons_succ, List.cons_append, List.nil_append, List.length_cons, List.length_nil, List.replicate, Option.getD_some, Bool.or_false, Bool.or_true, Nat.reduceAdd, Int.natCast_nonneg, Int.toNat_natCast, and_true, eq_self, srcR, idx, srcO_none, hs, hru, hcl, hct, hb1, hb2, hne0, he1, hp1, hz, and_self, Int.le_refl, xsO_fits, xsO_len, xsO_flat, hdl]
        exact hfin _ rfl

end Go.VL

namespace Go.VL

open Go.Proofs

abbrev c_ksB3 : C := (.block 3 (.seq (.reg [⟨(some 32), (.mv (.t 7)), none⟩, ⟨(some 33), (.len (.t 32)), none⟩, ⟨(some 9), (.mv (.t 33)), none⟩]) (.seq (.block 4 (.loop (.seq (.seq (.reg [⟨(some 34), (.mv (.t 9)), none⟩, ⟨(some 35), (.bin .gtr .i64 (.t 34) (.c (.int .i64 0))), none⟩, ⟨(some 36), (.mv (.t 35)), none⟩, ⟨(some 37), (.mv (.t 7)), (some (36, true))⟩, ⟨(some 38), (.mv (.t 9)), (some (36, true))⟩, ⟨(some 39), (.bin .sub .i64 (.t 38) (.c (.int .i64 1))), (some (36, true))⟩, ⟨(some 40), (.iaddr 3 (.t 37) (.t 39)), (some (36, true))⟩, ⟨(some 41), (.faddr 0 (.t 40)), (some (36, true))⟩, ⟨(some 42), (.load none (.t 41)), (some (36, true))⟩, ⟨(some 43), (.mv (.t 0)), (some (36, true))⟩, ⟨(some 44), (.mv (.t 6)), (some (36, true))⟩, ⟨(some 45), (.iaddr 1 (.t 43) (.t 44)), (some (36, true))⟩, ⟨(some 46), (.load none (.t 45)), (some (36, true))⟩, ⟨(some 47), (.mv (.t 8)), (some (36, true))⟩, ⟨(some 48), (.iaddr 1 (.t 46) (.t 47)), (some (36, true))⟩, ⟨(some 49), (.load none (.t 48)), (some (36, true))⟩, ⟨(some 50), (.bin .gtr .i64 (.t 42) (.t 49)), (some (36, true))⟩, ⟨(some 51), (.pick (.t 36) (.t 50) (.c (.bool false))), none⟩]) (.cond (.t 51) .skip (.exit 4))) (.block 5 (.reg [⟨(some 52), (.mv (.t 9)), none⟩, ⟨(some 53), (.bin .sub .i64 (.t 52) (.c (.int .i64 1))), none⟩, ⟨(some 9), (.mv (.t 53)), none⟩]))))) (.seq (.reg [⟨(some 54), (.bslice 3 .zero []), none⟩, ⟨(some 55), (.mv (.t 7)), none⟩, ⟨(some 56), (.mv (.t 9)), none⟩, ⟨(some 57), (.slice 3 (.t 55) none (some (.t 56))), none⟩, ⟨(some 58), (.appR 3 24 (.t 54) (.t 57)), none⟩, ⟨(some 10), (.mv (.t 58)), none⟩]) (.seq (.reg [⟨(some 59), (.mv (.t 10)), none⟩, ⟨(some 60), (.mv (.t 0)), none⟩, ⟨(some 61), (.mv (.t 6)), none⟩, ⟨(some 62), (.iaddr 1 (.t 60) (.t 61)), none⟩, ⟨(some 63), (.load none (.t 62)), none⟩, ⟨(some 64), (.mv (.t 8)), none⟩, ⟨(some 65), (.iaddr 1 (.t 63) (.t 64)), none⟩, ⟨(some 66), (.load none (.t 65)), none⟩, ⟨(some 67), (.build [(.int .i64 0), (.int .i64 0), (.int .i64 0)] [(0, (1, (.t 66)))]), none⟩, ⟨(some 68), (.bslice 3 .val [(.t 67)]), none⟩, ⟨(some 69), (.appR 3 24 (.t 59) (.t 68)), none⟩, ⟨(some 10), (.mv (.t 69)), none⟩]) (.reg [⟨(some 70), (.mv (.t 10)), none⟩, ⟨(some 71), (.mv (.t 7)), none⟩, ⟨(some 72), (.mv (.t 9)), none⟩, ⟨(some 73), (.slice 3 (.t 71) (some (.t 72)) none), none⟩, ⟨(some 74), (.appR 3 24 (.t 70) (.t 73)), none⟩, ⟨(some 7), (.mv (.t 74)), none⟩]))))))

abbrev c_ksB6 : C := (.block 6 (.loop (.seq (.seq (.reg [⟨(some 75), (.mv (.t 11)), none⟩, ⟨(some 76), (.mv (.t 7)), none⟩, ⟨(some 77), (.len (.t 76)), none⟩, ⟨(some 78), (.bin .lss .i64 (.t 75) (.t 77)), none⟩]) (.cond (.t 78) .skip (.exit 6))) (.seq (.block 7 (.seq (.reg [⟨(some 81), (.mv (.t 7)), none⟩, ⟨(some 82), (.mv (.t 11)), none⟩, ⟨(some 83), (.mv (.t 6)), none⟩, ⟨(some 84), (.iaddr 3 (.t 81) (.t 82)), none⟩, ⟨(some 85), (.faddr 1 (.t 84)), none⟩, ⟨none, (.store 1 (.t 85) (.t 83)), none⟩]) (.reg [⟨(some 86), (.mv (.t 7)), none⟩, ⟨(some 87), (.mv (.t 11)), none⟩, ⟨(some 88), (.mv (.t 11)), none⟩, ⟨(some 89), (.iaddr 3 (.t 86) (.t 87)), none⟩, ⟨(some 90), (.faddr 2 (.t 89)), none⟩, ⟨none, (.store 1 (.t 90) (.t 88)), none⟩]))) (.reg [⟨(some 79), (.mv (.t 11)), none⟩, ⟨(some 80), (.bin .add .i64 (.t 79) (.c (.int .i64 1))), none⟩, ⟨(some 11), (.mv (.t 80)), none⟩])))))

theorem flatO_get {r : List On} {k : Nat} {a : On} (h : r[k]? = some a) : (r.flatMap cO)[k * 3]? = some (.int .i64 a.n) ∧ (r.flatMap cO)[k * 3 + 1]? = some (.int .i64 a.row) ∧ (r.flatMap cO)[k * 3 + 2]? = some (.int .i64 a.at_) := by
  obtain ⟨hk, rfl⟩ := List.getElem?_eq_some_iff.1 h
  have hd : (r.flatMap cO).drop (k * 3) = cO r[k] ++ (r.drop (k + 1)).flatMap cO := by
    rw [flatk_drop cO_len, List.drop_eq_getElem_cons hk, List.flatMap_cons]
  have hg : ∀ o, (r.flatMap cO)[k * 3 + o]? = (cO r[k] ++ (r.drop (k + 1)).flatMap cO)[o]? := fun o => by rw [← hd, List.getElem?_drop]
  exact ⟨by rw [← Nat.add_zero (k * 3), hg]; rfl, by rw [hg]; rfl, by rw [hg]; rfl⟩

abbrev UpO (r : List On) : Prop := r.Pairwise fun a b => a.n ≤ b.n

theorem UpO.rising {r : List On} (h : UpO r) : Rising keyO r := fun i j a b hij ha hb => by
  obtain ⟨hi, rfl⟩ := List.getElem?_eq_some_iff.1 ha
  obtain ⟨hj, rfl⟩ := List.getElem?_eq_some_iff.1 hb
  rcases Nat.lt_or_eq_of_le hij with h1 | rfl
  · exact List.pairwise_iff_getElem.1 h i j hi hj h1
  · exact Int.le_refl _

theorem UpO.put {r : List On} {p : Nat} {v : Int} (h : UpO r) (hlo : ∀ y ∈ r.take p, y.n ≤ v) (hhi : ∀ y ∈ r.drop p, v < y.n) : UpO ((r.take p ++ [(⟨v, 0, 0⟩ : On)]) ++ r.drop p) := by
  have h0 : UpO (r.take p ++ r.drop p) := by rw [List.take_append_drop]; exact h
  obtain ⟨h1, h2, h3⟩ := List.pairwise_append.1 h0
  refine List.pairwise_append.2 ⟨List.pairwise_append.2 ⟨h1, List.pairwise_singleton _ _, fun a ha b hb => ?_⟩, h2, fun a ha b hb => ?_⟩
  · rw [List.mem_singleton] at hb; subst hb; exact hlo a ha
  · rcases List.mem_append.1 ha with ha | ha
    · exact h3 a ha b hb
    · rw [List.mem_singleton] at ha; subst ha; exact Int.le_of_lt (hhi b hb)

theorem RO.low {g : Ver} {lo lo' : Nat} {t : St} {x : AV} {s : List On} (h : RO g lo t x s) (hl : lo' ≤ lo) : RO g lo' t x s := by
  rcases h with h | ⟨a, h1, h2, h3, h4, h5⟩
  · exact .inl h
  · exact .inr ⟨a, h1, h2, h3, Nat.le_trans hl h4, h5⟩

set_option maxRecDepth 10000 in
theorem kins_ok {l : List (List Int)} {g : Ver} {x4 n5 x : AV} {i j lo : Nat} {r : List On} {row : List Int} {v : Int} {t : St} {Q : Ex → List AV → St → Prop} (hR : RO .nil lo t x r) (hn : r.length ≤ 1048575) (hU : UpO r)
    (hi : l[i]? = some row) (hj : row[j]? = some v)
    (hq : ∀ ρ' t' x' r', keep [0, 3, 4, 5, 6, 7, 8] 0 ρ' = [.sl (isAV l) g, .any, .any, .bool true, x4, n5, .int .i64 (i : Int), x', .int .i64 (j : Int)] ++ List.replicate 153 .any → RO .nil t.next t' x' r' → Like t t' → r'.length = r.length + 1 → UpO r' → Q .normal ρ' t') :
    T Try.prog ann_kwaySorts c_ksB3 Q ([.sl (isAV l) g, .any, .any, .bool true, x4, n5, .int .i64 (i : Int), x, .int .i64 (j : Int)] ++ List.replicate 153 .any) t := by
  have hil : i < (isAV l).length := by rw [isAV_len]; exact (List.getElem?_eq_some_iff.1 hi).1
  have hgi := isAV_get hi
  have hjl : j < (nums .i64 row).length := by rw [nums_len]; exact (List.getElem?_eq_some_iff.1 hj).1
  have hgj : (nums .i64 row)[j]? = some (.int .i64 v) := by simp [nums, hj]
  refine T.block ?_
  refine T.seq_k (fun K_h1 h1 => ?_)
  -- its length
  have h2 : ∀ ρ', keep [0, 3, 4, 5, 6, 7, 8, 9] 0 ρ' = [.sl (isAV l) g, .any, .any, .bool true, x4, n5, .int .i64 (i : Int), x, .int .i64 (j : Int), .int .i64 (r.length : Int)] ++ List.replicate 152 .any → K_h1 ρ' t := by
    intro ρ' hk
    refine h1 _ _ ?_
    refine T.gh (Gh.keep [0, 3, 4, 5, 6, 7, 8, 9]) ?_
    rw [hk]
    refine T.seq_k (fun K_h3 h3 => ?_)
    refine T.block ?_
    refine T.loopi (fun k ρ u => u = t ∧ (∀ y ∈ r.drop (r.length - k), v < y.n) ∧ ρ = [.sl (isAV l) g, .any, .any, .bool true, x4, n5, .int .i64 (i : Int), x, .int .i64 (j : Int), .int .i64 ((r.length - k : Nat) : Int)] ++ List.replicate 152 .any)
      r.length 0 (Nat.zero_le _) ⟨rfl, by simp, rfl⟩ ?_
    rintro k ρ u hkl ⟨rfl, hhi, rfl⟩
    obtain ⟨p, hp⟩ : ∃ p, p = r.length - k := ⟨_, rfl⟩
    rw [← hp] at hhi ⊢
    have hpl : p ≤ r.length := by omega
    -- what comes behind the loop
    have hend : (∀ y ∈ r.take p, y.n ≤ v) → ∀ ρ', keep [0, 3, 4, 5, 6, 7, 8, 9] 0 ρ' = [.sl (isAV l) g, .any, .any, .bool true, x4, n5, .int .i64 (i : Int), x, .int .i64 (j : Int), .int .i64 (p : Int)] ++ List.replicate 152 .any → K_h3 ρ' u := by
      intro hlo ρ' hk
      refine h3 _ _ ?_
      refine T.gh (Gh.keep [0, 3, 4, 5, 6, 7, 8, 9]) ?_
      rw [hk]
      have htl : (r.take p).length = p := by rw [List.length_take]; omega
      refine T.seq_k (fun K_h5 h5 => ?_)
      refine ks14_ok hR hpl (by omega) (fun ρ1 t1 s1 hk1 hS1 hL1 => ?_)
      refine h5 _ _ ?_
      refine T.gh (Gh.keep [0, 3, 4, 5, 6, 7, 8, 9, 10]) ?_
      rw [hk1]
      refine T.seq_k (fun K_h6 h6 => ?_)
      refine ks15_ok (lo := lo) hS1 hL1 (by omega) hi hj (fun ρ2 t2 s2 hk2 hS2 hL2 => ?_)
      refine h6 _ _ ?_
      refine T.gh (Gh.keep [0, 3, 4, 5, 6, 7, 8, 9, 10]) ?_
      rw [hk2]
      refine ks16_ok hR hS2 hL2 hpl (by simp) (by rw [List.length_append, htl, List.length_singleton]; omega) (fun ρ3 t3 x3 hk3 hR3 hL3 => ?_)
      refine hq _ _ _ _ hk3 hR3 hL3 ?_ (hU.put hlo hhi)
      rw [List.length_append, List.length_append, htl, List.length_singleton, List.length_drop]; omega
    refine T.seq_k (fun K_h4 h4 => ?_)
    by_cases hp0 : p = 0
    · have e1 : decide ((p : Int) > 0) = false := decide_eq_false (by omega)
      refine T.seq_k (fun K_h0 h0 => ?_)
      refine T.regi hm ?_
      simp only [↓reduceIte, namesOf, List.any, I.names, aopsI, astep, ev, setd, List.set, List.getD, List.getElem?_cons_zero, List.getElem?_cons_succ, List.cons_append, List.nil_append, List.replicate, then_normal, Option.getD_some, Bool.or_false, Bool.false_eq_true, up_zero, binv, ↓opt_def, eq_self, e1]
      refine h0 _ _ ?_
      try clear h0 K_h0
      refine T.cond rfl (fun h => by cases h) (fun _ => T.exit ?_)
      try simp only [List.cons_append, List.nil_append, List.replicate, then_normal, inBlock_exit, then_exit]
      exact hend (fun y hy => by subst hp0; simp at hy) _ rfl
    · obtain ⟨b, hne, rfl, hr, hb3, hb4⟩ : ∃ a, r ≠ [] ∧ x = .refr a 3 r.length ∧ u.res a = some (.obj (r.flatMap cO)) ∧ lo ≤ a ∧ a < u.next := hR.resolve_left fun h => by
        have := h.2; subst this; simp at hpl; omega
      have e1 : decide ((p : Int) > 0) = true := decide_eq_true (by omega)
      have e2 : IntKind.i64.wrap ((p : Int) - 1) = ((p - 1 : Nat) : Int) := by rw [wrap64 (by omega) (by omega)]; omega
      have hpr : p - 1 < r.length := by omega
      have hg0 := (flatO_get (List.getElem?_eq_getElem hpr)).1
      have hprI : ((p - 1 : Nat) : Int) < (r.length : Int) := by omega
      have hru : ∀ k, (u.up k).res b = some (.obj (r.flatMap cO)) := fun _ => hr
      have hdrop : r.drop (p - 1) = r[p - 1] :: r.drop p := by rw [List.drop_eq_getElem_cons hpr]; congr 2; omega
      have htake : r.take p = r.take (p - 1) ++ [r[p - 1]] := by
        have := List.take_succ_eq_append_getElem hpr
        rw [show p - 1 + 1 = p by omega] at this; exact this
      generalize r[p - 1] = y at hg0 hdrop htake
      by_cases hgt : y.n > v
      · have e3 : decide (y.n > v) = true := decide_eq_true hgt
        refine T.seq_k (fun K_h0 h0 => ?_)
        refine T.regi hm ?_
        simp only [↓reduceIte, namesOf, List.any, I.names, aopsI, astep, ev, setd, List.set, List.getD, List.getElem?_cons_zero, List.getElem?_cons_succ, List.cons_append, List.nil_append, List.length_cons, List.length_nil, List.replicate, then_normal, Option.getD_some, Bool.or_false, Bool.false_eq_true, up_zero, binv, ↓opt_def, AV.cells, ldc, Int.natCast_nonneg, lt_len, Int.toNat_natCast, and_true, eq_self, e1, e2, hr, hg0, hprI, hil, hgi, hjl, hgj, e3, Nat.add_zero, Nat.zero_add]
        refine h0 _ _ ?_
        try clear h0 K_h0
        refine T.cond rfl (fun _ => T.skip ?_) (fun h => by cases h)
        refine h4 _ _ ?_
        try clear h4 K_h4
        refine T.block ?_
        refine T.regi hm ?_
        simp only [↓reduceIte, namesOf, List.any, I.names, aopsI, astep, ev, setd, List.set, List.getD, List.getElem?_cons_zero, List.getElem?_cons_succ, List.cons_append, List.nil_append, List.replicate, then_normal, inBlock_normal, Option.getD_some, Bool.or_false, Bool.false_eq_true, up_zero, binv, ↓opt_def, eq_self, e2]
        refine ⟨by omega, _, _, Gh.keep [0, 3, 4, 5, 6, 7, 8, 9], rfl, ?_, ?_⟩
        · rw [show r.length - (k + 1) = p - 1 by omega, hdrop]
          intro z hz
          rcases List.mem_cons.1 hz with rfl | hz
          · omega
          · exact hhi z hz
        · rw [show r.length - (k + 1) = p - 1 by omega]; rfl
      · have e3 : decide (y.n > v) = false := decide_eq_false hgt
        refine T.seq_k (fun K_h0 h0 => ?_)
        refine T.regi hm ?_
        simp only [↓reduceIte, namesOf, List.any, I.names, aopsI, astep, ev, setd, List.set, List.getD, List.getElem?_cons_zero, List.getElem?_cons_succ, List.cons_append, List.nil_append, List.length_cons, List.length_nil, List.replicate, then_normal, Option.getD_some, Bool.or_false, Bool.false_eq_true, up_zero, binv, ↓opt_def, AV.cells, ldc, Int.natCast_nonneg, lt_len, Int.toNat_natCast, and_true, eq_self, e1, e2, hr, hg0, hprI, hil, hgi, hjl, hgj, e3, Nat.add_zero, Nat.zero_add]
        refine h0 _ _ ?_
        try clear h0 K_h0
        refine T.cond rfl (fun h => by cases h) (fun _ => T.exit ?_)
        try simp only [List.cons_append, List.nil_append, List.replicate, then_normal, inBlock_exit, then_exit]
        refine hend (fun z hz => ?_) _ rfl
        rw [htake] at hz
        rcases List.mem_append.1 hz with hz | hz
        · have h0 : UpO (r.take (p - 1) ++ (y :: r.drop p)) := by rw [← hdrop, List.take_append_drop]; exact hU
          have h9 := (List.pairwise_append.1 h0).2.2 z hz y (by simp)
          have h9' : z.n ≤ y.n := h9
          omega
        · rw [List.mem_singleton] at hz; subst hz; omega
  rcases hR with ⟨rfl, rfl⟩ | ⟨b, hne, rfl, hr, hb3, hb4⟩
  · refine T.regi hm ?_
    simp only [↓reduceIte, namesOf, List.any, I.names, aopsI, astep, ev, setd, List.set, List.getD, List.getElem?_cons_zero, List.getElem?_cons_succ, List.cons_append, List.nil_append, List.length_nil, List.replicate, then_normal, Option.getD_some, Bool.or_false, Bool.false_eq_true, up_zero]
    exact h2 _ rfl
  · refine T.regi hm ?_
    simp only [↓reduceIte, namesOf, List.any, I.names, aopsI, astep, ev, setd, List.set, List.getD, List.getElem?_cons_zero, List.getElem?_cons_succ, List.cons_append, List.nil_append, List.replicate, then_normal, Option.getD_some, Bool.or_false, Bool.false_eq_true, up_zero]
    exact h2 _ rfl

theorem splO {s : List On} {k : Nat} {y : On} (h : s[k]? = some y) (v : Int) :
    splice (s.flatMap cO) (k * 3 + 1) [.int .i64 v] = (s.set k ⟨y.n, v, y.at_⟩).flatMap cO ∧ splice (s.flatMap cO) (k * 3 + 2) [.int .i64 v] = (s.set k ⟨y.n, y.row, v⟩).flatMap cO := by
  obtain ⟨hk, rfl⟩ := List.getElem?_eq_some_iff.1 h
  have hP : ((s.take k).flatMap cO).length = k * 3 := by rw [flatk_len cO_len, List.length_take]; congr 1; omega
  have hs : s.flatMap cO = (s.take k).flatMap cO ++ (cO s[k] ++ (s.drop (k + 1)).flatMap cO) := by
    conv => lhs; rw [← List.take_append_drop k s, List.drop_eq_getElem_cons hk, List.flatMap_append, List.flatMap_cons]
  have hz : ∀ z : On, (s.set k z).flatMap cO = (s.take k).flatMap cO ++ (cO z ++ (s.drop (k + 1)).flatMap cO) := fun z => by
    rw [List.set_eq_take_append_cons_drop, if_pos hk, List.flatMap_append, List.flatMap_cons]
  constructor
  · rw [hz, hs]
    unfold splice
    rw [← hP, List.take_length_add_append, Nat.add_assoc, List.drop_length_add_append]
    simp
  · rw [hz, hs]
    unfold splice
    rw [← hP, List.take_length_add_append, Nat.add_assoc, List.drop_length_add_append]
    simp

/-- the places told -/
def Told (i : Nat) (s : List On) (k : Nat) : Prop := ∀ (m : Nat) (y : On), s[m]? = some y → m < k → y.row = (i : Int) ∧ y.at_ = (m : Int)

theorem Told.step {i k : Nat} {s : List On} {y : On} (h : Told i s k) (hk : s[k]? = some y) : Told i (s.set k ⟨y.n, i, k⟩) (k + 1) := by
  intro m z hm hlt
  rw [List.getElem?_set] at hm
  by_cases hkm : k = m
  · subst hkm
    rw [if_pos rfl, if_pos (List.getElem?_eq_some_iff.1 hk).1] at hm
    cases hm; exact ⟨rfl, rfl⟩
  · rw [if_neg hkm] at hm
    exact h m z hm (by omega)

theorem UpO.same {s : List On} {k : Nat} {y z : On} (h : UpO s) (hk : s[k]? = some y) (hn : z.n = y.n) : UpO (s.set k z) := by
  obtain ⟨hk', rfl⟩ := List.getElem?_eq_some_iff.1 hk
  have key : ∀ (m : Nat) (w : On), (s.set k z)[m]? = some w → ∃ w', s[m]? = some w' ∧ w.n = w'.n := fun m w hm => by
    rw [List.getElem?_set] at hm
    by_cases hkm : k = m
    · subst hkm
      rw [if_pos rfl, if_pos hk'] at hm
      cases hm; exact ⟨_, hk, hn⟩
    · rw [if_neg hkm] at hm; exact ⟨w, hm, rfl⟩
  rw [UpO, List.pairwise_iff_getElem] at h ⊢
  intro a b ha hb hab
  obtain ⟨w1, h1, e1⟩ := key a _ (List.getElem?_eq_getElem ha)
  obtain ⟨w2, h2, e2⟩ := key b _ (List.getElem?_eq_getElem hb)
  obtain ⟨q1, rfl⟩ := List.getElem?_eq_some_iff.1 h1
  obtain ⟨q2, rfl⟩ := List.getElem?_eq_some_iff.1 h2
  rw [e1, e2]
  exact h a b q1 q2 hab

set_option maxRecDepth 10000 in
theorem kset_ok {L x4 n5 x : AV} {i : Nat} {r : List On} {t0 t : St} {Q : Ex → List AV → St → Prop} (hR : RO .nil t0.next t x r) (hL : Like t0 t) (hn : r.length ≤ 1048576) (hU : UpO r)
    (hq : ∀ ρ' t' r', keep [0, 3, 4, 5, 6, 7] 0 ρ' = [L, .any, .any, .bool true, x4, n5, .int .i64 (i : Int), x] ++ List.replicate 154 .any → RO .nil t0.next t' x r' → Like t0 t' → r'.length = r.length → UpO r' → Told i r' r.length → Q .normal ρ' t') :
    T Try.prog ann_kwaySorts c_ksB6 Q ([L, .any, .any, .bool true, x4, n5, .int .i64 (i : Int), x, .any, .any, .any, .int .i64 0] ++ List.replicate 150 .any) t := by
  refine T.block ?_
  refine T.loopi (fun k ρ u => ∃ s, RO .nil t0.next u x s ∧ Like t0 u ∧ s.length = r.length ∧ UpO s ∧ Told i s k ∧ ρ = [L, .any, .any, .bool true, x4, n5, .int .i64 (i : Int), x, .any, .any, .any, .int .i64 (k : Int)] ++ List.replicate 150 .any)
    r.length 0 (Nat.zero_le _) ⟨r, hR, hL, rfl, hU, fun m y _ h => by omega, rfl⟩ ?_
  rintro k ρ u hkl ⟨s, hRs, hLs, hsl, hUs, hTs, rfl⟩
  refine T.seq_k (fun K_h1 h1 => ?_)
  rcases hRs with ⟨rfl, rfl⟩ | ⟨b, hne, hx, hr, hb3, hb4⟩
  · have hk0 : k = 0 := by simp at hsl; omega
    subst hk0
    refine T.seq_k (fun K_h0 h0 => ?_)
    refine T.regi hm ?_
    simp only [↓reduceIte, namesOf, List.any, I.names, aopsI, astep, ev, setd, List.set, List.getD, List.getElem?_cons_zero, List.getElem?_cons_succ, List.cons_append, List.nil_append, List.length_nil, List.replicate, then_normal, Option.getD_some, Bool.or_false, Bool.false_eq_true, up_zero, Nat.reduceAdd, binv, ↓opt_def, eq_self, Int.natCast_zero, Int.lt_irrefl, decide_false]
    refine h0 _ _ ?_
    try clear h0 K_h0
    refine T.cond rfl (fun h => by cases h) (fun _ => T.exit ?_)
    try simp only [List.cons_append, List.nil_append, List.replicate, Nat.reduceAdd, inBlock_exit, then_exit]
    exact hq _ _ [] rfl (.inl ⟨rfl, rfl⟩) hLs hsl hUs (fun m y h => by simp at h)
  rw [hsl] at hx
  subst hx
  by_cases hkr : k < r.length
  · refine T.seq_k (fun K_h0 h0 => ?_)
    refine T.regi hm ?_
    simp only [↓reduceIte, namesOf, List.any, I.names, aopsI, astep, ev, setd, List.set, List.getD, List.getElem?_cons_zero, List.getElem?_cons_succ, List.cons_append, List.nil_append, List.replicate, then_normal, Option.getD_some, Bool.or_false, Bool.false_eq_true, up_zero, binv, ↓opt_def, lt_len, true_and, eq_self, decide_true, hkr]
    refine h0 _ _ ?_
    try clear h0 K_h0
    refine T.cond rfl (fun _ => T.skip ?_) (fun h => by cases h)
    refine h1 _ _ ?_
    try clear h1 K_h1
    have hks : k < s.length := by omega
    have hw := inc64' hkr (by omega)
    obtain ⟨y, hy⟩ : ∃ y, s[k]? = some y := ⟨_, List.getElem?_eq_getElem hks⟩
    obtain ⟨hsp1, _⟩ := splO hy (i : Int)
    have hy1 : (s.set k ⟨y.n, i, y.at_⟩)[k]? = some ⟨y.n, i, y.at_⟩ := by rw [List.getElem?_set, if_pos rfl, if_pos hks]
    obtain ⟨_, hsp2⟩ := splO hy1 (k : Int)
    rw [List.set_set] at hsp2
    have hfl : (s.flatMap cO).length = s.length * 3 := flatk_len cO_len s
    have hfl1 : ((s.set k ⟨y.n, i, y.at_⟩).flatMap cO).length = s.length * 3 := by rw [flatk_len cO_len, List.length_set]
    have hl1 : k * 3 + 1 + 1 ≤ (s.flatMap cO).length := by omega
    have hl2 : k * 3 + 2 + 1 ≤ ((s.set k ⟨y.n, i, y.at_⟩).flatMap cO).length := by omega
    have hkI : (k : Int) < (r.length : Int) := by omega
    refine T.seq_k (fun K_h2 h2 => ?_)
    refine T.block ?_
    refine T.seq_k (fun K_h3 h3 => ?_)
    refine T.regi hm ?_
    simp only [↓reduceIte, namesOf, List.any, I.names, aopsI, astep, ev, setd, List.set, List.getD, List.getElem?_cons_zero, List.getElem?_cons_succ, List.cons_append, List.nil_append, List.length_cons, List.length_nil, List.replicate, then_normal, Option.getD_some, Bool.or_false, Bool.false_eq_true, up_zero, Nat.reduceAdd, AV.isAny, AV.cells, Int.natCast_nonneg, Int.toNat_natCast, true_and, and_true, eq_self, decide_true, hkI, hkr, hr, hsp1, hl1, AV.fits, AV.one, List.all_cons, List.all_nil, Nat.reduceBEq, Bool.not_false, Bool.and_self, decide_true]
    refine h3 _ _ ?_
    try clear h3 K_h3
    refine T.regi hm ?_
    simp only [↓reduceIte, namesOf, List.any, I.names, aopsI, astep, ev, setd, List.set, List.getD, List.getElem?_cons_zero, List.getElem?_cons_succ, List.cons_append, List.nil_append, List.length_cons, List.length_nil, List.replicate, then_normal, inBlock_normal, Option.getD_some, Bool.or_false, Bool.false_eq_true, up_zero, Nat.reduceAdd, AV.isAny, AV.cells, St.set_same, Int.natCast_nonneg, Int.toNat_natCast, true_and, and_true, eq_self, decide_true, hkI, hkr, hsp2, hl2, AV.fits, AV.one, List.all_cons, List.all_nil, Nat.reduceBEq, Bool.not_false, Bool.and_self, decide_true]
    refine h2 _ _ ?_
    try clear h2 K_h2
    refine T.regi hm ?_
    simp only [↓reduceIte, namesOf, List.any, I.names, aopsI, astep, ev, setd, List.set, List.getD, List.getElem?_cons_zero, List.getElem?_cons_succ, List.cons_append, List.nil_append, List.replicate, then_normal, Option.getD_some, Bool.or_false, Bool.false_eq_true, up_zero, binv, ↓opt_def, eq_self, hw]
    refine ⟨hkr, _, _, Gh.keep [0, 3, 4, 5, 6, 7, 11], s.set k ⟨y.n, i, k⟩, .inr ⟨b, ?_, by rw [List.length_set, hsl], St.set_same _ _ _, hb3, hb4⟩, (hLs.set _ hb3).set _ hb3, by rw [List.length_set]; exact hsl, hUs.same hy rfl, hTs.step hy, rfl⟩
    intro e
    have := congrArg List.length e
    rw [List.length_set] at this
    have h0 : s.length = 0 := this
    omega
  · refine T.seq_k (fun K_h0 h0 => ?_)
    refine T.regi hm ?_
    simp only [↓reduceIte, namesOf, List.any, I.names, aopsI, astep, ev, setd, List.set, List.getD, List.getElem?_cons_zero, List.getElem?_cons_succ, List.cons_append, List.nil_append, List.replicate, then_normal, Option.getD_some, Bool.or_false, Bool.false_eq_true, up_zero, binv, ↓opt_def, lt_len, eq_self, hkr, decide_false]
    refine h0 _ _ ?_
    try clear h0 K_h0
    refine T.cond rfl (fun h => by cases h) (fun _ => T.exit ?_)
    try simp only [List.cons_append, List.nil_append, List.replicate, inBlock_exit, then_exit]
    have hke : k = r.length := by omega
    subst hke
    exact hq _ _ s rfl (.inr ⟨b, hne, by rw [hsl], hr, hb3, hb4⟩) hLs hsl hUs hTs

end Go.VL

namespace Go.VL

open Go.Proofs

abbrev c_ksB1 : C := (.block 1 (.seq (.reg [⟨(some 7), (.mv (.c (.sl [] .nil))), none⟩]) (.seq (.seq (.reg [⟨(some 8), (.mv (.c (.int .i64 0))), none⟩]) (.block 2 (.loop (.seq (.seq (.reg [⟨(some 23), (.mv (.t 8)), none⟩, ⟨(some 24), (.mv (.t 0)), none⟩, ⟨(some 25), (.mv (.t 6)), none⟩, ⟨(some 26), (.iaddr 1 (.t 24) (.t 25)), none⟩, ⟨(some 27), (.load none (.t 26)), none⟩, ⟨(some 28), (.len (.t 27)), none⟩, ⟨(some 29), (.bin .lss .i64 (.t 23) (.t 28)), none⟩]) (.cond (.t 29) .skip (.exit 2))) (.seq c_ksB3 (.reg [⟨(some 30), (.mv (.t 8)), none⟩, ⟨(some 31), (.bin .add .i64 (.t 30) (.c (.int .i64 1))), none⟩, ⟨(some 8), (.mv (.t 31)), none⟩])))))) (.seq (.seq (.reg [⟨(some 11), (.mv (.c (.int .i64 0))), none⟩]) c_ksB6) (.seq (.reg [⟨(some 91), (.mv (.t 5)), none⟩, ⟨(some 92), (.mv (.t 7)), none⟩, ⟨(some 93), (.len (.t 92)), none⟩, ⟨(some 94), (.bin .add .i64 (.t 91) (.t 93)), none⟩, ⟨(some 5), (.mv (.t 94)), none⟩]) (.reg [⟨(some 95), (.mv (.t 4)), none⟩, ⟨(some 96), (.mv (.t 7)), none⟩, ⟨(some 97), (.bslice 1 .val [(.t 96)]), none⟩, ⟨(some 98), (.app 1 24 .tip (.t 95) (.t 97)), none⟩, ⟨(some 4), (.mv (.t 98)), none⟩]))))))

theorem nodup_leG {α : Type} [DecidableEq α] : ∀ {a b : List α}, a.Nodup → (∀ x ∈ a, x ∈ b) → a.length ≤ b.length
  | [], _, _, _ => by simp
  | x :: a, b, hn, hs => by
    obtain ⟨h1, h2⟩ := List.nodup_cons.1 hn
    have hx := hs x (by simp)
    have ih := nodup_leG (a := a) (b := b.erase x) h2 (fun y hy => by
      have hne : y ≠ x := fun e => h1 (e ▸ hy)
      exact (List.mem_erase_of_ne hne).2 (hs y (List.mem_cons_of_mem _ hy)))
    have := List.length_erase_of_mem hx
    have := List.length_pos_of_mem hx
    simp only [List.length_cons]; omega

/-- all places of rows -/
def allP {α : Type} (rows : List (List α)) : List (Nat × Nat) := (List.range rows.length).flatMap fun i => (List.range ((rows[i]?.map List.length).getD 0)).map fun j => (i, j)

theorem allP_len {α : Type} (rows : List (List α)) : (allP rows).length = (rows.map List.length).sum := by
  unfold allP
  rw [List.length_flatMap]
  congr 1
  refine List.ext_getElem (by simp) (fun i h1 h2 => ?_)
  have hi : i < rows.length := by simpa using h2
  simp [hi]

theorem allP_nodup {α : Type} (rows : List (List α)) : (allP rows).Nodup := by
  unfold allP List.Nodup
  rw [List.pairwise_flatMap]
  refine ⟨fun i _ => ?_, ?_⟩
  · rw [List.pairwise_map]
    exact (List.pairwise_lt_range).imp (fun h e => by simp at e; omega)
  · refine (List.pairwise_lt_range).imp (fun {a b} h x hx y hy e => ?_)
    obtain ⟨_, _, rfl⟩ := List.mem_map.1 hx
    obtain ⟨_, _, rfl⟩ := List.mem_map.1 hy
    simp at e; omega

theorem KOut.full {α : Type} {key : α → Int} {rows : List (List α)} {ps : List (Nat × Nat)} (h : KOut key rows ps) : ps.length = (rows.map List.length).sum := by
  refine Nat.le_antisymm h.len ?_
  rw [← allP_len]
  refine nodup_leG (allP_nodup rows) (fun p hp => ?_)
  unfold allP at hp
  rw [List.mem_flatMap] at hp
  obtain ⟨i, hi, hp⟩ := hp
  obtain ⟨j, hj, rfl⟩ := List.mem_map.1 hp
  have hi' : i < rows.length := by simpa using hi
  have hj' : j < rows[i].length := by simpa [hi'] using hj
  exact (h.all _).2 ⟨rows[i][j], by simp [atP, hi', hj']⟩

theorem KOut.out_len {α : Type} {key : α → Int} {rows : List (List α)} {ps : List (Nat × Nat)} (h : KOut key rows ps) : (outP rows ps).length = (rows.map List.length).sum := by
  rw [← h.full]
  have key' : ∀ l : List (Nat × Nat), (∀ p ∈ l, ∃ a, atP rows p = some a) → (outP rows l).length = l.length := by
    intro l
    induction l with
    | nil => intro _; rfl
    | cons p l ih =>
      intro hl
      obtain ⟨a, ha⟩ := hl p (by simp)
      have := ih (fun q hq => hl q (List.mem_cons_of_mem _ hq))
      simp only [outP, List.filterMap_cons, ha, List.length_cons] at this ⊢
      rw [this]
  exact key' ps (fun p hp => (h.all p).1 hp)

/-- what stands at places, in order -/
theorem outP_sortedP {α : Type} {key : α → Int} {rows : List (List α)} {ps : List (Nat × Nat)} (h : ps.Pairwise (posLt key rows)) :
    (outP rows ps).Pairwise fun a b => ∃ p q, atP rows p = some a ∧ atP rows q = some b ∧ (key a < key b ∨ key a = key b ∧ (p.1 < q.1 ∨ p.1 = q.1 ∧ p.2 < q.2)) := by
  unfold outP
  rw [List.pairwise_filterMap]
  refine h.imp (fun {p q} hpq a ha b hb => ?_)
  obtain ⟨a', b', h1, h2, h3⟩ := hpq
  have e1 : a = a' := by rw [h1] at ha; cases ha; rfl
  have e2 : b = b' := by rw [h2] at hb; cases hb; rfl
  subst e1; subst e2
  exact ⟨p, q, h1, h2, h3⟩

/-- the rows so far -/
def XR (lo : Nat) (t : St) (x : AV) (rows : List (List On)) : Prop := (x = .sl [] .nil ∧ rows = []) ∨ ∃ g, x = .sl (rwAVO rows) (.tip g) ∧ t.res g = some (.tip 1) ∧ lo ≤ g ∧ g < t.next

theorem XR.like {lo : Nat} {t u : St} {x : AV} {rows : List (List On)} (h : XR lo t x rows) (hl : Like t u) : XR lo u x rows := by
  rcases h with h | ⟨a, h2, h3, h4, h5⟩
  · exact .inl h
  · exact .inr ⟨a, h2, by rw [hl.same a h5]; exact h3, h4, Nat.lt_of_lt_of_le h5 hl.next⟩

theorem rwO_all (l : List (List On)) : (rwAVO l).all (AV.fits 1) = true := by
  simp [rwAVO, AV.fits, AV.isAny, AV.cells, AV.one]

set_option maxRecDepth 10000 in
theorem krow_ok {l : List (List Int)} {g : Ver} {x4 : AV} {i lo n : Nat} {rows : List (List On)} {row : List Int} {t0 : St} {Q : Ex → List AV → St → Prop} (hX : XR lo t0 x4 rows) (hlo : lo ≤ t0.next)
    (hi : l[i]? = some row) (hrl : row.length ≤ 1048576) (hrn : rows.length ≤ 1048576) (hnn : n + row.length ≤ 1048576)
    (hq : ∀ ρ' t' x' r, keep [0, 3, 4, 5, 6] 0 ρ' = [.sl (isAV l) g, .any, .any, .bool true, x', .int .i64 ((n + row.length : Nat) : Int), .int .i64 (i : Int)] ++ List.replicate 155 .any → XR lo t' x' (rows ++ [r]) → (∀ m, m < lo → t'.res m = t0.res m) → lo ≤ t'.next → r.length = row.length → UpO r → Told i r r.length → Q .normal ρ' t') :
    T Try.prog ann_kwaySorts c_ksB1 Q ([.sl (isAV l) g, .any, .any, .bool true, x4, .int .i64 (n : Int), .int .i64 (i : Int)] ++ List.replicate 155 .any) t0 := by
  have hil : i < (isAV l).length := by rw [isAV_len]; exact (List.getElem?_eq_some_iff.1 hi).1
  have hgi := isAV_get hi
  refine T.block ?_
  refine T.seq_k (fun K_h0 h0 => ?_)
  refine T.regi hm ?_
  simp only [↓reduceIte, namesOf, List.any, I.names, aopsI, astep, ev, setd, List.set, List.cons_append, List.nil_append, List.replicate, then_normal, Bool.or_false, Bool.false_eq_true, up_zero]
  refine h0 _ _ ?_
  try clear h0 K_h0
  refine T.seq_k (fun K_h1 h1 => ?_)
  refine T.seq_k (fun K_h0 h0 => ?_)
  refine T.regi hm ?_
  simp only [↓reduceIte, namesOf, List.any, I.names, aopsI, astep, ev, setd, List.set, then_normal, Bool.or_false, Bool.false_eq_true, up_zero]
  refine h0 _ _ ?_
  try clear h0 K_h0
  refine T.block ?_
  refine T.gh (Gh.keep [0, 3, 4, 5, 6, 7, 8]) ?_
  refine T.loopi (fun j ρ u => ∃ x r, RO .nil t0.next u x r ∧ Like t0 u ∧ r.length = j ∧ UpO r ∧ ρ = [.sl (isAV l) g, .any, .any, .bool true, x4, .int .i64 (n : Int), .int .i64 (i : Int), x, .int .i64 (j : Int)] ++ List.replicate 153 .any)
    row.length 0 (Nat.zero_le _) ⟨_, [], .inl ⟨rfl, rfl⟩, .refl _, rfl, .nil, rfl⟩ ?_
  rintro j ρ u hjl ⟨x, r, hR, hL, hrj, hU, rfl⟩
  refine T.seq_k (fun K_h2 h2 => ?_)
  by_cases hj : j < row.length
  · refine T.seq_k (fun K_h0 h0 => ?_)
    refine T.regi hm ?_
    simp only [↓reduceIte, namesOf, List.any, I.names, aopsI, astep, ev, setd, List.set, List.getD, List.getElem?_cons_zero, List.getElem?_cons_succ, List.cons_append, List.nil_append, List.length_cons, List.length_nil, List.replicate, then_normal, Option.getD_some, Bool.or_false, Bool.false_eq_true, up_zero, binv, ↓opt_def, AV.cells, ldc, Int.natCast_nonneg, lt_len, Int.toNat_natCast, true_and, and_true, eq_self, decide_true, hil, hgi, hj, nums_len, Nat.zero_add]
    refine h0 _ _ ?_
    try clear h0 K_h0
    refine T.cond rfl (fun _ => T.skip ?_) (fun h => by cases h)
    refine h2 _ _ ?_
    try clear h2 K_h2
    refine T.seq_k (fun K_h3 h3 => ?_)
    refine T.gh (Gh.keep [0, 3, 4, 5, 6, 7, 8]) ?_
    refine kins_ok hR (by omega) hU hi (List.getElem?_eq_getElem hj) (fun ρ' t' x' r' hk hR' hL' hl' hU' => ?_)
    refine h3 _ _ ?_
    refine T.gh (Gh.keep [0, 3, 4, 5, 6, 7, 8]) ?_
    rw [hk]
    have hw := inc64' hj (by omega)
    refine T.regi hm ?_
    simp only [↓reduceIte, namesOf, List.any, I.names, aopsI, astep, ev, setd, List.set, List.getD, List.getElem?_cons_zero, List.getElem?_cons_succ, List.cons_append, List.nil_append, List.replicate, then_normal, Option.getD_some, Bool.or_false, Bool.false_eq_true, up_zero, Nat.reduceAdd, binv, ↓opt_def, eq_self, hw]
    exact ⟨hj, _, _, Gh.keep [0, 3, 4, 5, 6, 7, 8], x', r', hR'.low hL.next, hL.trans hL', by omega, hU', rfl⟩
  · refine T.seq_k (fun K_h0 h0 => ?_)
    refine T.regi hm ?_
    simp only [↓reduceIte, namesOf, List.any, I.names, aopsI, astep, ev, setd, List.set, List.getD, List.getElem?_cons_zero, List.getElem?_cons_succ, List.cons_append, List.nil_append, List.length_cons, List.length_nil, List.replicate, then_normal, Option.getD_some, Bool.or_false, Bool.false_eq_true, up_zero, binv, ↓opt_def, AV.cells, ldc, Int.natCast_nonneg, lt_len, Int.toNat_natCast, and_true, eq_self, hil, hgi, hj, nums_len, decide_false, Nat.zero_add]
    refine h0 _ _ ?_
    try clear h0 K_h0
    refine T.cond rfl (fun h => by cases h) (fun _ => T.exit ?_)
    have hje : j = row.length := by omega
    try simp only [List.cons_append, List.nil_append, List.replicate, then_normal, inBlock_exit, then_exit]
    refine h1 _ _ ?_
    try clear h1 K_h1
    refine T.seq_k (fun K_h4 h4 => ?_)
    refine T.seq_k (fun K_h0 h0 => ?_)
    refine T.regi hm ?_
    simp only [↓reduceIte, namesOf, List.any, I.names, aopsI, astep, ev, setd, List.set, then_normal, Bool.or_false, Bool.false_eq_true, up_zero]
    refine h0 _ _ ?_
    try clear h0 K_h0
    refine T.gh (Gh.keep [0, 3, 4, 5, 6, 7, 11]) ?_
    refine kset_ok hR hL (by omega) hU (fun ρ' t1 r' hk hR' hL' hl' hU' hT' => ?_)
    refine h4 _ _ ?_
    refine T.gh (Gh.keep [0, 3, 4, 5, 6, 7]) ?_
    rw [hk]
    have hgh : ∃ (v : Ver) (u1 : St), Gh ([.sl (isAV l) g, .any, .any, .bool true, x4, .int .i64 (n : Int), .int .i64 (i : Int), x] ++ List.replicate 154 .any) t1 ([.sl (isAV l) g, .any, .any, .bool true, x4, .int .i64 (n : Int), .int .i64 (i : Int), .sl (xsAVO r') v] ++ List.replicate 154 .any) u1 ∧ Like t0 u1 := by
      rcases hR' with ⟨rfl, rfl⟩ | ⟨b, _, rfl, g3, g4, g5⟩
      · exact ⟨.nil, t1, .refl, hL'⟩
      · refine ⟨.none, t1.del b, Gh.frozen (t := 7) (kk := 3) rfl g3 (xsO_len _) (fun x hx => ?_) ?_, hL'.del g4⟩
        · obtain ⟨y, _, rfl⟩ := List.mem_map.1 hx; rfl
        · rw [xsO_flat, List.take_of_length_le (by rw [flatk_len cO_len]; exact Nat.le_refl _)]
    obtain ⟨v, u1, hgh, hLu⟩ := hgh
    refine T.gh hgh ?_
    have hrl' : r'.length = row.length := by omega
    have hw2 : IntKind.i64.wrap ((n : Int) + (r'.length : Int)) = ((n + row.length : Nat) : Int) := by rw [wrap64 (by omega) (by omega)]; omega
    refine T.seq_k (fun K_h5 h5 => ?_)
    refine T.regi hm ?_
    simp only [↓reduceIte, namesOf, List.any, I.names, aopsI, astep, ev, setd, List.set, List.getD, List.getElem?_cons_zero, List.getElem?_cons_succ, List.cons_append, List.nil_append, List.replicate, then_normal, Option.getD_some, Bool.or_false, Bool.false_eq_true, up_zero, binv, ↓opt_def, eq_self, xsO_len, hw2]
    refine h5 _ _ ?_
    try clear h5 K_h5
    have hX1 := hX.like hLu
    have hnx := hLu.next
    have hb1 : ∀ k, k ≤ 1048576 → (k + 1) * 24 ≤ 70368744177664 ∧ k + 1 ≤ 4611686018427387904 := fun k hk => by omega
    rcases hX1 with ⟨rfl, rfl⟩ | ⟨a, rfl, hr, ha1, ha2⟩
    · refine T.regi hm ?_
      simp only [↓reduceIte, namesOf, List.any, I.names, aopsI, astep, ev, setd, List.set, List.getD, List.getElem?_cons_zero, List.getElem?_cons_succ, List.nil_append, List.length_cons, List.length_nil, inBlock_normal, Option.getD_some, Bool.or_false, Bool.or_true, Bool.false_eq_true, Nat.reduceAdd, AV.isAny, AV.cells, List.map_cons, List.map_nil, eq_self, decide_true, held, srcOf, AV.er, AV.er1, AV.fits, AV.one, List.all_cons, List.all_nil, Nat.reduceBEq, Bool.not_false, Bool.and_self, Nat.zero_add, Nat.reduceLeDiff, Nat.one_mul, and_self, List.isEmpty]
      refine hq _ _ (.sl (rwAVO ([] ++ [r'])) (.tip (u1.next + 3))) r' rfl (.inr ⟨u1.next + 3, rfl, St.set_same _ _ _, by omega, by simp⟩) (fun m hm => ?_) (by simp; omega) hrl' hU' (by rw [hl']; exact hT')
      rw [St.set_other _ _ (by omega)]
      exact hLu.same m (by omega)
    · have hru : ∀ k, (u1.up k).res a = some (.tip 1) := fun _ => hr
      obtain ⟨q1, q2⟩ := hb1 _ hrn
      have hfit := rwO_all (rows ++ [r'])
      have happ : rwAVO rows ++ [.sl (xsAVO r') .none] = rwAVO (rows ++ [r']) := by simp [rwAVO]
      refine T.regi hm ?_
      simp only [↓reduceIte, namesOf, List.any, I.names, aopsI, astep, ev, setd, List.set, List.getD, List.getElem?_cons_zero, List.getElem?_cons_succ, List.length_cons, List.length_nil, inBlock_normal, Option.getD_some, Bool.or_false, Bool.or_true, Nat.reduceAdd, AV.isAny, AV.cells, List.map_cons, List.map_nil, eq_self, decide_true, held, srcOf, AV.er, AV.er1, hru, happ, hfit, rwO_len, q1, q2, AV.fits, AV.one, List.all_cons, List.all_nil, Nat.reduceBEq, Bool.not_false, Bool.and_self, Nat.zero_add, and_self]
      refine hq _ _ (.sl (rwAVO (rows ++ [r'])) (.tip (u1.next + 3))) r' rfl (.inr ⟨u1.next + 3, rfl, St.set_same _ _ _, by omega, by simp⟩) (fun m hm => ?_) (by simp; omega) hrl' hU' (by rw [hl']; exact hT')
      rw [St.set_other _ _ (by omega)]
      have hma : m ≠ a := by omega
      simp only [St.del]
      rw [if_neg hma]
      exact hLu.same m (by omega)

end Go.VL

namespace Go.VL

open Go.Proofs

theorem atP_some {rows : List (List On)} {p : Nat × Nat} {a : On} (h : atP rows p = some a) (hT : ∀ (k : Nat) (r : List On), rows[k]? = some r → Told k r r.length) : a.row = (p.1 : Int) ∧ a.at_ = (p.2 : Int) := by
  unfold atP at h
  cases h1 : rows[p.1]? with
  | none => rw [h1] at h; simp at h
  | some r =>
    rw [h1] at h
    simp only [Option.bind_some] at h
    exact hT _ _ h1 _ _ h (List.getElem?_eq_some_iff.1 h).1

/-- of two neighbours that are put out the first one comes ahead -/
theorem out_lt {rows : List (List On)} {ps : List (Nat × Nat)} (hK : KOut keyO rows ps) (hT : ∀ (k : Nat) (r : List On), rows[k]? = some r → Told k r r.length) {i j : Nat} {a b : On} (hij : i < j) (ha : (outP rows ps)[i]? = some a) (hb : (outP rows ps)[j]? = some b) :
    a.n < b.n ∨ a.n = b.n ∧ (a.row < b.row ∨ a.row = b.row ∧ a.at_ < b.at_) := by
  obtain ⟨hi, rfl⟩ := List.getElem?_eq_some_iff.1 ha
  obtain ⟨hj, rfl⟩ := List.getElem?_eq_some_iff.1 hb
  obtain ⟨p, q, h1, h2, h3⟩ := List.pairwise_iff_getElem.1 (outP_sortedP hK.sorted) i j hi hj hij
  obtain ⟨a1, a2⟩ := atP_some h1 hT
  obtain ⟨b1, b2⟩ := atP_some h2 hT
  rw [a1, a2, b1, b2]
  simp only [keyO] at h3
  omega

set_option maxRecDepth 10000 in
set_option maxHeartbeats 1000000 in
theorem kwaySorts_ok {l : List (List Int)} {g : Ver} {σ : St} (hl : l.length ≤ 1048576) (htot : (l.map List.length).sum ≤ 1048576) :
    ACalls Try.prog n_kwaySorts [.sl (isAV l) g] σ (fun v σ' => v = .bool true ∧ σ' = σ) := by
  refine s_kwaySorts (fun wf => ?_)
  unfold c_kwaySorts
  refine T.seq_k (fun K_h0 h0 => ?_)
  refine T.regi hm ?_
  simp only [↓reduceIte, namesOf, List.any, I.names, aopsI, astep, ev, setd, List.set, List.cons_append, List.nil_append, List.length_cons, List.length_nil, List.replicate, then_normal, Bool.or_false, Bool.false_eq_true, up_zero, Nat.reduceAdd, Nat.reduceSub]
  refine h0 _ _ ?_
  try clear h0 K_h0
  refine T.seq_k (fun K_h1 h1 => ?_)
  refine T.regi hm ?_
  simp only [↓reduceIte, namesOf, List.any, I.names, aopsI, astep, ev, setd, List.set, List.getD, List.getElem?_cons_zero, List.getElem?_cons_succ, then_normal, Option.getD_some, Bool.or_false, Bool.false_eq_true, up_zero, List.map_nil]
  refine up10_ok.mono ?_
  rintro v σ1 ⟨rfl, rfl⟩
  try simp only [↓reduceIte, namesOf, List.any, I.names, aops, aopsI, aopsT, qstep, CPt, qget, Tbl.get, astep, ev, setd, List.set, List.getD, List.getElem?_cons_zero, List.getElem?_cons_succ, List.getElem?_nil, List.cons_append, List.nil_append, List.length_cons, List.length_nil, List.replicate, then_normal, inBlock_normal, Option.getD_some, Option.getD_none, Bool.or_false, Bool.or_true, Bool.true_or, Bool.false_or, Bool.false_eq_true, if_false, if_true, up_zero, Nat.reduceAdd, Nat.reduceSub, binv, ↓opt_def, AV.isAny, AV.cells, ldc, List.map_cons, List.map_nil, St.set_next, St.set_same, St.up_next, Int.natCast_nonneg, lt_len, le_len, Int.toNat_natCast, true_and, and_true, eq_self, reduceCtorEq, decide_true, List.length_singleton, er_int, er_bool, er_str, srcR, up_zero]
  refine h1 _ _ ?_
  try clear h1 K_h1
  refine T.seq_k (fun K_h0 h0 => ?_)
  refine T.regi hm ?_
  simp only [↓reduceIte, namesOf, List.any, I.names, aopsI, astep, ev, setd, List.set, then_normal, Bool.or_false, Bool.false_eq_true, up_zero]
  refine h0 _ _ ?_
  try clear h0 K_h0
  refine T.seq_k (fun K_h0 h0 => ?_)
  refine T.regi hm ?_
  simp only [↓reduceIte, namesOf, List.any, I.names, aopsI, astep, ev, setd, List.set, then_normal, Bool.or_false, Bool.false_eq_true, up_zero]
  refine h0 _ _ ?_
  try clear h0 K_h0
  refine T.seq_k (fun K_h1 h1 => ?_)
  refine T.seq_k (fun K_h0 h0 => ?_)
  refine T.regi hm ?_
  simp only [↓reduceIte, namesOf, List.any, I.names, aopsI, astep, ev, setd, List.set, then_normal, Bool.or_false, Bool.false_eq_true, up_zero]
  refine h0 _ _ ?_
  try clear h0 K_h0
  refine T.block ?_
  refine T.gh (Gh.keep [0, 3, 4, 5, 6]) ?_
  have htake : ∀ i, ((l.take i).map List.length).sum ≤ (l.map List.length).sum := fun i => by
    conv => rhs; rw [← List.take_append_drop i l, List.map_append, List.sum_append]
    omega
  refine T.loopi (fun i ρ t => ∃ x4 rows, XR σ1.next t x4 rows ∧ Like σ1 t ∧ rows.length = i ∧ rows.map List.length = (l.take i).map List.length ∧ (∀ (k : Nat) (r : List On), rows[k]? = some r → UpO r ∧ Told k r r.length) ∧
      ρ = [.sl (isAV l) g, .any, .any, .bool true, x4, .int .i64 ((((l.take i).map List.length).sum : Nat) : Int), .int .i64 (i : Int)] ++ List.replicate 155 .any)
    l.length 0 (Nat.zero_le _) ⟨_, [], .inl ⟨rfl, rfl⟩, .refl _, rfl, rfl, fun k r h => by simp at h, rfl⟩ ?_
  rintro i ρ t hi ⟨x4, rows, hX, hL, hrl, hrm, hrk, rfl⟩
  refine T.seq_k (fun K_h2 h2 => ?_)
  by_cases hil : i < l.length
  · refine T.seq_k (fun K_h0 h0 => ?_)
    refine T.regi hm ?_
    simp only [↓reduceIte, namesOf, List.any, I.names, aopsI, astep, ev, setd, List.set, List.getD, List.getElem?_cons_zero, List.getElem?_cons_succ, List.cons_append, List.nil_append, List.replicate, then_normal, Option.getD_some, Bool.or_false, Bool.false_eq_true, up_zero, binv, ↓opt_def, lt_len, true_and, eq_self, decide_true, isAV_len, hil]
    refine h0 _ _ ?_
    try clear h0 K_h0
    refine T.cond rfl (fun _ => T.skip ?_) (fun h => by cases h)
    refine h2 _ _ ?_
    try clear h2 K_h2
    have hw := inc64' hil (by omega)
    have hgl : l[i]? = some l[i] := List.getElem?_eq_getElem hil
    have hts : l.take (i + 1) = l.take i ++ [l[i]] := List.take_succ_eq_append_getElem hil
    have hsum : ((l.take (i + 1)).map List.length).sum = ((l.take i).map List.length).sum + l[i].length := by rw [hts, List.map_append, List.sum_append]; simp
    have h9 := htake (i + 1)
    refine T.seq_k (fun K_h3 h3 => ?_)
    refine T.gh (Gh.keep [0, 3, 4, 5, 6]) ?_
    refine krow_ok hX hL.next hgl (by omega) (by omega) (by omega) (fun ρ' t' x' r hk hX' hres hnx hrl' hU hT => ?_)
    refine h3 _ _ ?_
    refine T.gh (Gh.keep [0, 3, 4, 5, 6]) ?_
    rw [hk]
    refine T.regi hm ?_
    simp only [↓reduceIte, namesOf, List.any, I.names, aopsI, astep, ev, setd, List.set, List.getD, List.getElem?_cons_zero, List.getElem?_cons_succ, List.cons_append, List.nil_append, List.replicate, then_normal, Option.getD_some, Bool.or_false, Bool.false_eq_true, up_zero, binv, ↓opt_def, eq_self, hw]
    refine ⟨hil, _, _, Gh.keep [0, 3, 4, 5, 6], x', rows ++ [r], hX', ⟨hnx, fun m hm => (hres m hm).trans (hL.same m hm)⟩, by simp [hrl], by rw [hts, List.map_append, List.map_append, hrm]; simp [hrl'], fun k r' hkr => ?_, ?_⟩
    · rw [List.getElem?_append] at hkr
      split at hkr
      · exact hrk k r' hkr
      · rename_i hge
        have hk0 : k = i := by
          have := (List.getElem?_eq_some_iff.1 hkr).1
          simp at this; omega
        subst hk0
        rw [hrl, Nat.sub_self] at hkr
        cases hkr
        exact ⟨hU, hT⟩
    · rw [hsum]; rfl
  · refine T.seq_k (fun K_h0 h0 => ?_)
    refine T.regi hm ?_
    simp only [↓reduceIte, namesOf, List.any, I.names, aopsI, astep, ev, setd, List.set, List.getD, List.getElem?_cons_zero, List.getElem?_cons_succ, List.cons_append, List.nil_append, List.replicate, then_normal, Option.getD_some, Bool.or_false, Bool.false_eq_true, up_zero, binv, ↓opt_def, lt_len, eq_self, isAV_len, hil, decide_false]
    refine h0 _ _ ?_
    try clear h0 K_h0
    refine T.cond rfl (fun h => by cases h) (fun _ => T.exit ?_)
    have hie : i = l.length := by omega
    subst hie
    rw [List.take_length] at hrm ⊢
    try simp only [List.cons_append, List.nil_append, List.replicate, then_normal, inBlock_exit, then_exit]
    refine h1 _ _ ?_
    try clear h1 K_h1
    refine T.gh (show Gh _ t ([.sl (isAV l) g, .any, .any, .bool true, x4, .int .i64 (((l.map List.length).sum : Nat) : Int)] ++ List.replicate 156 .any) t from Gh.keep [0, 3, 4, 5]) ?_
    have hqu := hL.quiet wf
    refine T.seq_k (fun K_h1 h1 => ?_)
    rcases Nat.lt_or_ge 200 (l.map List.length).sum with hN | hN
    · have e1 : decide ((((l.map List.length).sum : Nat) : Int) > 200) = true := decide_eq_true (by omega)
      refine T.seq_k (fun K_h0 h0 => ?_)
      refine T.regi hm ?_
      simp only [↓reduceIte, namesOf, List.any, I.names, aopsI, astep, ev, setd, List.set, List.getD, List.getElem?_cons_zero, List.getElem?_cons_succ, List.cons_append, List.nil_append, List.replicate, then_normal, Option.getD_some, Bool.or_false, Bool.false_eq_true, up_zero, binv, ↓opt_def, eq_self, reduceCtorEq, e1]
      refine h0 _ _ ?_
      try clear h0 K_h0
      refine T.cond rfl (fun _ => ?_) (fun h => by cases h)
      refine T.seq_k (fun K_h0 h0 => ?_)
      refine T.regi hm ?_
      simp only [↓reduceIte, namesOf, List.any, I.names, aopsI, astep, ev, setd, List.set, List.getD, List.getElem?_cons_zero, List.getElem?_cons_succ, then_normal, Option.getD_some, Bool.or_false, Bool.false_eq_true, up_zero]
      refine h0 _ _ ?_
      try clear h0 K_h0
      exact T.ret (Fin.quiet rfl trivial hqu ⟨rfl, rfl⟩)
    have e1 : decide ((((l.map List.length).sum : Nat) : Int) > 200) = false := decide_eq_false (by omega)
    rcases Nat.lt_or_ge 50 l.length with hl50 | hl50
    · have e2 : decide ((l.length : Int) > 50) = true := decide_eq_true (by omega)
      refine T.seq_k (fun K_h0 h0 => ?_)
      refine T.regi hm ?_
      simp only [↓reduceIte, namesOf, List.any, I.names, aopsI, astep, ev, setd, List.set, List.getD, List.getElem?_cons_zero, List.getElem?_cons_succ, List.cons_append, List.nil_append, List.replicate, then_normal, Option.getD_some, Bool.or_false, Bool.false_eq_true, up_zero, binv, ↓opt_def, eq_self, e1, e2, isAV_len]
      refine h0 _ _ ?_
      try clear h0 K_h0
      refine T.cond rfl (fun _ => ?_) (fun h => by cases h)
      refine T.seq_k (fun K_h0 h0 => ?_)
      refine T.regi hm ?_
      simp only [↓reduceIte, namesOf, List.any, I.names, aopsI, astep, ev, setd, List.set, List.getD, List.getElem?_cons_zero, List.getElem?_cons_succ, then_normal, Option.getD_some, Bool.or_false, Bool.false_eq_true, up_zero]
      refine h0 _ _ ?_
      try clear h0 K_h0
      exact T.ret (Fin.quiet rfl trivial hqu ⟨rfl, rfl⟩)
    have e2 : decide ((l.length : Int) > 50) = false := decide_eq_false (by omega)
    refine T.seq_k (fun K_h0 h0 => ?_)
    refine T.regi hm ?_
    simp only [↓reduceIte, namesOf, List.any, I.names, aopsI, astep, ev, setd, List.set, List.getD, List.getElem?_cons_zero, List.getElem?_cons_succ, List.cons_append, List.nil_append, List.replicate, then_normal, Option.getD_some, Bool.or_false, Bool.false_eq_true, up_zero, binv, ↓opt_def, eq_self, e1, e2, isAV_len]
    refine h0 _ _ ?_
    try clear h0 K_h0
    refine T.cond rfl (fun h => by cases h) (fun _ => T.skip ?_)
    refine h1 _ _ ?_
    try clear h1 K_h1
    obtain ⟨g4, rfl⟩ : ∃ g4, x4 = .sl (rwAVO rows) g4 := by
      rcases hX with ⟨rfl, rfl⟩ | ⟨a, rfl, _⟩
      · exact ⟨.nil, rfl⟩
      · exact ⟨_, rfl⟩
    have hrle : ∀ r ∈ rows, r.length ≤ (rows.map List.length).sum := fun r hr => by
      obtain ⟨a, b, rfl⟩ := List.append_of_mem hr
      simp; omega
    rw [← hrm] at hN ⊢
    refine T.seq_k (fun K_h1 h1 => ?_)
    refine T.regi hm ?_
    simp only [↓reduceIte, namesOf, List.any, I.names, aopsI, astep, ev, setd, List.set, List.getD, List.getElem?_cons_zero, List.getElem?_cons_succ, then_normal, Option.getD_some, Bool.or_false, Bool.false_eq_true, up_zero, List.map_cons, List.map_nil]
    refine (ksortO_ok (rows := rows) (fun r hr => by
      obtain ⟨k, hk⟩ := List.getElem?_of_mem hr
      exact (hrk k r hk).1.rising) (by omega) (fun r hr => by have := hrle r hr; omega) (by omega)).mono ?_
    rintro v t2 ⟨ps, hK, rfl, rfl⟩
    have hol := hK.out_len
    have hlt := fun {i j : Nat} {a b : On} (hij : i < j) (ha : (outP rows ps)[i]? = some a) (hb : (outP rows ps)[j]? = some b) => out_lt hK (fun k r h => (hrk k r h).2) hij ha hb
    generalize (rows.map List.length).sum = N at hol hN ⊢
    generalize outP rows ps = out at hol hlt
    try simp only [↓reduceIte, namesOf, List.any, I.names, aops, aopsI, aopsT, qstep, CPt, qget, Tbl.get, astep, ev, setd, List.set, List.getD, List.getElem?_cons_zero, List.getElem?_cons_succ, List.getElem?_nil, List.cons_append, List.nil_append, List.length_cons, List.length_nil, List.replicate, then_normal, inBlock_normal, Option.getD_some, Option.getD_none, Bool.or_false, Bool.or_true, Bool.true_or, Bool.false_or, Bool.false_eq_true, if_false, if_true, up_zero, Nat.reduceAdd, Nat.reduceSub, binv, ↓opt_def, AV.isAny, AV.cells, ldc, List.map_cons, List.map_nil, St.set_next, St.set_same, St.up_next, Int.natCast_nonneg, lt_len, le_len, Int.toNat_natCast, true_and, and_true, eq_self, reduceCtorEq, decide_true, List.length_singleton, er_int, er_bool, er_str, srcR, up_zero]
    refine h1 _ _ ?_
    try clear h1 K_h1
    refine T.seq_k (fun K_h1 h1 => ?_)
    refine T.seq_k (fun K_h0 h0 => ?_)
    refine T.regi hm ?_
    simp only [↓reduceIte, namesOf, List.any, I.names, aopsI, astep, ev, setd, List.set, List.getD, List.getElem?_cons_zero, List.getElem?_cons_succ, then_normal, Option.getD_some, Bool.or_false, Bool.false_eq_true, up_zero, binv, ↓opt_def, eq_self, xsO_len, hol, bne_self_eq_false]
    refine h0 _ _ ?_
    try clear h0 K_h0
    refine T.cond rfl (fun h => by cases h) (fun _ => T.skip ?_)
    refine h1 _ _ ?_
    try clear h1 K_h1
    refine T.seq_k (fun K_h1 h1 => ?_)
    refine T.seq_k (fun K_h0 h0 => ?_)
    refine T.regi hm ?_
    simp only [↓reduceIte, namesOf, List.any, I.names, aopsI, astep, ev, setd, List.set, then_normal, Bool.or_false, Bool.false_eq_true, up_zero]
    refine h0 _ _ ?_
    try clear h0 K_h0
    refine T.block ?_
    refine T.gh (Gh.keep [3, 12, 13]) ?_
    refine T.loopi (fun k ρ u => 1 ≤ k ∧ Like σ1 u ∧ ρ = [.any, .any, .any, .bool true, .any, .any, .any, .any, .any, .any, .any, .any, .sl (xsAVO out) .none, .int .i64 (k : Int)] ++ List.replicate 148 .any)
      (max 1 N) 1 (Nat.le_max_left _ _) ⟨Nat.le_refl _, hL, rfl⟩ ?_
    rintro k ρ u hkm ⟨hk1, hLu, rfl⟩
    refine T.seq_k (fun K_h2 h2 => ?_)
    by_cases hkl : k < out.length
    · refine T.seq_k (fun K_h0 h0 => ?_)
      refine T.regi hm ?_
      simp only [↓reduceIte, namesOf, List.any, I.names, aopsI, astep, ev, setd, List.set, List.getD, List.getElem?_cons_zero, List.getElem?_cons_succ, List.cons_append, List.nil_append, List.replicate, then_normal, Option.getD_some, Bool.or_false, Bool.false_eq_true, up_zero, binv, ↓opt_def, lt_len, eq_self, decide_true, xsO_len, hkl]
      refine h0 _ _ ?_
      try clear h0 K_h0
      refine T.cond rfl (fun _ => T.skip ?_) (fun h => by cases h)
      refine h2 _ _ ?_
      try clear h2 K_h2
      have e1 : IntKind.i64.wrap ((k : Int) - 1) = ((k - 1 : Nat) : Int) := by rw [wrap64 (by omega) (by omega)]; omega
      have hw := inc64' hkl (by omega)
      have hk2 : k - 1 < out.length := by omega
      have ha : out[k - 1]? = some out[k - 1] := List.getElem?_eq_getElem hk2
      have hb : out[k]? = some out[k] := List.getElem?_eq_getElem hkl
      have hab := hlt (by omega) ha hb
      generalize out[k - 1] = a at ha hab
      generalize out[k] = b at hb hab
      have hga := xsO_get ha
      have hgb := xsO_get hb
      refine T.seq_k (fun K_h3 h3 => ?_)
      refine T.block ?_
      refine T.seq_k (fun K_h0 h0 => ?_)
      refine T.regi hm ?_
      simp only [↓reduceIte, namesOf, List.any, I.names, aopsI, astep, ev, setd, List.set, List.getD, List.getElem?_cons_zero, List.getElem?_cons_succ, List.cons_append, List.nil_append, List.length_cons, List.length_nil, List.replicate, then_normal, Option.getD_some, Bool.or_false, Bool.or_true, Nat.reduceAdd, binv, ↓opt_def, AV.isAny, AV.cells, ldc, St.set_same, Int.natCast_nonneg, lt_len, Int.toNat_natCast, true_and, and_true, eq_self, decide_true, e1, hk2, xsO_len, hga, AV.fits, AV.one, List.all_cons, List.all_nil, Nat.reduceBEq, Bool.not_false, Bool.and_self, Nat.zero_add, splice, List.take, List.drop, Nat.reduceLeDiff]
      refine h0 _ _ ?_
      try clear h0 K_h0
      refine T.seq_k (fun K_h0 h0 => ?_)
      refine T.regi hm ?_
      simp only [↓reduceIte, namesOf, List.any, I.names, aopsI, astep, ev, setd, List.set, List.getD, List.getElem?_cons_zero, List.getElem?_cons_succ, List.cons_append, List.nil_append, List.length_cons, List.length_nil, List.replicate, then_normal, Option.getD_some, Bool.or_false, Bool.or_true, Nat.reduceAdd, ↓opt_def, AV.isAny, AV.cells, ldc, St.set_next, St.set_same, St.up_next, Int.natCast_nonneg, lt_len, Int.toNat_natCast, true_and, and_true, eq_self, decide_true, hkl, xsO_len, hgb, AV.fits, AV.one, List.all_cons, List.all_nil, Nat.reduceBEq, Bool.not_false, Bool.and_self, Nat.zero_add, splice, List.take, List.drop, Nat.reduceLeDiff]
      refine h0 _ _ ?_
      try clear h0 K_h0
      have hLs : Like σ1 ((((((u.up 7).set (u.next + 5) (.obj [.int .i64 0, .int .i64 0, .int .i64 0])).set (u.next + 5) (.obj [.int .i64 a.n, .int .i64 a.row, .int .i64 a.at_])).up 6).set (u.next + 7 + 4) (.obj [.int .i64 0, .int .i64 0, .int .i64 0])).set (u.next + 7 + 4) (.obj [.int .i64 b.n, .int .i64 b.row, .int .i64 b.at_])) := by
        have h9 := hLu.next
        exact (((((hLu.up 7).set _ (by omega)).set _ (by omega)).up 6).set _ (by omega)).set _ (by omega)
      have hA : ((((((u.up 7).set (u.next + 5) (.obj [.int .i64 0, .int .i64 0, .int .i64 0])).set (u.next + 5) (.obj [.int .i64 a.n, .int .i64 a.row, .int .i64 a.at_])).up 6).set (u.next + 7 + 4) (.obj [.int .i64 0, .int .i64 0, .int .i64 0])).set (u.next + 7 + 4) (.obj [.int .i64 b.n, .int .i64 b.row, .int .i64 b.at_])).res (u.next + 5) = some (.obj [.int .i64 a.n, .int .i64 a.row, .int .i64 a.at_]) := by
        rw [St.set_other _ _ (by omega), St.set_other _ _ (by omega), St.up_res, St.set_same]
      have hB : ((((((u.up 7).set (u.next + 5) (.obj [.int .i64 0, .int .i64 0, .int .i64 0])).set (u.next + 5) (.obj [.int .i64 a.n, .int .i64 a.row, .int .i64 a.at_])).up 6).set (u.next + 7 + 4) (.obj [.int .i64 0, .int .i64 0, .int .i64 0])).set (u.next + 7 + 4) (.obj [.int .i64 b.n, .int .i64 b.row, .int .i64 b.at_])).res (u.next + 7 + 4) = some (.obj [.int .i64 b.n, .int .i64 b.row, .int .i64 b.at_]) := St.set_same _ _ _
      generalize ((((((u.up 7).set (u.next + 5) (.obj [.int .i64 0, .int .i64 0, .int .i64 0])).set (u.next + 5) (.obj [.int .i64 a.n, .int .i64 a.row, .int .i64 a.at_])).up 6).set (u.next + 7 + 4) (.obj [.int .i64 0, .int .i64 0, .int .i64 0])).set (u.next + 7 + 4) (.obj [.int .i64 b.n, .int .i64 b.row, .int .i64 b.at_])) = S at hLs hA hB ⊢
      generalize u.next + 5 = A at hA ⊢
      generalize u.next + 7 + 4 = B at hB ⊢
      refine T.seq_k (fun K_h4 h4 => ?_)
      have h5 : ∀ ρ', keep [3, 12, 13, 160] 0 ρ' = [.any, .any, .any, .bool true, .any, .any, .any, .any, .any, .any, .any, .any, .sl (xsAVO out) .none, .int .i64 (k : Int)] ++ List.replicate 146 .any ++ [.bool false, .any] → K_h4 ρ' S := fun ρ' hk => by
        refine h4 _ _ ?_
        refine T.gh (Gh.keep [3, 12, 13, 160]) ?_
        rw [hk]
        refine T.cond rfl (fun h => by cases h) (fun _ => T.skip ?_)
        try simp only [List.cons_append, List.nil_append, List.replicate, then_normal, inBlock_normal, inBlock_normal]
        refine h3 _ _ ?_
        try clear h3 K_h3
        refine T.regi hm ?_
        simp only [↓reduceIte, namesOf, List.any, I.names, aopsI, astep, ev, setd, List.set, List.getD, List.getElem?_cons_zero, List.getElem?_cons_succ, List.cons_append, List.nil_append, List.replicate, then_normal, Option.getD_some, Bool.or_false, Bool.false_eq_true, up_zero, binv, ↓opt_def, eq_self, hw]
        exact ⟨by omega, _, _, Gh.keep [3, 12, 13], by omega, hLs, rfl⟩
      rcases hab with h6 | ⟨h6, h7 | ⟨h7, h8⟩⟩
      · have e1 : decide (a.n > b.n) = false := decide_eq_false (by omega)
        have e2 : (a.n == b.n) = false := by simp; omega
        refine T.regi hm ?_
        simp only [↓reduceIte, namesOf, List.any, I.names, aopsI, astep, ev, setd, List.set, List.getD, List.getElem?_cons_zero, List.getElem?_cons_succ, List.cons_append, List.nil_append, List.replicate, then_normal, Option.getD_some, Bool.or_false, Bool.false_eq_true, up_zero, binv, ↓opt_def, ldc, true_and, eq_self, hA, hB, e1, e2, Nat.add_zero, Nat.reduceLeDiff]
        exact h5 _ rfl
      · have e1 : decide (a.n > b.n) = false := decide_eq_false (by omega)
        have e2 : (a.n == b.n) = true := by simp [h6]
        have e3 : decide (a.row > b.row) = false := decide_eq_false (by omega)
        have e4 : (a.row == b.row) = false := by simp; omega
        refine T.regi hm ?_
        simp only [↓reduceIte, namesOf, List.any, I.names, aopsI, astep, ev, setd, List.set, List.getD, List.getElem?_cons_zero, List.getElem?_cons_succ, List.cons_append, List.nil_append, List.replicate, then_normal, Option.getD_some, Bool.or_false, Bool.false_eq_true, up_zero, binv, ↓opt_def, ldc, true_and, eq_self, hA, hB, e1, e2, e3, e4, Nat.add_zero, Nat.zero_add, Nat.reduceLeDiff]
        exact h5 _ rfl
      · have e1 : decide (a.n > b.n) = false := decide_eq_false (by omega)
        have e2 : (a.n == b.n) = true := by simp [h6]
        have e3 : decide (a.row > b.row) = false := decide_eq_false (by omega)
        have e4 : (a.row == b.row) = true := by simp [h7]
        have e5 : decide (a.at_ ≥ b.at_) = false := decide_eq_false (by omega)
        refine T.regi hm ?_
        simp only [↓reduceIte, namesOf, List.any, I.names, aopsI, astep, ev, setd, List.set, List.getD, List.getElem?_cons_zero, List.getElem?_cons_succ, List.cons_append, List.nil_append, List.replicate, then_normal, Option.getD_some, Bool.or_false, Bool.false_eq_true, up_zero, binv, ↓opt_def, ldc, true_and, eq_self, hA, hB, e1, e2, e3, e4, e5, Nat.add_zero, Nat.zero_add, Nat.reduceLeDiff]
        exact h5 _ rfl
    · refine T.seq_k (fun K_h0 h0 => ?_)
      refine T.regi hm ?_
      simp only [↓reduceIte, namesOf, List.any, I.names, aopsI, astep, ev, setd, List.set, List.getD, List.getElem?_cons_zero, List.getElem?_cons_succ, List.cons_append, List.nil_append, List.replicate, then_normal, Option.getD_some, Bool.or_false, Bool.false_eq_true, up_zero, binv, ↓opt_def, lt_len, eq_self, xsO_len, hkl, decide_false]
      refine h0 _ _ ?_
      try clear h0 K_h0
      refine T.cond rfl (fun h => by cases h) (fun _ => T.exit ?_)
      try simp only [List.cons_append, List.nil_append, List.replicate, then_normal, inBlock_exit, then_exit]
      refine h1 _ _ ?_
      try clear h1 K_h1
      refine T.seq_k (fun K_h0 h0 => ?_)
      refine T.regi hm ?_
      simp only [↓reduceIte, namesOf, List.any, I.names, aopsI, astep, ev, setd, List.set, List.getD, List.getElem?_cons_zero, List.getElem?_cons_succ, then_normal, Option.getD_some, Bool.or_false, Bool.false_eq_true, up_zero]
      refine h0 _ _ ?_
      try clear h0 K_h0
      exact T.ret (Fin.quiet rfl trivial (hLu.quiet wf) ⟨rfl, rfl⟩)

end Go.VL
