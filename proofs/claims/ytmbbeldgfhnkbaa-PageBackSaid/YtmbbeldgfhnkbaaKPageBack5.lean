/- Texts put together, of these what the theorem needs: Contracts: spans out of bytes. Contracts: the document's spans out of bytes. A page out of bytes: what is told of it, and readers moved with their bytes. Contracts: the bytes of spans; a page's bytes. Contracts: a trace's bytes in a page; a page's bytes. Contracts: page.Get. The law PagePuts, walked. Are traces the same? And the law PageGets, walked. The compiled code of functions of this seat. MADE BY PROGRAM (mkc.py). -/
import Derived.Test.YtmbbeldgfhnkbaaKPageBack4
import Derived.Test.YtmbbeldgfhnkbaaChecked

set_option linter.unusedSimpArgs false
set_option linter.unusedVariables false

namespace Go.VL

open Go.Proofs

/-- a reader (an owned thing nm), a row that grows, and names that nobody knows -/
structure Rk (σ t : St) (nm : Nat) (r : Res) (k : Nat) (v : Ver) : Prop where
  like : Like σ t
  lo : σ.next ≤ nm
  hi : nm < t.next
  at_ : t.res nm = some r
  ver : v = .nil ∨ ∃ g, v = .tip g ∧ g ≠ nm ∧ σ.next ≤ g ∧ g < t.next ∧ t.res g = some (.tip k)

theorem Rk.set {σ t : St} {nm k : Nat} {r : Res} {v : Ver} (h : Rk σ t nm r k v) (r' : Res) : Rk σ (t.set nm r') nm r' k v :=
  ⟨h.like.set _ h.lo, h.lo, h.hi, by simp, h.ver.imp id fun ⟨g, a1, a2, a3, a4, a5⟩ => ⟨g, a1, a2, a3, a4, by rw [St.set_other _ _ a2]; exact a5⟩⟩

theorem Rk.up {σ t : St} {nm k : Nat} {r : Res} {v : Ver} (h : Rk σ t nm r k v) (n : Nat) : Rk σ (t.up n) nm r k v :=
  ⟨h.like.up n, h.lo, Nat.lt_of_lt_of_le h.hi (Nat.le_add_right _ _), h.at_, h.ver.imp id fun ⟨g, a1, a2, a3, a4, a5⟩ => ⟨g, a1, a2, a3, Nat.lt_of_lt_of_le a4 (Nat.le_add_right _ _), a5⟩⟩

theorem Rk.new {σ t : St} {nm k : Nat} {r : Res} {v : Ver} (h : Rk σ t nm r k v) {a : Nat} (r' : Res) (ha : σ.next ≤ a) (hn : a ≠ nm) (hv : ∀ g, v = .tip g → a ≠ g) : Rk σ (t.set a r') nm r k v :=
  ⟨h.like.set _ ha, h.lo, h.hi, by rw [St.set_other _ _ (Ne.symm hn)]; exact h.at_, h.ver.imp id fun ⟨g, a1, a2, a3, a4, a5⟩ => ⟨g, a1, a2, a3, a4, by rw [St.set_other _ _ (Ne.symm (hv g a1))]; exact a5⟩⟩

theorem Rk.lt {σ t : St} {nm k : Nat} {r : Res} {v : Ver} (h : Rk σ t nm r k v) {g : Nat} (hv : v = .tip g) : g < t.next := by
  rcases h.ver with e | ⟨g', e, _, _, h4, _⟩
  · rw [hv] at e; cases e
  · rw [hv] at e; cases e; exact h4

theorem Rk.appNil {σ t : St} {nm k : Nat} {r : Res} (h : Rk σ t nm r k .nil) {g : Nat} (h0 : σ.next ≤ g) (h1 : g ≠ nm) (h2 : g < t.next) : Rk σ (t.set g (.tip k)) nm r k (.tip g) :=
  ⟨h.like.set _ h0, h.lo, h.hi, by rw [St.set_other _ _ (Ne.symm h1)]; exact h.at_, .inr ⟨g, rfl, h1, h0, h2, by simp⟩⟩

theorem Rk.appTip {σ t : St} {nm k g0 : Nat} {r : Res} (h : Rk σ t nm r k (.tip g0)) {g : Nat} (h0 : σ.next ≤ g) (h1 : g ≠ nm) (h2 : g < t.next) : Rk σ ((t.del g0).set g (.tip k)) nm r k (.tip g) := by
  obtain ⟨g', e, a1, a2, a3, a4⟩ := h.ver.resolve_left (by simp)
  cases e
  exact ⟨(h.like.del a2).set _ h0, h.lo, h.hi, by rw [St.set_other _ _ (Ne.symm h1)]; simp only [St.del, if_neg (Ne.symm a1)]; exact h.at_, .inr ⟨g, rfl, h1, h0, h2, by simp⟩⟩

/-- one span -/
def oneS (b : List UInt8) (s : Rs) : Sp :=
  ⟨rW b s 8, rW b (rN b s 8) 8, IntKind.i64.wrap (rW b (rN b (rN b s 8) 8) 8 : Int), IntKind.i64.wrap (rW b (rN b (rN b (rN b s 8) 8) 8) 8 : Int), rX b (rN b (rN b (rN b (rN b s 8) 8) 8) 8)⟩

def oneN (b : List UInt8) (s : Rs) : Rs := rXN b (rN b (rN b (rN b (rN b s 8) 8) 8) 8)

/-- spans, one by one: where they aren't (-1: they are), and they, and the reader -/
def goS (b : List UInt8) : Nat → Rs → List Sp → Int × List Sp × Rs
  | 0, s, acc => if 0 ≤ s.bad then (s.bad, [], s) else (-1, acc, s)
  | n + 1, s, acc => if 0 ≤ s.bad then (s.bad, [], s) else
    if 0 ≤ (oneN b s).bad then ((oneN b s).bad, [], oneN b s) else if mayS (oneS b s) then goS b n (oneN b s) (acc ++ [oneS b s]) else (s.at_, [], oneN b s)

def getS (b : List UInt8) : Int × List Sp :=
  let r := goS b (rW b r0 2) (rN b r0 2) []
  if 0 ≤ r.1 then (r.1, []) else if r.2.2.at_ < b.length then (r.2.2.at_, []) else (-1, r.2.1)

theorem sps_snoc' (a : List Sp) (x : Sp) : spsAV a ++ [.agg [.int .u64 (x.tr : Int), .int .u64 (x.id : Int), .int .i64 x.st, .int .i64 x.en, .sl (bytesAV x.da) .none]] = spsAV (a ++ [x]) := by simp [spsAV, Sp.av]

set_option maxRecDepth 10000 in
set_option maxHeartbeats 4000000 in
theorem spget_ok {b : List UInt8} {σ : St} (hb : b.length ≤ 1000000) :
    ACalls Try.prog n_spget [.sl (bytesAV b) .none] σ (fun v σ' => ((getS b).1 < 0 ∧ v = .tup [.sl (spsAV (getS b).2) .none, .nili] ∧ σ' = σ) ∨
      (0 ≤ (getS b).1 ∧ ∃ n, v = .tup [.sl [] .none, .iface tSpot (.ptr n 0)] ∧ σ'.res n = some (.obj [.int .i64 (getS b).1, .int .i64 2]) ∧ σ.next ≤ n ∧ n < σ'.next ∧ Like σ σ')) := by
  refine s_spget (fun wf => ?_)
  unfold c_spget
  have hget : getS b = (let r := goS b (rW b r0 2) (rN b r0 2) []; if 0 ≤ r.1 then (r.1, []) else if r.2.2.at_ < b.length then (r.2.2.at_, []) else (-1, r.2.1)) := rfl
  generalize getS b = G at hget ⊢
  have k0 : Rs.ok b r0 := Rs.ok_r0 (by omega)
  have k1 := rN_ok (w := 2) k0
  have hN := rW_lt (w := 2) k0
  refine T.seq_k (fun K_h0 h0 => ?_)
  refine T.regi hm ?_
  simp only [↓reduceIte, namesOf, List.any, I.names, aops, aopsI, aopsT, qstep, CPt, qget, Tbl.get, astep, ev, setd, List.set, List.getD, List.getElem?_cons_zero, List.getElem?_cons_succ, List.getElem?_nil, List.cons_append, List.nil_append, List.length_cons, List.length_nil, List.replicate, then_normal, inBlock_normal, Option.getD_some, Option.getD_none, Bool.or_false, Bool.or_true, Bool.true_or, Bool.false_or, Bool.false_eq_true, if_false, if_true, up_zero, Nat.reduceAdd, Nat.reduceSub, binv, ↓opt_def, AV.isAny, AV.cells, ldc, List.map_cons, List.map_nil, St.set_next, St.set_same, St.up_next, Int.natCast_nonneg, lt_len, le_len, Int.toNat_natCast, true_and, and_true, eq_self, reduceCtorEq, decide_true, List.length_singleton, er_int, er_bool, er_str]
  refine h0 _ _ ?_
  try clear h0 K_h0
  refine T.seq_k (fun K_h1 h1 => ?_)
  refine T.regi hm ?_
  simp only [↓reduceIte, namesOf, List.any, I.names, aops, aopsI, aopsT, qstep, CPt, qget, Tbl.get, astep, ev, setd, List.set, List.getD, List.getElem?_cons_zero, List.getElem?_cons_succ, List.getElem?_nil, List.cons_append, List.nil_append, List.length_cons, List.length_nil, List.replicate, then_normal, inBlock_normal, Option.getD_some, Option.getD_none, Bool.or_false, Bool.or_true, Bool.true_or, Bool.false_or, Bool.false_eq_true, if_false, if_true, up_zero, Nat.reduceAdd, Nat.reduceSub, binv, ↓opt_def, AV.isAny, AV.cells, ldc, List.map_cons, List.map_nil, St.set_next, St.set_same, St.up_next, Int.natCast_nonneg, lt_len, le_len, Int.toNat_natCast, true_and, and_true, eq_self, reduceCtorEq, decide_true, List.length_singleton, er_int, er_bool, er_str]
  refine wreadF.mono ?_
  rintro v σ1 ⟨nm, rfl, hr1, hn1, hn2, ho1⟩
  have R0 : Rk σ σ1 nm (rdS b .none r0) 5 .nil := ⟨⟨by omega, ho1⟩, hn1, hn2, hr1, .inl rfl⟩
  clear hr1 hn1 hn2 ho1
  try simp only [↓reduceIte, namesOf, List.any, I.names, aops, aopsI, aopsT, qstep, CPt, qget, Tbl.get, astep, ev, setd, List.set, List.getD, List.getElem?_cons_zero, List.getElem?_cons_succ, List.getElem?_nil, List.cons_append, List.nil_append, List.length_cons, List.length_nil, List.replicate, then_normal, inBlock_normal, Option.getD_some, Option.getD_none, Bool.or_false, Bool.or_true, Bool.true_or, Bool.false_or, Bool.false_eq_true, if_false, if_true, up_zero, Nat.reduceAdd, Nat.reduceSub, binv, ↓opt_def, AV.isAny, AV.cells, ldc, List.map_cons, List.map_nil, St.set_next, St.set_same, St.up_next, Int.natCast_nonneg, lt_len, le_len, Int.toNat_natCast, true_and, and_true, eq_self, reduceCtorEq, decide_true, List.length_singleton, er_int, er_bool, er_str, up_zero]
  refine h1 _ _ ?_
  try clear h1 K_h1
  refine T.seq_k (fun K_h1 h1 => ?_)
  refine T.regi hm ?_
  simp only [↓reduceIte, namesOf, List.any, I.names, aops, aopsI, aopsT, qstep, CPt, qget, Tbl.get, astep, ev, setd, List.set, List.getD, List.getElem?_cons_zero, List.getElem?_cons_succ, List.getElem?_nil, List.cons_append, List.nil_append, List.length_cons, List.length_nil, List.replicate, then_normal, inBlock_normal, Option.getD_some, Option.getD_none, Bool.or_false, Bool.or_true, Bool.true_or, Bool.false_or, Bool.false_eq_true, if_false, if_true, up_zero, Nat.reduceAdd, Nat.reduceSub, binv, ↓opt_def, AV.isAny, AV.cells, ldc, List.map_cons, List.map_nil, St.set_next, St.set_same, St.up_next, Int.natCast_nonneg, lt_len, le_len, Int.toNat_natCast, true_and, and_true, eq_self, reduceCtorEq, decide_true, List.length_singleton, er_int, er_bool, er_str]
  refine (wwordF k0 rfl R0.at_).mono ?_
  rintro v σ2 ⟨rfl, rfl⟩
  have R1 := R0.set (rdS b .none (rN b r0 2))
  generalize (σ1.set nm (rdS b .none (rN b r0 2))) = σ2 at R1 ⊢
  clear R0 σ1
  generalize rW b r0 2 = N at hN hget ⊢
  generalize rN b r0 2 = s0 at k1 R1 hget
  have eN : IntKind.i64.wrap (N : Int) = (N : Int) := wrap64 (by omega) (by omega)
  try simp only [↓reduceIte, namesOf, List.any, I.names, aops, aopsI, aopsT, qstep, CPt, qget, Tbl.get, astep, ev, setd, List.set, List.getD, List.getElem?_cons_zero, List.getElem?_cons_succ, List.getElem?_nil, List.cons_append, List.nil_append, List.length_cons, List.length_nil, List.replicate, then_normal, inBlock_normal, Option.getD_some, Option.getD_none, Bool.or_false, Bool.or_true, Bool.true_or, Bool.false_or, Bool.false_eq_true, if_false, if_true, up_zero, Nat.reduceAdd, Nat.reduceSub, binv, ↓opt_def, AV.isAny, AV.cells, ldc, List.map_cons, List.map_nil, St.set_next, St.set_same, St.up_next, Int.natCast_nonneg, lt_len, le_len, Int.toNat_natCast, true_and, and_true, eq_self, reduceCtorEq, decide_true, List.length_singleton, er_int, er_bool, er_str, up_zero, eN]
  refine h1 _ _ ?_
  try clear h1 K_h1
  refine T.seq_k (fun K_h0 h0 => ?_)
  refine T.regi hm ?_
  simp only [↓reduceIte, namesOf, List.any, I.names, aops, aopsI, aopsT, qstep, CPt, qget, Tbl.get, astep, ev, setd, List.set, List.getD, List.getElem?_cons_zero, List.getElem?_cons_succ, List.getElem?_nil, List.cons_append, List.nil_append, List.length_cons, List.length_nil, List.replicate, then_normal, inBlock_normal, Option.getD_some, Option.getD_none, Bool.or_false, Bool.or_true, Bool.true_or, Bool.false_or, Bool.false_eq_true, if_false, if_true, up_zero, Nat.reduceAdd, Nat.reduceSub, binv, ↓opt_def, AV.isAny, AV.cells, ldc, List.map_cons, List.map_nil, St.set_next, St.set_same, St.up_next, Int.natCast_nonneg, lt_len, le_len, Int.toNat_natCast, true_and, and_true, eq_self, reduceCtorEq, decide_true, List.length_singleton, er_int, er_bool, er_str]
  refine h0 _ _ ?_
  try clear h0 K_h0
  refine T.seq_k (fun K_h1 h1 => ?_)
  refine T.seq_k (fun K_h0 h0 => ?_)
  refine T.regi hm ?_
  simp only [↓reduceIte, namesOf, List.any, I.names, aops, aopsI, aopsT, qstep, CPt, qget, Tbl.get, astep, ev, setd, List.set, List.getD, List.getElem?_cons_zero, List.getElem?_cons_succ, List.getElem?_nil, List.cons_append, List.nil_append, List.length_cons, List.length_nil, List.replicate, then_normal, inBlock_normal, Option.getD_some, Option.getD_none, Bool.or_false, Bool.or_true, Bool.true_or, Bool.false_or, Bool.false_eq_true, if_false, if_true, up_zero, Nat.reduceAdd, Nat.reduceSub, binv, ↓opt_def, AV.isAny, AV.cells, ldc, List.map_cons, List.map_nil, St.set_next, St.set_same, St.up_next, Int.natCast_nonneg, lt_len, le_len, Int.toNat_natCast, true_and, and_true, eq_self, reduceCtorEq, decide_true, List.length_singleton, er_int, er_bool, er_str]
  refine h0 _ _ ?_
  try clear h0 K_h0
  refine T.block ?_
  refine T.gh (Gh.keep [0, 4, 5, 6, 7]) ?_
  refine T.loopi (fun i ρ t => ∃ (s : Rs) (acc : List Sp) (vv : Ver), s.ok b ∧ Rk σ t nm (rdS b .none s) 5 vv ∧ acc.length = i ∧ (vv = .nil → acc = []) ∧ goS b N s0 [] = (if 0 ≤ s.bad then (s.bad, [], s) else goS b (N - i) s acc) ∧
      ρ = [.sl (bytesAV b) .none, .any, .any, .any, .ptr nm 0, .int .i64 (N : Int), .sl (spsAV acc) vv, .int .i64 (i : Int)] ++ List.replicate 76 .any)
    N 0 (Nat.zero_le _) ⟨s0, [], .nil, k1, R1, rfl, fun _ => rfl, ?_, rfl⟩ ?_
  · split
    · rename_i hx
      cases N <;> (unfold goS; rw [if_pos hx])
    · rfl
  clear k1 R1 σ2 k0
  rintro i ρ t hi ⟨s, acc, vv, ks, R1, hacc, hvn, hgo, rfl⟩
  -- the end
  have fin : (N - i = 0 ∨ 0 ≤ s.bad) → ∀ ρ', keep [0, 4, 6] 0 ρ' = [.sl (bytesAV b) .none, .any, .any, .any, .ptr nm 0, .any, .sl (spsAV acc) vv] ++ List.replicate 77 .any → K_h1 ρ' t := by
    intro hx ρ' hρ
    refine h1 _ _ ?_
    try clear h1 K_h1
    refine T.gh (Gh.keep [0, 4, 6]) ?_
    rw [hρ]
    have hgo' : goS b N s0 [] = (if 0 ≤ s.bad then (s.bad, [], s) else (-1, acc, s)) := by
      rw [hgo]
      split
      · rfl
      · rename_i hb'
        rcases hx with hx | hx
        · rw [hx]; unfold goS; rw [if_neg hb']
        · exact absurd hx hb'
    have hb0 : G = (if 0 ≤ s.bad then (s.bad, []) else if s.at_ < b.length then (s.at_, []) else (-1, acc)) := by
      rw [hget]
      simp only [hgo']
      split
      · rename_i hx; simp only [hx, if_true]
      · simp
    have hkl := ks.1.len
    have hk0 := ks.1.lo
    have hk1 := ks.1.hi
    refine T.seq_k (fun K_h1 h1 => ?_)
    refine T.block ?_
    refine T.seq_k (fun K_h2 h2 => ?_)
    refine T.regi hm ?_
    simp only [↓reduceIte, namesOf, List.any, I.names, aops, aopsI, aopsT, qstep, CPt, qget, Tbl.get, astep, ev, setd, List.set, List.getD, List.getElem?_cons_zero, List.getElem?_cons_succ, List.getElem?_nil, List.cons_append, List.nil_append, List.length_cons, List.length_nil, List.replicate, then_normal, inBlock_normal, Option.getD_some, Option.getD_none, Bool.or_false, Bool.or_true, Bool.true_or, Bool.false_or, Bool.false_eq_true, if_false, if_true, up_zero, Nat.reduceAdd, Nat.reduceSub, binv, ↓opt_def, AV.isAny, AV.cells, ldc, List.map_cons, List.map_nil, St.set_next, St.set_same, St.up_next, Int.natCast_nonneg, lt_len, le_len, Int.toNat_natCast, true_and, and_true, eq_self, reduceCtorEq, decide_true, List.length_singleton, er_int, er_bool, er_str]
    refine (wbad_ok R1.at_).mono ?_
    rintro v t1 ⟨rfl, rfl⟩
    by_cases hbd : 0 ≤ s.bad
    · rw [if_pos hbd] at hb0
      have e1 : decide (s.bad ≥ 0) = true := decide_eq_true hbd
      try simp only [↓reduceIte, namesOf, List.any, I.names, aops, aopsI, aopsT, qstep, CPt, qget, Tbl.get, astep, ev, setd, List.set, List.getD, List.getElem?_cons_zero, List.getElem?_cons_succ, List.getElem?_nil, List.cons_append, List.nil_append, List.length_cons, List.length_nil, List.replicate, then_normal, inBlock_normal, Option.getD_some, Option.getD_none, Bool.or_false, Bool.or_true, Bool.true_or, Bool.false_or, Bool.false_eq_true, if_false, if_true, up_zero, Nat.reduceAdd, Nat.reduceSub, binv, ↓opt_def, AV.isAny, AV.cells, ldc, List.map_cons, List.map_nil, St.set_next, St.set_same, St.up_next, Int.natCast_nonneg, lt_len, le_len, Int.toNat_natCast, true_and, and_true, eq_self, reduceCtorEq, decide_true, List.length_singleton, er_int, er_bool, er_str, up_zero, e1]
      refine h2 _ _ ?_
      try clear h2 K_h2
      refine T.cond rfl (fun _ => ?_) (fun h => by cases h)
      refine T.seq_k (fun K_h2 h2 => ?_)
      refine T.regi hm ?_
      simp only [↓reduceIte, namesOf, List.any, I.names, aops, aopsI, aopsT, qstep, CPt, qget, Tbl.get, astep, ev, setd, List.set, List.getD, List.getElem?_cons_zero, List.getElem?_cons_succ, List.getElem?_nil, List.cons_append, List.nil_append, List.length_cons, List.length_nil, List.replicate, then_normal, inBlock_normal, Option.getD_some, Option.getD_none, Bool.or_false, Bool.or_true, Bool.true_or, Bool.false_or, Bool.false_eq_true, if_false, if_true, up_zero, Nat.reduceAdd, Nat.reduceSub, binv, ↓opt_def, AV.isAny, AV.cells, ldc, List.map_cons, List.map_nil, St.set_next, St.set_same, St.up_next, Int.natCast_nonneg, lt_len, le_len, Int.toNat_natCast, true_and, and_true, eq_self, reduceCtorEq, decide_true, List.length_singleton, er_int, er_bool, er_str]
      refine (wbad_ok (R1.up 7).at_).mono ?_
      rintro v t2 ⟨rfl, rfl⟩
      try simp only [↓reduceIte, namesOf, List.any, I.names, aops, aopsI, aopsT, qstep, CPt, qget, Tbl.get, astep, ev, setd, List.set, List.getD, List.getElem?_cons_zero, List.getElem?_cons_succ, List.getElem?_nil, List.cons_append, List.nil_append, List.length_cons, List.length_nil, List.replicate, then_normal, inBlock_normal, Option.getD_some, Option.getD_none, Bool.or_false, Bool.or_true, Bool.true_or, Bool.false_or, Bool.false_eq_true, if_false, if_true, up_zero, Nat.reduceAdd, Nat.reduceSub, binv, ↓opt_def, AV.isAny, AV.cells, ldc, List.map_cons, List.map_nil, St.set_next, St.set_same, St.up_next, Int.natCast_nonneg, lt_len, le_len, Int.toNat_natCast, true_and, and_true, eq_self, reduceCtorEq, decide_true, List.length_singleton, er_int, er_bool, er_str, fillA, Option.map, AV.fits, AV.one, List.all_cons, List.all_nil, Nat.reduceBEq, Bool.and_true, Bool.not_false, Bool.and_self, Nat.zero_add, splice, List.take, List.drop, Nat.reduceLeDiff]
      refine h2 _ _ ?_
      try clear h2 K_h2
      refine T.ret (Fin.retw rfl (Wk.tup2 (Wk.sl _ _)) (.inr ⟨by rw [hb0]; exact hbd, t1.next + 3, rfl, by rw [hb0]; simp, by have := R1.like.next; omega, by simp, (R1.like.up 7).set _ (by have := R1.like.next; omega)⟩))
    · rw [if_neg hbd] at hb0
      have e1 : decide (s.bad ≥ 0) = false := decide_eq_false hbd
      have e3 : IntKind.i64.wrap ((b.length : Int) - ((b.length : Int) - s.at_)) = s.at_ := by rw [wrap64 (by omega) (by omega)]; omega
      try simp only [↓reduceIte, namesOf, List.any, I.names, aops, aopsI, aopsT, qstep, CPt, qget, Tbl.get, astep, ev, setd, List.set, List.getD, List.getElem?_cons_zero, List.getElem?_cons_succ, List.getElem?_nil, List.cons_append, List.nil_append, List.length_cons, List.length_nil, List.replicate, then_normal, inBlock_normal, Option.getD_some, Option.getD_none, Bool.or_false, Bool.or_true, Bool.true_or, Bool.false_or, Bool.false_eq_true, if_false, if_true, up_zero, Nat.reduceAdd, Nat.reduceSub, binv, ↓opt_def, AV.isAny, AV.cells, ldc, List.map_cons, List.map_nil, St.set_next, St.set_same, St.up_next, Int.natCast_nonneg, lt_len, le_len, Int.toNat_natCast, true_and, and_true, eq_self, reduceCtorEq, decide_true, List.length_singleton, er_int, er_bool, er_str, up_zero, e1]
      refine h2 _ _ ?_
      try clear h2 K_h2
      refine T.cond rfl (fun h => by cases h) (fun _ => ?_)
      refine T.seq_k (fun K_h2 h2 => ?_)
      refine T.regi hm ?_
      simp only [↓reduceIte, namesOf, List.any, I.names, aops, aopsI, aopsT, qstep, CPt, qget, Tbl.get, astep, ev, setd, List.set, List.getD, List.getElem?_cons_zero, List.getElem?_cons_succ, List.getElem?_nil, List.cons_append, List.nil_append, List.length_cons, List.length_nil, List.replicate, then_normal, inBlock_normal, Option.getD_some, Option.getD_none, Bool.or_false, Bool.or_true, Bool.true_or, Bool.false_or, Bool.false_eq_true, if_false, if_true, up_zero, Nat.reduceAdd, Nat.reduceSub, binv, ↓opt_def, AV.isAny, AV.cells, ldc, List.map_cons, List.map_nil, St.set_next, St.set_same, St.up_next, Int.natCast_nonneg, lt_len, le_len, Int.toNat_natCast, true_and, and_true, eq_self, reduceCtorEq, decide_true, List.length_singleton, er_int, er_bool, er_str]
      refine (wleft_ok hkl hk0 hk1 R1.at_).mono ?_
      rintro v t2 ⟨rfl, rfl⟩
      by_cases hlt : s.at_ < b.length
      · rw [if_pos hlt] at hb0
        have e2 : decide ((b.length : Int) - s.at_ > 0) = true := decide_eq_true (by omega)
        try simp only [↓reduceIte, namesOf, List.any, I.names, aops, aopsI, aopsT, qstep, CPt, qget, Tbl.get, astep, ev, setd, List.set, List.getD, List.getElem?_cons_zero, List.getElem?_cons_succ, List.getElem?_nil, List.cons_append, List.nil_append, List.length_cons, List.length_nil, List.replicate, then_normal, inBlock_normal, Option.getD_some, Option.getD_none, Bool.or_false, Bool.or_true, Bool.true_or, Bool.false_or, Bool.false_eq_true, if_false, if_true, up_zero, Nat.reduceAdd, Nat.reduceSub, binv, ↓opt_def, AV.isAny, AV.cells, ldc, List.map_cons, List.map_nil, St.set_next, St.set_same, St.up_next, Int.natCast_nonneg, lt_len, le_len, Int.toNat_natCast, true_and, and_true, eq_self, reduceCtorEq, decide_true, List.length_singleton, er_int, er_bool, er_str, up_zero, e2]
        refine h2 _ _ ?_
        try clear h2 K_h2
        refine T.cond rfl (fun _ => ?_) (fun h => by cases h)
        refine T.seq_k (fun K_h2 h2 => ?_)
        refine T.regi hm ?_
        simp only [↓reduceIte, namesOf, List.any, I.names, aops, aopsI, aopsT, qstep, CPt, qget, Tbl.get, astep, ev, setd, List.set, List.getD, List.getElem?_cons_zero, List.getElem?_cons_succ, List.getElem?_nil, List.cons_append, List.nil_append, List.length_cons, List.length_nil, List.replicate, then_normal, inBlock_normal, Option.getD_some, Option.getD_none, Bool.or_false, Bool.or_true, Bool.true_or, Bool.false_or, Bool.false_eq_true, if_false, if_true, up_zero, Nat.reduceAdd, Nat.reduceSub, binv, ↓opt_def, AV.isAny, AV.cells, ldc, List.map_cons, List.map_nil, St.set_next, St.set_same, St.up_next, Int.natCast_nonneg, lt_len, le_len, Int.toNat_natCast, true_and, and_true, eq_self, reduceCtorEq, decide_true, List.length_singleton, er_int, er_bool, er_str, bytesAV_len]
        refine (wleft_ok hkl hk0 hk1 (R1.up 10).at_).mono ?_
        rintro v t3 ⟨rfl, rfl⟩
        try simp only [↓reduceIte, namesOf, List.any, I.names, aops, aopsI, aopsT, qstep, CPt, qget, Tbl.get, astep, ev, setd, List.set, List.getD, List.getElem?_cons_zero, List.getElem?_cons_succ, List.getElem?_nil, List.cons_append, List.nil_append, List.length_cons, List.length_nil, List.replicate, then_normal, inBlock_normal, Option.getD_some, Option.getD_none, Bool.or_false, Bool.or_true, Bool.true_or, Bool.false_or, Bool.false_eq_true, if_false, if_true, up_zero, Nat.reduceAdd, Nat.reduceSub, binv, ↓opt_def, AV.isAny, AV.cells, ldc, List.map_cons, List.map_nil, St.set_next, St.set_same, St.up_next, Int.natCast_nonneg, lt_len, le_len, Int.toNat_natCast, true_and, and_true, eq_self, reduceCtorEq, decide_true, List.length_singleton, er_int, er_bool, er_str, fillA, Option.map, AV.fits, AV.one, List.all_cons, List.all_nil, Nat.reduceBEq, Bool.and_true, Bool.not_false, Bool.and_self, Nat.zero_add, splice, List.take, List.drop, Nat.reduceLeDiff, e3]
        refine h2 _ _ ?_
        try clear h2 K_h2
        refine T.ret (Fin.retw rfl (Wk.tup2 (Wk.sl _ _)) (.inr ⟨by rw [hb0]; exact hk0, t2.next + 6, rfl, by rw [hb0]; simp, by have := R1.like.next; omega, by simp, (R1.like.up 10).set _ (by have := R1.like.next; omega)⟩))
      · rw [if_neg hlt] at hb0
        have e2 : decide ((b.length : Int) - s.at_ > 0) = false := decide_eq_false (by omega)
        try simp only [↓reduceIte, namesOf, List.any, I.names, aops, aopsI, aopsT, qstep, CPt, qget, Tbl.get, astep, ev, setd, List.set, List.getD, List.getElem?_cons_zero, List.getElem?_cons_succ, List.getElem?_nil, List.cons_append, List.nil_append, List.length_cons, List.length_nil, List.replicate, then_normal, inBlock_normal, Option.getD_some, Option.getD_none, Bool.or_false, Bool.or_true, Bool.true_or, Bool.false_or, Bool.false_eq_true, if_false, if_true, up_zero, Nat.reduceAdd, Nat.reduceSub, binv, ↓opt_def, AV.isAny, AV.cells, ldc, List.map_cons, List.map_nil, St.set_next, St.set_same, St.up_next, Int.natCast_nonneg, lt_len, le_len, Int.toNat_natCast, true_and, and_true, eq_self, reduceCtorEq, decide_true, List.length_singleton, er_int, er_bool, er_str, up_zero, e2]
        refine h2 _ _ ?_
        try clear h2 K_h2
        refine T.cond rfl (fun h => by cases h) (fun _ => T.skip ?_)
        try simp only [↓reduceIte, namesOf, List.any, I.names, aops, aopsI, aopsT, qstep, CPt, qget, Tbl.get, astep, ev, setd, List.set, List.getD, List.getElem?_cons_zero, List.getElem?_cons_succ, List.getElem?_nil, List.cons_append, List.nil_append, List.length_cons, List.length_nil, List.replicate, then_normal, inBlock_normal, Option.getD_some, Option.getD_none, Bool.or_false, Bool.or_true, Bool.true_or, Bool.false_or, Bool.false_eq_true, if_false, if_true, up_zero, Nat.reduceAdd, Nat.reduceSub, binv, ↓opt_def, AV.isAny, AV.cells, ldc, List.map_cons, List.map_nil, St.set_next, St.set_same, St.up_next, Int.natCast_nonneg, lt_len, le_len, Int.toNat_natCast, true_and, and_true, eq_self, reduceCtorEq, decide_true, List.length_singleton, er_int, er_bool, er_str, inBlock_normal]
        refine h1 _ _ ?_
        try clear h1 K_h1
        refine T.seq_k (fun K_h0 h0 => ?_)
        refine T.regi hm ?_
        simp only [↓reduceIte, namesOf, List.any, I.names, aops, aopsI, aopsT, qstep, CPt, qget, Tbl.get, astep, ev, setd, List.set, List.getD, List.getElem?_cons_zero, List.getElem?_cons_succ, List.getElem?_nil, List.cons_append, List.nil_append, List.length_cons, List.length_nil, List.replicate, then_normal, inBlock_normal, Option.getD_some, Option.getD_none, Bool.or_false, Bool.or_true, Bool.true_or, Bool.false_or, Bool.false_eq_true, if_false, if_true, up_zero, Nat.reduceAdd, Nat.reduceSub, binv, ↓opt_def, AV.isAny, AV.cells, ldc, List.map_cons, List.map_nil, St.set_next, St.set_same, St.up_next, Int.natCast_nonneg, lt_len, le_len, Int.toNat_natCast, true_and, and_true, eq_self, reduceCtorEq, decide_true, List.length_singleton, er_int, er_bool, er_str]
        refine h0 _ _ ?_
        try clear h0 K_h0
        exact T.ret (Fin.quietw rfl (Wk.tup2 (Wk.sl _ _)) ⟨⟨nbs_sps _ _, trivial⟩, trivial, trivial⟩ (R1.like.quiet wf) (.inl ⟨by rw [hb0]; simp, by rw [hb0]; rfl, rfl⟩))
  clear h1
  refine T.seq_k (fun K_h2 h2 => ?_)
  by_cases hil : i < N
  case neg =>
    have e1 : decide ((i : Int) < (N : Int)) = false := decide_eq_false (by omega)
    refine T.seq_k (fun K_h0 h0 => ?_)
    refine T.regi hm ?_
    simp only [↓reduceIte, namesOf, List.any, I.names, aops, aopsI, aopsT, qstep, CPt, qget, Tbl.get, astep, ev, setd, List.set, List.getD, List.getElem?_cons_zero, List.getElem?_cons_succ, List.getElem?_nil, List.cons_append, List.nil_append, List.length_cons, List.length_nil, List.replicate, then_normal, inBlock_normal, Option.getD_some, Option.getD_none, Bool.or_false, Bool.or_true, Bool.true_or, Bool.false_or, Bool.false_eq_true, if_false, if_true, up_zero, Nat.reduceAdd, Nat.reduceSub, binv, ↓opt_def, AV.isAny, AV.cells, ldc, List.map_cons, List.map_nil, St.set_next, St.set_same, St.up_next, Int.natCast_nonneg, lt_len, le_len, Int.toNat_natCast, true_and, and_true, eq_self, reduceCtorEq, decide_true, List.length_singleton, er_int, er_bool, er_str, e1]
    refine h0 _ _ ?_
    try clear h0 K_h0
    refine T.cond rfl (fun h => by cases h) (fun _ => T.exit ?_)
    try simp only [↓reduceIte, namesOf, List.any, I.names, aops, aopsI, aopsT, qstep, CPt, qget, Tbl.get, astep, ev, setd, List.set, List.getD, List.getElem?_cons_zero, List.getElem?_cons_succ, List.getElem?_nil, List.cons_append, List.nil_append, List.length_cons, List.length_nil, List.replicate, then_normal, inBlock_normal, Option.getD_some, Option.getD_none, Bool.or_false, Bool.or_true, Bool.true_or, Bool.false_or, Bool.false_eq_true, if_false, if_true, up_zero, Nat.reduceAdd, Nat.reduceSub, binv, ↓opt_def, AV.isAny, AV.cells, ldc, List.map_cons, List.map_nil, St.set_next, St.set_same, St.up_next, Int.natCast_nonneg, lt_len, le_len, Int.toNat_natCast, true_and, and_true, eq_self, reduceCtorEq, decide_true, List.length_singleton, er_int, er_bool, er_str, inBlock_exit, then_exit]
    exact fin (.inl (by omega)) _ rfl
  have e1 : decide ((i : Int) < (N : Int)) = true := decide_eq_true (by omega)
  refine T.seq_k (fun K_h3 h3 => ?_)
  refine T.regi hm ?_
  simp only [↓reduceIte, namesOf, List.any, I.names, aops, aopsI, aopsT, qstep, CPt, qget, Tbl.get, astep, ev, setd, List.set, List.getD, List.getElem?_cons_zero, List.getElem?_cons_succ, List.getElem?_nil, List.cons_append, List.nil_append, List.length_cons, List.length_nil, List.replicate, then_normal, inBlock_normal, Option.getD_some, Option.getD_none, Bool.or_false, Bool.or_true, Bool.true_or, Bool.false_or, Bool.false_eq_true, if_false, if_true, up_zero, Nat.reduceAdd, Nat.reduceSub, binv, ↓opt_def, AV.isAny, AV.cells, ldc, List.map_cons, List.map_nil, St.set_next, St.set_same, St.up_next, Int.natCast_nonneg, lt_len, le_len, Int.toNat_natCast, true_and, and_true, eq_self, reduceCtorEq, decide_true, List.length_singleton, er_int, er_bool, er_str, e1]
  refine (wbad_ok R1.at_).mono ?_
  rintro v t1 ⟨rfl, rfl⟩
  by_cases hbd : 0 ≤ s.bad
  · have e2 : decide (s.bad < 0) = false := decide_eq_false (by omega)
    try simp only [↓reduceIte, namesOf, List.any, I.names, aops, aopsI, aopsT, qstep, CPt, qget, Tbl.get, astep, ev, setd, List.set, List.getD, List.getElem?_cons_zero, List.getElem?_cons_succ, List.getElem?_nil, List.cons_append, List.nil_append, List.length_cons, List.length_nil, List.replicate, then_normal, inBlock_normal, Option.getD_some, Option.getD_none, Bool.or_false, Bool.or_true, Bool.true_or, Bool.false_or, Bool.false_eq_true, if_false, if_true, up_zero, Nat.reduceAdd, Nat.reduceSub, binv, ↓opt_def, AV.isAny, AV.cells, ldc, List.map_cons, List.map_nil, St.set_next, St.set_same, St.up_next, Int.natCast_nonneg, lt_len, le_len, Int.toNat_natCast, true_and, and_true, eq_self, reduceCtorEq, decide_true, List.length_singleton, er_int, er_bool, er_str, up_zero, e2]
    refine h3 _ _ ?_
    try clear h3 K_h3
    refine T.cond rfl (fun h => by cases h) (fun _ => T.exit ?_)
    try simp only [↓reduceIte, namesOf, List.any, I.names, aops, aopsI, aopsT, qstep, CPt, qget, Tbl.get, astep, ev, setd, List.set, List.getD, List.getElem?_cons_zero, List.getElem?_cons_succ, List.getElem?_nil, List.cons_append, List.nil_append, List.length_cons, List.length_nil, List.replicate, then_normal, inBlock_normal, Option.getD_some, Option.getD_none, Bool.or_false, Bool.or_true, Bool.true_or, Bool.false_or, Bool.false_eq_true, if_false, if_true, up_zero, Nat.reduceAdd, Nat.reduceSub, binv, ↓opt_def, AV.isAny, AV.cells, ldc, List.map_cons, List.map_nil, St.set_next, St.set_same, St.up_next, Int.natCast_nonneg, lt_len, le_len, Int.toNat_natCast, true_and, and_true, eq_self, reduceCtorEq, decide_true, List.length_singleton, er_int, er_bool, er_str, inBlock_exit, then_exit]
    exact fin (.inr hbd) _ rfl
  have e2 : decide (s.bad < 0) = true := decide_eq_true (by omega)
  try simp only [↓reduceIte, namesOf, List.any, I.names, aops, aopsI, aopsT, qstep, CPt, qget, Tbl.get, astep, ev, setd, List.set, List.getD, List.getElem?_cons_zero, List.getElem?_cons_succ, List.getElem?_nil, List.cons_append, List.nil_append, List.length_cons, List.length_nil, List.replicate, then_normal, inBlock_normal, Option.getD_some, Option.getD_none, Bool.or_false, Bool.or_true, Bool.true_or, Bool.false_or, Bool.false_eq_true, if_false, if_true, up_zero, Nat.reduceAdd, Nat.reduceSub, binv, ↓opt_def, AV.isAny, AV.cells, ldc, List.map_cons, List.map_nil, St.set_next, St.set_same, St.up_next, Int.natCast_nonneg, lt_len, le_len, Int.toNat_natCast, true_and, and_true, eq_self, reduceCtorEq, decide_true, List.length_singleton, er_int, er_bool, er_str, up_zero, e2]
  refine h3 _ _ ?_
  try clear h3 K_h3
  refine T.cond rfl (fun _ => T.skip ?_) (fun h => by cases h)
  refine h2 _ _ ?_
  try clear h2 K_h2
  clear fin
  rw [if_neg hbd] at hgo
  obtain ⟨n, hn⟩ : ∃ n, N - i = n + 1 := ⟨N - i - 1, by omega⟩
  have hn' : N - (i + 1) = n := by omega
  rw [hn] at hgo
  have hgo1 : goS b N s0 [] = (if 0 ≤ (oneN b s).bad then ((oneN b s).bad, [], oneN b s) else if mayS (oneS b s) then goS b n (oneN b s) (acc ++ [oneS b s]) else (s.at_, [], oneN b s)) := by
    rw [hgo]; conv => lhs; unfold goS
    rw [if_neg hbd]
  clear hgo
  have hkl := ks.1.len
  have hk0 := ks.1.lo
  have hk1 := ks.1.hi
  have e3 : IntKind.i64.wrap ((b.length : Int) - ((b.length : Int) - s.at_)) = s.at_ := by rw [wrap64 (by omega) (by omega)]; omega
  have hiw := inc64' hil (by omega)
  refine T.seq_k (fun K_h2 h2 => ?_)
  refine T.block ?_
  refine T.seq_k (fun K_h3 h3 => ?_)
  refine T.regi hm ?_
  simp only [↓reduceIte, namesOf, List.any, I.names, aops, aopsI, aopsT, qstep, CPt, qget, Tbl.get, astep, ev, setd, List.set, List.getD, List.getElem?_cons_zero, List.getElem?_cons_succ, List.getElem?_nil, List.cons_append, List.nil_append, List.length_cons, List.length_nil, List.replicate, then_normal, inBlock_normal, Option.getD_some, Option.getD_none, Bool.or_false, Bool.or_true, Bool.true_or, Bool.false_or, Bool.false_eq_true, if_false, if_true, up_zero, Nat.reduceAdd, Nat.reduceSub, binv, ↓opt_def, AV.isAny, AV.cells, ldc, List.map_cons, List.map_nil, St.set_next, St.set_same, St.up_next, Int.natCast_nonneg, lt_len, le_len, Int.toNat_natCast, true_and, and_true, eq_self, reduceCtorEq, decide_true, List.length_singleton, er_int, er_bool, er_str, bytesAV_len]
  refine (wleft_ok hkl hk0 hk1 R1.at_).mono ?_
  rintro v t2 ⟨rfl, rfl⟩
  try simp only [↓reduceIte, namesOf, List.any, I.names, aops, aopsI, aopsT, qstep, CPt, qget, Tbl.get, astep, ev, setd, List.set, List.getD, List.getElem?_cons_zero, List.getElem?_cons_succ, List.getElem?_nil, List.cons_append, List.nil_append, List.length_cons, List.length_nil, List.replicate, then_normal, inBlock_normal, Option.getD_some, Option.getD_none, Bool.or_false, Bool.or_true, Bool.true_or, Bool.false_or, Bool.false_eq_true, if_false, if_true, up_zero, Nat.reduceAdd, Nat.reduceSub, binv, ↓opt_def, AV.isAny, AV.cells, ldc, List.map_cons, List.map_nil, St.set_next, St.set_same, St.up_next, Int.natCast_nonneg, lt_len, le_len, Int.toNat_natCast, true_and, and_true, eq_self, reduceCtorEq, decide_true, List.length_singleton, er_int, er_bool, er_str, up_zero, e3]
  refine h3 _ _ ?_
  try clear h3 K_h3
  have ks1 := rN_ok (w := 8) ks
  have ks2 := rN_ok (w := 8) ks1
  have ks3 := rN_ok (w := 8) ks2
  have ks4 := rN_ok (w := 8) ks3
  have ks5 := rXN_ok ks4
  have hS : oneS b s = ⟨rW b s 8, rW b (rN b s 8) 8, IntKind.i64.wrap (rW b (rN b (rN b s 8) 8) 8 : Int), IntKind.i64.wrap (rW b (rN b (rN b (rN b s 8) 8) 8) 8 : Int), rX b (rN b (rN b (rN b (rN b s 8) 8) 8) 8)⟩ := rfl
  have hNn : oneN b s = rXN b (rN b (rN b (rN b (rN b s 8) 8) 8) 8) := rfl
  generalize oneS b s = X at hS hgo1
  generalize oneN b s = s' at hNn hgo1
  have hxl := rX_len ks4
  -- the Trace and the Id
  refine T.seq_k (fun K_h3 h3 => ?_)
  refine T.regi hm ?_
  simp only [↓reduceIte, namesOf, List.any, I.names, aops, aopsI, aopsT, qstep, CPt, qget, Tbl.get, astep, ev, setd, List.set, List.getD, List.getElem?_cons_zero, List.getElem?_cons_succ, List.getElem?_nil, List.cons_append, List.nil_append, List.length_cons, List.length_nil, List.replicate, then_normal, inBlock_normal, Option.getD_some, Option.getD_none, Bool.or_false, Bool.or_true, Bool.true_or, Bool.false_or, Bool.false_eq_true, if_false, if_true, up_zero, Nat.reduceAdd, Nat.reduceSub, binv, ↓opt_def, AV.isAny, AV.cells, ldc, List.map_cons, List.map_nil, St.set_next, St.set_same, St.up_next, Int.natCast_nonneg, lt_len, le_len, Int.toNat_natCast, true_and, and_true, eq_self, reduceCtorEq, decide_true, List.length_singleton, er_int, er_bool, er_str]
  refine (wwordF ks rfl (R1.up 7).at_).mono ?_
  rintro v u ⟨rfl, rfl⟩
  try simp only [↓reduceIte, namesOf, List.any, I.names, aops, aopsI, aopsT, qstep, CPt, qget, Tbl.get, astep, ev, setd, List.set, List.getD, List.getElem?_cons_zero, List.getElem?_cons_succ, List.getElem?_nil, List.cons_append, List.nil_append, List.length_cons, List.length_nil, List.replicate, then_normal, inBlock_normal, Option.getD_some, Option.getD_none, Bool.or_false, Bool.or_true, Bool.true_or, Bool.false_or, Bool.false_eq_true, if_false, if_true, up_zero, Nat.reduceAdd, Nat.reduceSub, binv, ↓opt_def, AV.isAny, AV.cells, ldc, List.map_cons, List.map_nil, St.set_next, St.set_same, St.up_next, Int.natCast_nonneg, lt_len, le_len, Int.toNat_natCast, true_and, and_true, eq_self, reduceCtorEq, decide_true, List.length_singleton, er_int, er_bool, er_str, ]
  refine (wwordF ks1 rfl (St.set_same _ _ _)).mono ?_
  rintro v u ⟨rfl, rfl⟩
  rw [St.set_set]
  try simp only [↓reduceIte, namesOf, List.any, I.names, aops, aopsI, aopsT, qstep, CPt, qget, Tbl.get, astep, ev, setd, List.set, List.getD, List.getElem?_cons_zero, List.getElem?_cons_succ, List.getElem?_nil, List.cons_append, List.nil_append, List.length_cons, List.length_nil, List.replicate, then_normal, inBlock_normal, Option.getD_some, Option.getD_none, Bool.or_false, Bool.or_true, Bool.true_or, Bool.false_or, Bool.false_eq_true, if_false, if_true, up_zero, Nat.reduceAdd, Nat.reduceSub, binv, ↓opt_def, AV.isAny, AV.cells, ldc, List.map_cons, List.map_nil, St.set_next, St.set_same, St.up_next, Int.natCast_nonneg, lt_len, le_len, Int.toNat_natCast, true_and, and_true, eq_self, reduceCtorEq, decide_true, List.length_singleton, er_int, er_bool, er_str, fillA, Option.map, AV.fits, AV.one, List.all_cons, List.all_nil, Nat.reduceBEq, Bool.and_true, Bool.not_false, Bool.and_self, Nat.zero_add, splice, List.take, List.drop, Nat.reduceLeDiff, St.set_set]
  have hsn := R1.like.next
  have hnmt := R1.hi
  have RA := ((R1.up 7).set (rdS b .none (rN b (rN b s 8) 8))).new (a := t2.next + 5) (.obj [.int .u64 (rW b s 8 : Int), .int .u64 (rW b (rN b s 8) 8 : Int), .int .i64 0, .int .i64 0, .sl [] .nil]) (by omega) (by omega) (fun g hg => by have := R1.lt hg; omega)
  have hA : (((t2.up 7).set nm (rdS b .none (rN b (rN b s 8) 8))).set (t2.next + 5) (.obj [.int .u64 (rW b s 8 : Int), .int .u64 (rW b (rN b s 8) 8 : Int), .int .i64 0, .int .i64 0, .sl [] .nil])).res (t2.next + 5) = some (.obj [.int .u64 (rW b s 8 : Int), .int .u64 (rW b (rN b s 8) 8 : Int), .int .i64 0, .int .i64 0, .sl [] .nil]) := by simp
  have ha0 : σ.next ≤ t2.next + 5 := by omega
  have ha1 : t2.next + 5 < (((t2.up 7).set nm (rdS b .none (rN b (rN b s 8) 8))).set (t2.next + 5) (.obj [.int .u64 (rW b s 8 : Int), .int .u64 (rW b (rN b s 8) 8 : Int), .int .i64 0, .int .i64 0, .sl [] .nil])).next := by simp
  have ha2 : t2.next + 5 ≠ nm := by omega
  have ha3 : ∀ g, vv = .tip g → t2.next + 5 ≠ g := fun g hg => by have := R1.lt hg; omega
  generalize (((t2.up 7).set nm (rdS b .none (rN b (rN b s 8) 8))).set (t2.next + 5) (.obj [.int .u64 (rW b s 8 : Int), .int .u64 (rW b (rN b s 8) 8 : Int), .int .i64 0, .int .i64 0, .sl [] .nil])) = uA at RA hA ha1 ⊢
  generalize t2.next + 5 = a at hA ha0 ha1 ha2 ha3 ⊢
  clear R1 hsn hnmt
  refine h3 _ _ ?_
  try clear h3 K_h3
  -- the Start
  refine T.seq_k (fun K_h3 h3 => ?_)
  refine T.regi hm ?_
  simp only [↓reduceIte, namesOf, List.any, I.names, aops, aopsI, aopsT, qstep, CPt, qget, Tbl.get, astep, ev, setd, List.set, List.getD, List.getElem?_cons_zero, List.getElem?_cons_succ, List.getElem?_nil, List.cons_append, List.nil_append, List.length_cons, List.length_nil, List.replicate, then_normal, inBlock_normal, Option.getD_some, Option.getD_none, Bool.or_false, Bool.or_true, Bool.true_or, Bool.false_or, Bool.false_eq_true, if_false, if_true, up_zero, Nat.reduceAdd, Nat.reduceSub, binv, ↓opt_def, AV.isAny, AV.cells, ldc, List.map_cons, List.map_nil, St.set_next, St.set_same, St.up_next, Int.natCast_nonneg, lt_len, le_len, Int.toNat_natCast, true_and, and_true, eq_self, reduceCtorEq, decide_true, List.length_singleton, er_int, er_bool, er_str]
  refine (wwordF ks2 rfl RA.at_).mono ?_
  rintro v u ⟨rfl, rfl⟩
  have RB0 := RA.set (rdS b .none (rN b (rN b (rN b s 8) 8) 8))
  have hB0 : (uA.set nm (rdS b .none (rN b (rN b (rN b s 8) 8) 8))).res a = _ := (St.set_other _ _ ha2).trans hA
  have hBn : a < (uA.set nm (rdS b .none (rN b (rN b (rN b s 8) 8) 8))).next := ha1
  generalize (uA.set nm (rdS b .none (rN b (rN b (rN b s 8) 8) 8))) = uB at RB0 hB0 hBn ⊢
  try simp only [↓reduceIte, namesOf, List.any, I.names, aops, aopsI, aopsT, qstep, CPt, qget, Tbl.get, astep, ev, setd, List.set, List.getD, List.getElem?_cons_zero, List.getElem?_cons_succ, List.getElem?_nil, List.cons_append, List.nil_append, List.length_cons, List.length_nil, List.replicate, then_normal, inBlock_normal, Option.getD_some, Option.getD_none, Bool.or_false, Bool.or_true, Bool.true_or, Bool.false_or, Bool.false_eq_true, if_false, if_true, up_zero, Nat.reduceAdd, Nat.reduceSub, binv, ↓opt_def, AV.isAny, AV.cells, ldc, List.map_cons, List.map_nil, St.set_next, St.set_same, St.up_next, Int.natCast_nonneg, lt_len, le_len, Int.toNat_natCast, true_and, and_true, eq_self, reduceCtorEq, decide_true, List.length_singleton, er_int, er_bool, er_str, hB0, AV.fits, AV.one, List.all_cons, List.all_nil, Nat.reduceBEq, Bool.and_true, Bool.not_false, Bool.and_self, Nat.zero_add, splice, List.take, List.drop, Nat.reduceLeDiff]
  have RB := RB0.new (a := a) (.obj [.int .u64 (rW b s 8 : Int), .int .u64 (rW b (rN b s 8) 8 : Int), .int .i64 (IntKind.i64.wrap (rW b (rN b (rN b s 8) 8) 8 : Int)), .int .i64 0, .sl [] .nil]) ha0 ha2 ha3
  have hB : (uB.set a (.obj [.int .u64 (rW b s 8 : Int), .int .u64 (rW b (rN b s 8) 8 : Int), .int .i64 (IntKind.i64.wrap (rW b (rN b (rN b s 8) 8) 8 : Int)), .int .i64 0, .sl [] .nil])).res a = _ := St.set_same _ _ _
  have hBn' : a < (uB.set a (.obj [.int .u64 (rW b s 8 : Int), .int .u64 (rW b (rN b s 8) 8 : Int), .int .i64 (IntKind.i64.wrap (rW b (rN b (rN b s 8) 8) 8 : Int)), .int .i64 0, .sl [] .nil])).next := hBn
  generalize (uB.set a (.obj [.int .u64 (rW b s 8 : Int), .int .u64 (rW b (rN b s 8) 8 : Int), .int .i64 (IntKind.i64.wrap (rW b (rN b (rN b s 8) 8) 8 : Int)), .int .i64 0, .sl [] .nil])) = uB2 at RB hB hBn' ⊢
  clear RA hA ha1 RB0 hB0 hBn
  refine h3 _ _ ?_
  try clear h3 K_h3
  -- the End
  refine T.seq_k (fun K_h3 h3 => ?_)
  refine T.regi hm ?_
  simp only [↓reduceIte, namesOf, List.any, I.names, aops, aopsI, aopsT, qstep, CPt, qget, Tbl.get, astep, ev, setd, List.set, List.getD, List.getElem?_cons_zero, List.getElem?_cons_succ, List.getElem?_nil, List.cons_append, List.nil_append, List.length_cons, List.length_nil, List.replicate, then_normal, inBlock_normal, Option.getD_some, Option.getD_none, Bool.or_false, Bool.or_true, Bool.true_or, Bool.false_or, Bool.false_eq_true, if_false, if_true, up_zero, Nat.reduceAdd, Nat.reduceSub, binv, ↓opt_def, AV.isAny, AV.cells, ldc, List.map_cons, List.map_nil, St.set_next, St.set_same, St.up_next, Int.natCast_nonneg, lt_len, le_len, Int.toNat_natCast, true_and, and_true, eq_self, reduceCtorEq, decide_true, List.length_singleton, er_int, er_bool, er_str]
  refine (wwordF ks3 rfl RB.at_).mono ?_
  rintro v u ⟨rfl, rfl⟩
  have RC0 := RB.set (rdS b .none (rN b (rN b (rN b (rN b s 8) 8) 8) 8))
  have hC0 : (uB2.set nm (rdS b .none (rN b (rN b (rN b (rN b s 8) 8) 8) 8))).res a = _ := (St.set_other _ _ ha2).trans hB
  have hCn : a < (uB2.set nm (rdS b .none (rN b (rN b (rN b (rN b s 8) 8) 8) 8))).next := hBn'
  generalize (uB2.set nm (rdS b .none (rN b (rN b (rN b (rN b s 8) 8) 8) 8))) = uC at RC0 hC0 hCn ⊢
  try simp only [↓reduceIte, namesOf, List.any, I.names, aops, aopsI, aopsT, qstep, CPt, qget, Tbl.get, astep, ev, setd, List.set, List.getD, List.getElem?_cons_zero, List.getElem?_cons_succ, List.getElem?_nil, List.cons_append, List.nil_append, List.length_cons, List.length_nil, List.replicate, then_normal, inBlock_normal, Option.getD_some, Option.getD_none, Bool.or_false, Bool.or_true, Bool.true_or, Bool.false_or, Bool.false_eq_true, if_false, if_true, up_zero, Nat.reduceAdd, Nat.reduceSub, binv, ↓opt_def, AV.isAny, AV.cells, ldc, List.map_cons, List.map_nil, St.set_next, St.set_same, St.up_next, Int.natCast_nonneg, lt_len, le_len, Int.toNat_natCast, true_and, and_true, eq_self, reduceCtorEq, decide_true, List.length_singleton, er_int, er_bool, er_str, hC0, AV.fits, AV.one, List.all_cons, List.all_nil, Nat.reduceBEq, Bool.and_true, Bool.not_false, Bool.and_self, Nat.zero_add, splice, List.take, List.drop, Nat.reduceLeDiff]
  have RC := RC0.new (a := a) (.obj [.int .u64 (rW b s 8 : Int), .int .u64 (rW b (rN b s 8) 8 : Int), .int .i64 (IntKind.i64.wrap (rW b (rN b (rN b s 8) 8) 8 : Int)), .int .i64 (IntKind.i64.wrap (rW b (rN b (rN b (rN b s 8) 8) 8) 8 : Int)), .sl [] .nil]) ha0 ha2 ha3
  have hC : (uC.set a (.obj [.int .u64 (rW b s 8 : Int), .int .u64 (rW b (rN b s 8) 8 : Int), .int .i64 (IntKind.i64.wrap (rW b (rN b (rN b s 8) 8) 8 : Int)), .int .i64 (IntKind.i64.wrap (rW b (rN b (rN b (rN b s 8) 8) 8) 8 : Int)), .sl [] .nil])).res a = _ := St.set_same _ _ _
  have hCn' : a < (uC.set a (.obj [.int .u64 (rW b s 8 : Int), .int .u64 (rW b (rN b s 8) 8 : Int), .int .i64 (IntKind.i64.wrap (rW b (rN b (rN b s 8) 8) 8 : Int)), .int .i64 (IntKind.i64.wrap (rW b (rN b (rN b (rN b s 8) 8) 8) 8 : Int)), .sl [] .nil])).next := hCn
  generalize (uC.set a (.obj [.int .u64 (rW b s 8 : Int), .int .u64 (rW b (rN b s 8) 8 : Int), .int .i64 (IntKind.i64.wrap (rW b (rN b (rN b s 8) 8) 8 : Int)), .int .i64 (IntKind.i64.wrap (rW b (rN b (rN b (rN b s 8) 8) 8) 8 : Int)), .sl [] .nil])) = uC2 at RC hC hCn' ⊢
  clear RB hB hBn' RC0 hC0 hCn
  refine h3 _ _ ?_
  try clear h3 K_h3
  -- the Data
  refine T.seq_k (fun K_h3 h3 => ?_)
  refine T.regi hm ?_
  simp only [↓reduceIte, namesOf, List.any, I.names, aops, aopsI, aopsT, qstep, CPt, qget, Tbl.get, astep, ev, setd, List.set, List.getD, List.getElem?_cons_zero, List.getElem?_cons_succ, List.getElem?_nil, List.cons_append, List.nil_append, List.length_cons, List.length_nil, List.replicate, then_normal, inBlock_normal, Option.getD_some, Option.getD_none, Bool.or_false, Bool.or_true, Bool.true_or, Bool.false_or, Bool.false_eq_true, if_false, if_true, up_zero, Nat.reduceAdd, Nat.reduceSub, binv, ↓opt_def, AV.isAny, AV.cells, ldc, List.map_cons, List.map_nil, St.set_next, St.set_same, St.up_next, Int.natCast_nonneg, lt_len, le_len, Int.toNat_natCast, true_and, and_true, eq_self, reduceCtorEq, decide_true, List.length_singleton, er_int, er_bool, er_str]
  refine (wtextR_ok ks4 RC.at_).mono ?_
  rintro v u ⟨rfl, rfl⟩
  rw [← hNn] at ks5 ⊢
  have RD0 := RC.set (rdS b .none s')
  have hD0 : (uC2.set nm (rdS b .none s')).res a = _ := (St.set_other _ _ ha2).trans hC
  have hDn : a < (uC2.set nm (rdS b .none s')).next := hCn'
  generalize (uC2.set nm (rdS b .none s')) = uD at RD0 hD0 hDn ⊢
  try simp only [↓reduceIte, namesOf, List.any, I.names, aops, aopsI, aopsT, qstep, CPt, qget, Tbl.get, astep, ev, setd, List.set, List.getD, List.getElem?_cons_zero, List.getElem?_cons_succ, List.getElem?_nil, List.cons_append, List.nil_append, List.length_cons, List.length_nil, List.replicate, then_normal, inBlock_normal, Option.getD_some, Option.getD_none, Bool.or_false, Bool.or_true, Bool.true_or, Bool.false_or, Bool.false_eq_true, if_false, if_true, up_zero, Nat.reduceAdd, Nat.reduceSub, binv, ↓opt_def, AV.isAny, AV.cells, ldc, List.map_cons, List.map_nil, St.set_next, St.set_same, St.up_next, Int.natCast_nonneg, lt_len, le_len, Int.toNat_natCast, true_and, and_true, eq_self, reduceCtorEq, decide_true, List.length_singleton, er_int, er_bool, er_str, hD0, AV.fits, AV.one, List.all_cons, List.all_nil, Nat.reduceBEq, Bool.and_true, Bool.not_false, Bool.and_self, Nat.zero_add, splice, List.take, List.drop, Nat.reduceLeDiff]
  have hcells : [AV.int .u64 (rW b s 8 : Int), .int .u64 (rW b (rN b s 8) 8 : Int), .int .i64 (IntKind.i64.wrap (rW b (rN b (rN b s 8) 8) 8 : Int)), .int .i64 (IntKind.i64.wrap (rW b (rN b (rN b (rN b s 8) 8) 8) 8 : Int)), .sl (bytesAV (rX b (rN b (rN b (rN b (rN b s 8) 8) 8) 8))) .none] =
      [.int .u64 (X.tr : Int), .int .u64 (X.id : Int), .int .i64 X.st, .int .i64 X.en, .sl (bytesAV X.da) .none] := by rw [hS]
  have hXl : X.da.length ≤ 65535 := by rw [hS]; exact hxl
  rw [hcells]
  clear hcells hS hxl
  have RE := RD0.new (a := a) (.obj [.int .u64 (X.tr : Int), .int .u64 (X.id : Int), .int .i64 X.st, .int .i64 X.en, .sl (bytesAV X.da) .none]) ha0 ha2 ha3
  have hE : (uD.set a (.obj [.int .u64 (X.tr : Int), .int .u64 (X.id : Int), .int .i64 X.st, .int .i64 X.en, .sl (bytesAV X.da) .none])).res a = _ := St.set_same _ _ _
  generalize (uD.set a (.obj [.int .u64 (X.tr : Int), .int .u64 (X.id : Int), .int .i64 X.st, .int .i64 X.en, .sl (bytesAV X.da) .none])) = uE at RE hE ⊢
  clear RC hC hCn' RD0 hD0 hDn
  refine h3 _ _ ?_
  try clear h3 K_h3
  -- may it be?
  have hms : mayI X.st X.en (((bytesAV X.da).length : Nat) : Int) = mayS X := by rw [bytesAV_len]; rfl
  refine T.seq_k (fun K_h3 h3 => ?_)
  have out : (0 ≤ s'.bad ∨ mayS X = true) → ∀ ρ', keep [0, 4, 5, 6, 7, 9] 0 ρ' = [.sl (bytesAV b) .none, .any, .any, .any, .ptr nm 0, .int .i64 (N : Int), .sl (spsAV acc) vv, .int .i64 (i : Int), .any, .ptr a 0] ++ List.replicate 74 .any → K_h3 ρ' uE := by
    intro hor ρ' hρ
    refine h3 _ _ ?_
    try clear h3 K_h3
    refine T.gh (Gh.keep [0, 4, 5, 6, 7, 9]) ?_
    rw [hρ]
    have hgo2 : goS b N s0 [] = (if 0 ≤ s'.bad then (s'.bad, [], s') else goS b (N - (i + 1)) s' (acc ++ [X])) := by
      rw [hgo1, hn']
      split
      · rfl
      · rename_i hx
        rcases hor with h | h
        · exact absurd h hx
        · rw [if_pos h]
    have hEn : ∀ k, (uE.up k).res a = some (.obj [.int .u64 (X.tr : Int), .int .u64 (X.id : Int), .int .i64 X.st, .int .i64 X.en, .sl (bytesAV X.da) .none]) := fun _ => hE
    have hsn := RE.like.next
    have hnm := RE.hi
    have hfit : (spsAV (acc ++ [X])).all (AV.fits 5) = true := sps_fits _
    have hfit1 : AV.fits 5 (.agg [.int .u64 (X.tr : Int), .int .u64 (X.id : Int), .int .i64 X.st, .int .i64 X.en, .sl (bytesAV X.da) .none]) = true := rfl
    have her : (AV.agg [.int .u64 (X.tr : Int), .int .u64 (X.id : Int), .int .i64 X.st, .int .i64 X.en, .sl (bytesAV X.da) .none]).er = .agg [.int .u64 (X.tr : Int), .int .u64 (X.id : Int), .int .i64 X.st, .int .i64 X.en, .sl (bytesAV X.da) .none] := rfl
    have hle : decide ((acc.length + 1) * 56 ≤ 70368744177664 ∧ acc.length + 1 ≤ 4611686018427387904) = true := decide_eq_true (by omega)
    have hlen5 : ∀ x y z w q : AV, [x, y, z, w, q].length = 5 := fun _ _ _ _ _ => rfl
    have htake : ∀ x y z w q : AV, List.take 5 (List.drop 0 [x, y, z, w, q]) = [x, y, z, w, q] := fun _ _ _ _ _ => rfl
    have h05 : 0 + 5 ≤ 5 := Nat.le_refl _
    rcases RE.ver with rfl | ⟨g, rfl, _, _, _, hg⟩
    · have hac := hvn rfl
      subst hac
      have hX1 : [AV.agg [.int .u64 (X.tr : Int), .int .u64 (X.id : Int), .int .i64 X.st, .int .i64 X.en, .sl (bytesAV X.da) .none]] = spsAV [X] := rfl
      have hX0 : spsAV ([] : List Sp) = [] := rfl
      have hX2 : (spsAV [X]).isEmpty = false := rfl
      have hX3 : (spsAV [X]).all (AV.fits 5) = true := sps_fits _
      refine T.regi hm ?_
      simp only [↓reduceIte, namesOf, List.any, I.names, aops, aopsI, aopsT, qstep, CPt, qget, Tbl.get, astep, ev, setd, List.set, List.getD, List.getElem?_cons_zero, List.getElem?_cons_succ, List.getElem?_nil, List.cons_append, List.nil_append, List.length_cons, List.length_nil, List.replicate, then_normal, inBlock_normal, Option.getD_some, Option.getD_none, Bool.or_false, Bool.or_true, Bool.true_or, Bool.false_or, Bool.false_eq_true, if_false, if_true, up_zero, Nat.reduceAdd, Nat.reduceSub, binv, ↓opt_def, AV.isAny, AV.cells, ldc, List.map_cons, List.map_nil, St.set_next, St.set_same, St.up_next, Int.natCast_nonneg, lt_len, le_len, Int.toNat_natCast, true_and, and_true, eq_self, reduceCtorEq, decide_true, List.length_singleton, er_int, er_bool, er_str, hEn, hX0, held, hfit1, her, List.all_cons, List.all_nil, Bool.and_self, srcOf, List.nil_append, hX1, hX3, sps_er, sps_len, hX2, List.length_append, List.length_singleton, htake, h05, hlen5, Nat.reduceMul, Nat.reduceLeDiff, and_self, Nat.zero_add, St.up_res]
      refine h2 _ _ ?_
      try clear h2 K_h2
      refine T.regi hm ?_
      simp only [↓reduceIte, namesOf, List.any, I.names, aops, aopsI, aopsT, qstep, CPt, qget, Tbl.get, astep, ev, setd, List.set, List.getD, List.getElem?_cons_zero, List.getElem?_cons_succ, List.getElem?_nil, List.cons_append, List.nil_append, List.length_cons, List.length_nil, List.replicate, then_normal, inBlock_normal, Option.getD_some, Option.getD_none, Bool.or_false, Bool.or_true, Bool.true_or, Bool.false_or, Bool.false_eq_true, if_false, if_true, up_zero, Nat.reduceAdd, Nat.reduceSub, binv, ↓opt_def, AV.isAny, AV.cells, ldc, List.map_cons, List.map_nil, St.set_next, St.set_same, St.up_next, Int.natCast_nonneg, lt_len, le_len, Int.toNat_natCast, true_and, and_true, eq_self, reduceCtorEq, decide_true, List.length_singleton, er_int, er_bool, er_str, hiw]
      exact ⟨hil, _, _, Gh.keep [0, 4, 5, 6, 7], s', [X], _, ks5, (RE.up 5).appNil (g := uE.next + 3) (by omega) (by omega) (by simp), by rw [← hacc]; rfl, (fun h => by cases h), hgo2, rfl⟩
    · have hgn : ∀ k, (uE.up k).res g = some (.tip 5) := fun _ => hg
      have hle' : decide ((acc.length + 1) * 56 ≤ 70368744177664 ∧ acc.length ≤ 4611686018427387903) = true := decide_eq_true (by omega)
      refine T.regi hm ?_
      simp only [↓reduceIte, namesOf, List.any, I.names, aops, aopsI, aopsT, qstep, CPt, qget, Tbl.get, astep, ev, setd, List.set, List.getD, List.getElem?_cons_zero, List.getElem?_cons_succ, List.getElem?_nil, List.cons_append, List.nil_append, List.length_cons, List.length_nil, List.replicate, then_normal, inBlock_normal, Option.getD_some, Option.getD_none, Bool.or_false, Bool.or_true, Bool.true_or, Bool.false_or, Bool.false_eq_true, if_false, if_true, up_zero, Nat.reduceAdd, Nat.reduceSub, binv, ↓opt_def, AV.isAny, AV.cells, ldc, List.map_cons, List.map_nil, St.set_next, St.set_same, St.up_next, Int.natCast_nonneg, lt_len, le_len, Int.toNat_natCast, true_and, and_true, eq_self, reduceCtorEq, decide_true, List.length_singleton, er_int, er_bool, er_str, hEn, held, hfit1, her, List.all_cons, List.all_nil, Bool.and_self, srcOf, sps_snoc', hfit, sps_len, List.length_singleton, htake, h05, hlen5, hle, hle', hgn]
      refine h2 _ _ ?_
      try clear h2 K_h2
      refine T.regi hm ?_
      simp only [↓reduceIte, namesOf, List.any, I.names, aops, aopsI, aopsT, qstep, CPt, qget, Tbl.get, astep, ev, setd, List.set, List.getD, List.getElem?_cons_zero, List.getElem?_cons_succ, List.getElem?_nil, List.cons_append, List.nil_append, List.length_cons, List.length_nil, List.replicate, then_normal, inBlock_normal, Option.getD_some, Option.getD_none, Bool.or_false, Bool.or_true, Bool.true_or, Bool.false_or, Bool.false_eq_true, if_false, if_true, up_zero, Nat.reduceAdd, Nat.reduceSub, binv, ↓opt_def, AV.isAny, AV.cells, ldc, List.map_cons, List.map_nil, St.set_next, St.set_same, St.up_next, Int.natCast_nonneg, lt_len, le_len, Int.toNat_natCast, true_and, and_true, eq_self, reduceCtorEq, decide_true, List.length_singleton, er_int, er_bool, er_str, hiw]
      exact ⟨hil, _, _, Gh.keep [0, 4, 5, 6, 7], s', acc ++ [X], _, ks5, (RE.up 5).appTip (g := uE.next + 3) (by omega) (by omega) (by simp), by simp [hacc], (fun h => by cases h), hgo2, rfl⟩
  clear h2
  refine T.seq_k (fun K_h4 h4 => ?_)
  refine T.regi hm ?_
  simp only [↓reduceIte, namesOf, List.any, I.names, aops, aopsI, aopsT, qstep, CPt, qget, Tbl.get, astep, ev, setd, List.set, List.getD, List.getElem?_cons_zero, List.getElem?_cons_succ, List.getElem?_nil, List.cons_append, List.nil_append, List.length_cons, List.length_nil, List.replicate, then_normal, inBlock_normal, Option.getD_some, Option.getD_none, Bool.or_false, Bool.or_true, Bool.true_or, Bool.false_or, Bool.false_eq_true, if_false, if_true, up_zero, Nat.reduceAdd, Nat.reduceSub, binv, ↓opt_def, AV.isAny, AV.cells, ldc, List.map_cons, List.map_nil, St.set_next, St.set_same, St.up_next, Int.natCast_nonneg, lt_len, le_len, Int.toNat_natCast, true_and, and_true, eq_self, reduceCtorEq, decide_true, List.length_singleton, er_int, er_bool, er_str]
  refine (wbad_ok RE.at_).mono ?_
  rintro v u ⟨rfl, rfl⟩
  by_cases hsb : 0 ≤ s'.bad
  · have e4 : decide (s'.bad < 0) = false := decide_eq_false (by omega)
    try simp only [↓reduceIte, namesOf, List.any, I.names, aops, aopsI, aopsT, qstep, CPt, qget, Tbl.get, astep, ev, setd, List.set, List.getD, List.getElem?_cons_zero, List.getElem?_cons_succ, List.getElem?_nil, List.cons_append, List.nil_append, List.length_cons, List.length_nil, List.replicate, then_normal, inBlock_normal, Option.getD_some, Option.getD_none, Bool.or_false, Bool.or_true, Bool.true_or, Bool.false_or, Bool.false_eq_true, if_false, if_true, up_zero, Nat.reduceAdd, Nat.reduceSub, binv, ↓opt_def, AV.isAny, AV.cells, ldc, List.map_cons, List.map_nil, St.set_next, St.set_same, St.up_next, Int.natCast_nonneg, lt_len, le_len, Int.toNat_natCast, true_and, and_true, eq_self, reduceCtorEq, decide_true, List.length_singleton, er_int, er_bool, er_str, up_zero, e4]
    refine h4 _ _ ?_
    try clear h4 K_h4
    refine T.cond rfl (fun h => by cases h) (fun _ => T.skip ?_)
    exact out (.inl hsb) _ rfl
  have e4 : decide (s'.bad < 0) = true := decide_eq_true (by omega)
  have hlen5 : ∀ x y z w q : AV, [x, y, z, w, q].length = 5 := fun _ _ _ _ _ => rfl
  have htake : ∀ x y z w q : AV, List.take 5 (List.drop 0 [x, y, z, w, q]) = [x, y, z, w, q] := fun _ _ _ _ _ => rfl
  have h05 : 0 + 5 ≤ 5 := Nat.le_refl _
  try simp only [↓reduceIte, namesOf, List.any, I.names, aops, aopsI, aopsT, qstep, CPt, qget, Tbl.get, astep, ev, setd, List.set, List.getD, List.getElem?_cons_zero, List.getElem?_cons_succ, List.getElem?_nil, List.cons_append, List.nil_append, List.length_cons, List.length_nil, List.replicate, then_normal, inBlock_normal, Option.getD_some, Option.getD_none, Bool.or_false, Bool.or_true, Bool.true_or, Bool.false_or, Bool.false_eq_true, if_false, if_true, up_zero, Nat.reduceAdd, Nat.reduceSub, binv, ↓opt_def, AV.isAny, AV.cells, ldc, List.map_cons, List.map_nil, St.set_next, St.set_same, St.up_next, Int.natCast_nonneg, lt_len, le_len, Int.toNat_natCast, true_and, and_true, eq_self, reduceCtorEq, decide_true, List.length_singleton, er_int, er_bool, er_str, up_zero, e4, hE, hlen5, htake, h05]
  refine may_ok.mono ?_
  rintro v u2 ⟨rfl, rfl⟩
  rw [hms]
  cases hmay : mayS X with
  | true =>
    try simp only [↓reduceIte, namesOf, List.any, I.names, aops, aopsI, aopsT, qstep, CPt, qget, Tbl.get, astep, ev, setd, List.set, List.getD, List.getElem?_cons_zero, List.getElem?_cons_succ, List.getElem?_nil, List.cons_append, List.nil_append, List.length_cons, List.length_nil, List.replicate, then_normal, inBlock_normal, Option.getD_some, Option.getD_none, Bool.or_false, Bool.or_true, Bool.true_or, Bool.false_or, Bool.false_eq_true, if_false, if_true, up_zero, Nat.reduceAdd, Nat.reduceSub, binv, ↓opt_def, AV.isAny, AV.cells, ldc, List.map_cons, List.map_nil, St.set_next, St.set_same, St.up_next, Int.natCast_nonneg, lt_len, le_len, Int.toNat_natCast, true_and, and_true, eq_self, reduceCtorEq, decide_true, List.length_singleton, er_int, er_bool, er_str, up_zero, Bool.not_true]
    refine h4 _ _ ?_
    try clear h4 K_h4
    refine T.cond rfl (fun h => by cases h) (fun _ => T.skip ?_)
    exact out (.inr hmay) _ rfl
  | false =>
    try simp only [↓reduceIte, namesOf, List.any, I.names, aops, aopsI, aopsT, qstep, CPt, qget, Tbl.get, astep, ev, setd, List.set, List.getD, List.getElem?_cons_zero, List.getElem?_cons_succ, List.getElem?_nil, List.cons_append, List.nil_append, List.length_cons, List.length_nil, List.replicate, then_normal, inBlock_normal, Option.getD_some, Option.getD_none, Bool.or_false, Bool.or_true, Bool.true_or, Bool.false_or, Bool.false_eq_true, if_false, if_true, up_zero, Nat.reduceAdd, Nat.reduceSub, binv, ↓opt_def, AV.isAny, AV.cells, ldc, List.map_cons, List.map_nil, St.set_next, St.set_same, St.up_next, Int.natCast_nonneg, lt_len, le_len, Int.toNat_natCast, true_and, and_true, eq_self, reduceCtorEq, decide_true, List.length_singleton, er_int, er_bool, er_str, up_zero, Bool.not_false]
    refine h4 _ _ ?_
    try clear h4 K_h4
    clear out
    refine T.cond rfl (fun _ => ?_) (fun h => by cases h)
    refine T.seq_k (fun K_h3 h3 => ?_)
    refine T.regi hm ?_
    simp only [↓reduceIte, namesOf, List.any, I.names, aops, aopsI, aopsT, qstep, CPt, qget, Tbl.get, astep, ev, setd, List.set, List.getD, List.getElem?_cons_zero, List.getElem?_cons_succ, List.getElem?_nil, List.cons_append, List.nil_append, List.length_cons, List.length_nil, List.replicate, then_normal, inBlock_normal, Option.getD_some, Option.getD_none, Bool.or_false, Bool.or_true, Bool.true_or, Bool.false_or, Bool.false_eq_true, if_false, if_true, up_zero, Nat.reduceAdd, Nat.reduceSub, binv, ↓opt_def, AV.isAny, AV.cells, ldc, List.map_cons, List.map_nil, St.set_next, St.set_same, St.up_next, Int.natCast_nonneg, lt_len, le_len, Int.toNat_natCast, true_and, and_true, eq_self, reduceCtorEq, decide_true, List.length_singleton, er_int, er_bool, er_str, fillA, Option.map, AV.fits, AV.one, List.all_cons, List.all_nil, Nat.reduceBEq, Bool.and_true, Bool.not_false, Bool.and_self, Nat.zero_add, splice, List.take, List.drop, Nat.reduceLeDiff]
    refine h3 _ _ ?_
    try clear h3 K_h3
    rw [if_neg hsb, hmay, if_neg (by simp)] at hgo1
    have hG : G = (s.at_, []) := by rw [hget, hgo1]; simp [hk0]
    exact T.ret (Fin.retw rfl (Wk.tup2 (Wk.sl _ _)) (.inr ⟨by rw [hG]; exact hk0, u2.next + 2, rfl, by rw [hG]; simp, by have := RE.like.next; omega, by simp, (RE.like.up 6).set _ (by have := RE.like.next; omega)⟩))

end Go.VL

namespace Go.VL

open Go.Proofs

theorem rW_bad {l : List UInt8} {s : Rs} {w : Nat} (hs : s.bad = -1) (h : 0 ≤ (rN l s w).bad) : rW l s w = 0 := by
  unfold rN at h
  unfold rW
  split at h
  · rw [show (Rs.mk (s.at_ + w) s.bad).bad = -1 from hs] at h; omega
  · rename_i ht; rw [if_neg ht]

end Go.VL

namespace Go.VL

open Go.Proofs

/-- a trace's bytes -/
def spN (b : List UInt8) (s : Rs) (m : Nat) : List UInt8 := (b.drop s.at_.toNat).take m

def hdI (b : List UInt8) (s : Rs) : Nat := rW b s 8

def hdM (b : List UInt8) (s : Rs) : Nat := rW b (rN b s 8) 4

def hdN (b : List UInt8) (s : Rs) : Rs := rN b (rN b s 8) 4

/-- traces, one by one -/
def goR (b : List UInt8) : Nat → Rs → List Tc → Option (List Tc × Rs)
  | 0, s, acc => some (acc, s)
  | n + 1, s, acc =>
    if 0 ≤ (hdN b s).bad ∨ (b.length : Int) < (hdN b s).at_ + hdM b s then none
    else if 0 ≤ (getS (spN b (hdN b s) (hdM b s))).1 then none
    else goR b n ⟨(hdN b s).at_ + hdM b s, (hdN b s).bad⟩ (acc ++ [⟨hdI b s, (getS (spN b (hdN b s) (hdM b s))).2⟩])

def endP (b : List UInt8) (acc : List Tc) (s : Rs) : Option (List Tc) := if 0 ≤ s.bad ∨ s.at_ < b.length ∨ 64 < acc.length ∨ isB acc = false then none else some acc

def getP (b : List UInt8) : Option (List Tc) := (goR b (rW b r0 2) (rN b r0 2) []).bind fun p => endP b p.1 p.2

def pgOf : Option (List Tc) → Int × List Tc
  | none => (2, [])
  | some l => (0, l)

def pageG (x : List UInt8) : Int × List Tc := if (openB x).1 = 0 then pgOf (getP (openB x).2) else ((openB x).1, [])

theorem goR_bad {b : List UInt8} {n : Nat} {s : Rs} {acc : List Tc} (hs : 0 ≤ (hdN b s).bad ∨ (b.length : Int) < (hdN b s).at_ + hdM b s) : goR b (n + 1) s acc = none := by
  unfold goR; rw [if_pos hs]

theorem goR_no {b : List UInt8} {n : Nat} {s : Rs} {acc : List Tc} (hs : ¬ (0 ≤ (hdN b s).bad ∨ (b.length : Int) < (hdN b s).at_ + hdM b s)) (hg : 0 ≤ (getS (spN b (hdN b s) (hdM b s))).1) : goR b (n + 1) s acc = none := by
  unfold goR; rw [if_neg hs, if_pos hg]

theorem goR_go {b : List UInt8} {n : Nat} {s : Rs} {acc : List Tc} (hs : ¬ (0 ≤ (hdN b s).bad ∨ (b.length : Int) < (hdN b s).at_ + hdM b s)) (hg : ¬ 0 ≤ (getS (spN b (hdN b s) (hdM b s))).1) :
    goR b (n + 1) s acc = goR b n ⟨(hdN b s).at_ + hdM b s, (hdN b s).bad⟩ (acc ++ [⟨hdI b s, (getS (spN b (hdN b s) (hdM b s))).2⟩]) := by
  conv => lhs; unfold goR
  rw [if_neg hs, if_neg hg]

theorem goS_len {b : List UInt8} : ∀ {n : Nat} {s : Rs} {acc : List Sp}, (goS b n s acc).2.1.length ≤ acc.length + n
  | 0, s, acc => by unfold goS; split <;> simp
  | n + 1, s, acc => by
    unfold goS
    split
    · simp
    · split
      · simp
      · split
        · have := @goS_len b n (oneN b s) (acc ++ [oneS b s])
          simp at this; omega
        · simp

theorem getS_len {b : List UInt8} (hb : b.length ≤ 1000000) : (getS b).2.length ≤ 65535 := by
  have h := rW_lt (w := 2) (Rs.ok_r0 (l := b) (by omega))
  have h2 := @goS_len b (rW b r0 2) (rN b r0 2) []
  unfold getS
  simp only []
  split
  · simp
  · split
    · simp
    · simp at h2 ⊢; omega

theorem goR_sp {b : List UInt8} (hb : b.length ≤ 1000000) : ∀ {n : Nat} {s : Rs} {acc l : List Tc} {s' : Rs}, (∀ t ∈ acc, t.sp.length ≤ 65535) → goR b n s acc = some (l, s') → ∀ t ∈ l, t.sp.length ≤ 65535
  | 0, s, acc, l, s', ha, h => by cases h; exact ha
  | n + 1, s, acc, l, s', ha, h => by
    unfold goR at h
    split at h
    · cases h
    · split at h
      · cases h
      · refine goR_sp hb (fun t ht => ?_) h
        rcases List.mem_append.1 ht with ht | ht
        · exact ha t ht
        · rw [List.mem_singleton] at ht
          subst ht
          refine getS_len ?_
          unfold spN
          rw [List.length_take, List.length_drop]; omega

/-- the reader's place in what is left of the bytes -/
def sh (k : Nat) (s : Rs) : Rs := ⟨s.at_ - k, if s.bad = -1 then -1 else s.bad - k⟩

structure SH (k : Nat) (b : List UInt8) (s : Rs) : Prop where
  ok : s.ok b
  len : k ≤ b.length
  lo : (k : Int) ≤ s.at_
  bad : s.bad = -1 ∨ (k : Int) ≤ s.bad

theorem SH.neg {k : Nat} {b : List UInt8} {s : Rs} (h : SH k b s) : (sh k s).bad = -1 ↔ s.bad = -1 := by
  unfold sh; have := h.bad
  split <;> simp_all <;> omega

theorem SH.pos {k : Nat} {b : List UInt8} {s : Rs} (h : SH k b s) : 0 ≤ (sh k s).bad ↔ 0 ≤ s.bad := by
  unfold sh; have := h.bad
  split <;> simp_all <;> omega

theorem SH.isok {k : Nat} {b : List UInt8} {s : Rs} (h : SH k b s) : (sh k s).ok (b.drop k) := by
  obtain ⟨⟨⟨h1, h2, h3⟩, h4⟩, h5, h6, h7⟩ := h
  refine ⟨⟨by rw [List.length_drop]; omega, by unfold sh; simp; omega, by unfold sh; rw [List.length_drop]; simp; omega⟩, ?_⟩
  unfold sh
  split
  · exact .inl rfl
  · right; simp; omega

theorem SH.rt {k : Nat} {b : List UInt8} {s : Rs} (h : SH k b s) (w : Int) : rT (b.drop k) (sh k s) w = rT b s w := by
  have e := h.neg
  have := h.len
  unfold rT
  rw [Bool.eq_iff_iff, decide_eq_true_eq, decide_eq_true_eq, e, List.length_drop]
  unfold sh
  constructor <;> rintro ⟨h1, h2⟩ <;> refine ⟨h1, ?_⟩ <;> simp only [] at * <;> omega

theorem SH.rw {k : Nat} {b : List UInt8} {s : Rs} (h : SH k b s) (w : Nat) : rW (b.drop k) (sh k s) w = rW b s w := by
  unfold rW
  rw [h.rt]
  have : (b.drop k).drop (sh k s).at_.toNat = b.drop s.at_.toNat := by
    rw [List.drop_drop]; unfold sh; have := h.lo; congr 1; simp only []; omega
  rw [this]

theorem SH.rn {k : Nat} {b : List UInt8} {s : Rs} (h : SH k b s) (w : Nat) : rN (b.drop k) (sh k s) w = sh k (rN b s w) ∧ SH k b (rN b s w) := by
  have hk := rN_ok (w := w) h.ok
  have e := h.neg
  have h2 := h.lo
  have h3 := h.bad
  unfold rN at hk ⊢
  rw [h.rt]
  split
  · rename_i ht
    rw [if_pos ht] at hk
    exact ⟨by unfold sh; simp; omega, hk, h.len, by simp; omega, h3⟩
  · rename_i ht
    rw [if_neg ht] at hk
    refine ⟨?_, hk, h.len, h2, ?_⟩
    · unfold rF
      by_cases hb : s.bad = -1
      · rw [if_pos (e.2 hb), if_pos hb]; unfold sh; simp; omega
      · rw [if_neg (fun x => hb (e.1 x)), if_neg hb]
    · unfold rF
      by_cases hb : s.bad = -1
      · right; simp [hb, h2]
      · exact .inr (by simp only [if_neg hb]; omega)

theorem sh_new (k : Nat) : sh k ⟨(k : Int), -1⟩ = r0 := by unfold sh r0; simp

end Go.VL

namespace Go.VL

open Go.Proofs

theorem flat_snoc {α β : Type} (f : α → List β) {l : List α} {i : Nat} (h : i < l.length) : (l.take (i + 1)).flatMap f = (l.take i).flatMap f ++ f l[i] := by
  rw [List.take_succ_eq_append_getElem h, List.flatMap_append]; simp

theorem spans_le {l : List Sp} (h : ∀ s ∈ l, s.da.length ≤ 200) : (l.flatMap spanB).length ≤ l.length * 234 := by
  induction l with
  | nil => simp
  | cons s r ih =>
    rw [List.flatMap_cons, List.length_append, List.length_cons, spanB_len, Nat.add_mul]
    have := h s (by simp)
    have := ih (fun x hx => h x (List.mem_cons_of_mem _ hx))
    omega

theorem mayS_len {s : Sp} (h : mayS s = true) : s.da.length ≤ 200 := by have := mayS_facts h; omega

theorem sps_cells (s : Sp) : [AV.int .u64 (s.tr : Int), .int .u64 (s.id : Int), .int .i64 s.st, .int .i64 s.en, .sl (bytesAV s.da) .none].length = 5 := rfl

set_option maxRecDepth 10000 in
set_option maxHeartbeats 1000000 in
theorem spput_ok {l : List Sp} {g : Ver} {σ : St} (hl : l.length ≤ 65535) (hd : ∀ s ∈ l, s.da.length ≤ 9223372036854775807) :
    ACalls Try.prog n_spput [.sl (spsAV l) g] σ (fun v σ' => v = (if l.all mayS then .tup [.sl (bytesAV (spansB l)) .none, .nili] else .tup [.sl [] .none, .iface tCode (.int .i64 1)]) ∧ σ' = σ) := by
  refine s_spput (fun wf => ?_)
  unfold c_spput
  have e1 : decide ((l.length : Int) > 65535) = false := decide_eq_false (by omega)
  have e2 := u64w (n := l.length) (by omega)
  refine T.seq_k (fun K_h0 h0 => ?_)
  refine T.regi hm ?_
  simp only [↓reduceIte, namesOf, List.any, I.names, aops, aopsI, aopsT, qstep, CPt, qget, Tbl.get, astep, ev, setd, List.set, List.getD, List.getElem?_cons_zero, List.getElem?_cons_succ, List.getElem?_nil, List.cons_append, List.nil_append, List.length_cons, List.length_nil, List.replicate, then_normal, inBlock_normal, Option.getD_some, Option.getD_none, Bool.or_false, Bool.or_true, Bool.true_or, Bool.false_or, Bool.false_eq_true, if_false, if_true, up_zero, Nat.reduceAdd, Nat.reduceSub, binv, ↓opt_def, AV.isAny, AV.cells, ldc, List.map_cons, List.map_nil, St.set_next, St.set_same, St.up_next, Int.natCast_nonneg, lt_len, le_len, Int.toNat_natCast, true_and, and_true, eq_self, reduceCtorEq, decide_true, List.length_singleton, er_int, er_bool, er_str]
  refine h0 _ _ ?_
  try clear h0 K_h0
  refine T.seq_k (fun K_h1 h1 => ?_)
  refine T.seq_k (fun K_h0 h0 => ?_)
  refine T.regi hm ?_
  simp only [↓reduceIte, namesOf, List.any, I.names, aops, aopsI, aopsT, qstep, CPt, qget, Tbl.get, astep, ev, setd, List.set, List.getD, List.getElem?_cons_zero, List.getElem?_cons_succ, List.getElem?_nil, List.cons_append, List.nil_append, List.length_cons, List.length_nil, List.replicate, then_normal, inBlock_normal, Option.getD_some, Option.getD_none, Bool.or_false, Bool.or_true, Bool.true_or, Bool.false_or, Bool.false_eq_true, if_false, if_true, up_zero, Nat.reduceAdd, Nat.reduceSub, binv, ↓opt_def, AV.isAny, AV.cells, ldc, List.map_cons, List.map_nil, St.set_next, St.set_same, St.up_next, Int.natCast_nonneg, lt_len, le_len, Int.toNat_natCast, true_and, and_true, eq_self, reduceCtorEq, decide_true, List.length_singleton, er_int, er_bool, er_str, sps_len, e1]
  refine h0 _ _ ?_
  try clear h0 K_h0
  refine T.cond rfl (fun h => by cases h) (fun _ => T.skip ?_)
  refine h1 _ _ ?_
  try clear h1 K_h1
  refine T.seq_k (fun K_h1 h1 => ?_)
  have hnil : AV.sl [] .nil = .sl (bytesAV []) .nil := rfl
  rw [hnil]
  refine T.regi hm ?_
  simp only [↓reduceIte, namesOf, List.any, I.names, aops, aopsI, aopsT, qstep, CPt, qget, Tbl.get, astep, ev, setd, List.set, List.getD, List.getElem?_cons_zero, List.getElem?_cons_succ, List.getElem?_nil, List.cons_append, List.nil_append, List.length_cons, List.length_nil, List.replicate, then_normal, inBlock_normal, Option.getD_some, Option.getD_none, Bool.or_false, Bool.or_true, Bool.true_or, Bool.false_or, Bool.false_eq_true, if_false, if_true, up_zero, Nat.reduceAdd, Nat.reduceSub, binv, ↓opt_def, AV.isAny, AV.cells, ldc, List.map_cons, List.map_nil, St.set_next, St.set_same, St.up_next, Int.natCast_nonneg, lt_len, le_len, Int.toNat_natCast, true_and, and_true, eq_self, reduceCtorEq, decide_true, List.length_singleton, er_int, er_bool, er_str, sps_len, e2]
  refine (wput_ok (l := []) (w := 2) (by simp) rfl (fun _ => by omega)).mono ?_
  rintro v σ1 ⟨h, o1, rfl⟩
  rw [List.nil_append, ← hnil]
  have q0 := Tq.one o1
  clear o1
  try simp only [↓reduceIte, namesOf, List.any, I.names, aops, aopsI, aopsT, qstep, CPt, qget, Tbl.get, astep, ev, setd, List.set, List.getD, List.getElem?_cons_zero, List.getElem?_cons_succ, List.getElem?_nil, List.cons_append, List.nil_append, List.length_cons, List.length_nil, List.replicate, then_normal, inBlock_normal, Option.getD_some, Option.getD_none, Bool.or_false, Bool.or_true, Bool.true_or, Bool.false_or, Bool.false_eq_true, if_false, if_true, up_zero, Nat.reduceAdd, Nat.reduceSub, binv, ↓opt_def, AV.isAny, AV.cells, ldc, List.map_cons, List.map_nil, St.set_next, St.set_same, St.up_next, Int.natCast_nonneg, lt_len, le_len, Int.toNat_natCast, true_and, and_true, eq_self, reduceCtorEq, decide_true, List.length_singleton, er_int, er_bool, er_str, up_zero]
  refine h1 _ _ ?_
  try clear h1 K_h1
  refine T.seq_k (fun K_h1 h1 => ?_)
  refine T.seq_k (fun K_h0 h0 => ?_)
  refine T.regi hm ?_
  simp only [↓reduceIte, namesOf, List.any, I.names, aops, aopsI, aopsT, qstep, CPt, qget, Tbl.get, astep, ev, setd, List.set, List.getD, List.getElem?_cons_zero, List.getElem?_cons_succ, List.getElem?_nil, List.cons_append, List.nil_append, List.length_cons, List.length_nil, List.replicate, then_normal, inBlock_normal, Option.getD_some, Option.getD_none, Bool.or_false, Bool.or_true, Bool.true_or, Bool.false_or, Bool.false_eq_true, if_false, if_true, up_zero, Nat.reduceAdd, Nat.reduceSub, binv, ↓opt_def, AV.isAny, AV.cells, ldc, List.map_cons, List.map_nil, St.set_next, St.set_same, St.up_next, Int.natCast_nonneg, lt_len, le_len, Int.toNat_natCast, true_and, and_true, eq_self, reduceCtorEq, decide_true, List.length_singleton, er_int, er_bool, er_str, eqIv, bne_self_eq_false]
  refine h0 _ _ ?_
  try clear h0 K_h0
  refine T.cond rfl (fun h => by cases h) (fun _ => T.skip ?_)
  refine h1 _ _ ?_
  try clear h1 K_h1
  refine T.seq_k (fun K_h1 h1 => ?_)
  refine T.seq_k (fun K_h0 h0 => ?_)
  refine T.regi hm ?_
  simp only [↓reduceIte, namesOf, List.any, I.names, aops, aopsI, aopsT, qstep, CPt, qget, Tbl.get, astep, ev, setd, List.set, List.getD, List.getElem?_cons_zero, List.getElem?_cons_succ, List.getElem?_nil, List.cons_append, List.nil_append, List.length_cons, List.length_nil, List.replicate, then_normal, inBlock_normal, Option.getD_some, Option.getD_none, Bool.or_false, Bool.or_true, Bool.true_or, Bool.false_or, Bool.false_eq_true, if_false, if_true, up_zero, Nat.reduceAdd, Nat.reduceSub, binv, ↓opt_def, AV.isAny, AV.cells, ldc, List.map_cons, List.map_nil, St.set_next, St.set_same, St.up_next, Int.natCast_nonneg, lt_len, le_len, Int.toNat_natCast, true_and, and_true, eq_self, reduceCtorEq, decide_true, List.length_singleton, er_int, er_bool, er_str, sps_len]
  refine h0 _ _ ?_
  try clear h0 K_h0
  refine T.block ?_
  refine T.gh (Gh.keep [2, 3, 4, 24, 25, 26]) ?_
  refine T.loopi (fun i ρ t => (∃ g1, Tq σ t g1 1 ∧ (l.take i).all mayS = true ∧ ρ = [.any, .any, .sl [] .nil, .nili, .sl (bytesAV (beB 2 l.length ++ (l.take i).flatMap spanB)) (.tip g1)] ++ List.replicate 19 .any ++ [.sl (spsAV l) g, .int .i64 (l.length : Int), .int .i64 (i : Int)] ++ List.replicate 20 .any))
    l.length 0 (Nat.zero_le _) ⟨h, q0, rfl, by rw [List.take_zero, List.flatMap_nil, List.append_nil]; rfl⟩ ?_
  clear q0 h
  rintro i ρ t hi ⟨h, q0, hall, rfl⟩
  refine T.seq_k (fun K_h0 h0 => ?_)
  refine T.regi hm ?_
  simp only [↓reduceIte, namesOf, List.any, I.names, aops, aopsI, aopsT, qstep, CPt, qget, Tbl.get, astep, ev, setd, List.set, List.getD, List.getElem?_cons_zero, List.getElem?_cons_succ, List.getElem?_nil, List.cons_append, List.nil_append, List.length_cons, List.length_nil, List.replicate, then_normal, inBlock_normal, Option.getD_some, Option.getD_none, Bool.or_false, Bool.or_true, Bool.true_or, Bool.false_or, Bool.false_eq_true, if_false, if_true, up_zero, Nat.reduceAdd, Nat.reduceSub, binv, ↓opt_def, AV.isAny, AV.cells, ldc, List.map_cons, List.map_nil, St.set_next, St.set_same, St.up_next, Int.natCast_nonneg, lt_len, le_len, Int.toNat_natCast, true_and, and_true, eq_self, reduceCtorEq, decide_true, List.length_singleton, er_int, er_bool, er_str]
  refine h0 _ _ ?_
  try clear h0 K_h0
  refine T.seq_k (fun K_h2 h2 => ?_)
  by_cases hil : i < l.length
  case neg =>
    refine T.cond (b := false) (by simp [ev]; omega) (fun h => by cases h) (fun _ => T.exit ?_)
    have : i = l.length := by omega
    subst this
    rw [List.take_length] at hall ⊢
    try simp only [↓reduceIte, namesOf, List.any, I.names, aops, aopsI, aopsT, qstep, CPt, qget, Tbl.get, astep, ev, setd, List.set, List.getD, List.getElem?_cons_zero, List.getElem?_cons_succ, List.getElem?_nil, List.cons_append, List.nil_append, List.length_cons, List.length_nil, List.replicate, then_normal, inBlock_normal, Option.getD_some, Option.getD_none, Bool.or_false, Bool.or_true, Bool.true_or, Bool.false_or, Bool.false_eq_true, if_false, if_true, up_zero, Nat.reduceAdd, Nat.reduceSub, binv, ↓opt_def, AV.isAny, AV.cells, ldc, List.map_cons, List.map_nil, St.set_next, St.set_same, St.up_next, Int.natCast_nonneg, lt_len, le_len, Int.toNat_natCast, true_and, and_true, eq_self, reduceCtorEq, decide_true, List.length_singleton, er_int, er_bool, er_str, inBlock_exit, then_exit]
    refine h1 _ _ ?_
    try clear h1 K_h1
    refine T.seq_k (fun K_h0 h0 => ?_)
    refine T.regi hm ?_
    simp only [↓reduceIte, namesOf, List.any, I.names, aops, aopsI, aopsT, qstep, CPt, qget, Tbl.get, astep, ev, setd, List.set, List.getD, List.getElem?_cons_zero, List.getElem?_cons_succ, List.getElem?_nil, List.cons_append, List.nil_append, List.length_cons, List.length_nil, List.replicate, then_normal, inBlock_normal, Option.getD_some, Option.getD_none, Bool.or_false, Bool.or_true, Bool.true_or, Bool.false_or, Bool.false_eq_true, if_false, if_true, up_zero, Nat.reduceAdd, Nat.reduceSub, binv, ↓opt_def, AV.isAny, AV.cells, ldc, List.map_cons, List.map_nil, St.set_next, St.set_same, St.up_next, Int.natCast_nonneg, lt_len, le_len, Int.toNat_natCast, true_and, and_true, eq_self, reduceCtorEq, decide_true, List.length_singleton, er_int, er_bool, er_str]
    refine h0 _ _ ?_
    try clear h0 K_h0
    exact T.ret (Fin.quietw rfl (Wk.tup2 (Wk.sl _ _)) ⟨⟨nb_bytes _ _, trivial⟩, trivial, trivial⟩ (q0.quiet wf) ⟨by rw [if_pos hall]; rfl, rfl⟩)
  refine T.cond (b := true) (by simp [ev]; omega) (fun _ => T.skip ?_) (fun h => by cases h)
  refine h2 _ _ ?_
  try clear h2 K_h2
  have hiw := inc64' hil (by omega)
  have hilI : (i : Int) < (l.length : Int) := by omega
  have hg := sps_get hil
  have hds := hd _ (List.getElem_mem hil)
  have hfs := flat_snoc spanB hil
  have hta : (l.take (i + 1)).all mayS = ((l.take i).all mayS && mayS l[i]) := by rw [List.take_succ_eq_append_getElem hil, List.all_append]; simp
  have hlm : l.all mayS = true → mayS l[i] = true := fun h => List.all_eq_true.1 h _ (List.getElem_mem hil)
  have hpl : ((l.take i).flatMap spanB).length ≤ 65535 * 234 := by
    refine Nat.le_trans (spans_le (fun s hs => mayS_len (List.all_eq_true.1 hall s hs))) (Nat.mul_le_mul_right _ ?_)
    rw [List.length_take]; omega
  generalize l[i] = s at hg hds hfs hta hlm
  rw [spav] at hg
  refine T.seq_k (fun K_h2 h2 => ?_)
  refine T.block ?_
  refine T.seq_k (fun K_h3 h3 => ?_)
  refine T.regi hm ?_
  simp only [↓reduceIte, namesOf, List.any, I.names, aops, aopsI, aopsT, qstep, CPt, qget, Tbl.get, astep, ev, setd, List.set, List.getD, List.getElem?_cons_zero, List.getElem?_cons_succ, List.getElem?_nil, List.cons_append, List.nil_append, List.length_cons, List.length_nil, List.replicate, then_normal, inBlock_normal, Option.getD_some, Option.getD_none, Bool.or_false, Bool.or_true, Bool.true_or, Bool.false_or, Bool.false_eq_true, if_false, if_true, up_zero, Nat.reduceAdd, Nat.reduceSub, binv, ↓opt_def, AV.isAny, AV.cells, ldc, List.map_cons, List.map_nil, St.set_next, St.set_same, St.up_next, Int.natCast_nonneg, lt_len, le_len, Int.toNat_natCast, true_and, and_true, eq_self, reduceCtorEq, decide_true, List.length_singleton, er_int, er_bool, er_str, sps_len, hg, hilI, AV.fits, AV.one, List.all_cons, List.all_nil, Nat.reduceBEq, Bool.and_true, Bool.not_false, Bool.and_self, Nat.zero_add, splice, List.take, List.drop, Nat.reduceLeDiff, St.set_set]
  have q1 := q0.box (n := 4) (i := 2) (by omega) (.obj [.int .u64 (s.tr : Int), .int .u64 (s.id : Int), .int .i64 s.st, .int .i64 s.en, .sl (bytesAV s.da) .none])
  have hb : ((t.up 4).set (t.next + 2) (.obj [.int .u64 (s.tr : Int), .int .u64 (s.id : Int), .int .i64 s.st, .int .i64 s.en, .sl (bytesAV s.da) .none])).res (t.next + 2) = some (.obj [.int .u64 (s.tr : Int), .int .u64 (s.id : Int), .int .i64 s.st, .int .i64 s.en, .sl (bytesAV s.da) .none]) := by simp
  generalize ((t.up 4).set (t.next + 2) (.obj [.int .u64 (s.tr : Int), .int .u64 (s.id : Int), .int .i64 s.st, .int .i64 s.en, .sl (bytesAV s.da) .none])) = τ at q1 hb ⊢
  generalize t.next + 2 = a at hb ⊢
  clear q0
  refine h3 _ _ ?_
  try clear h3 K_h3
  refine T.seq_k (fun K_h3 h3 => ?_)
  refine T.seq_k (fun K_h4 h4 => ?_)
  refine T.regi hm ?_
  simp only [↓reduceIte, namesOf, List.any, I.names, aops, aopsI, aopsT, qstep, CPt, qget, Tbl.get, astep, ev, setd, List.set, List.getD, List.getElem?_cons_zero, List.getElem?_cons_succ, List.getElem?_nil, List.cons_append, List.nil_append, List.length_cons, List.length_nil, List.replicate, then_normal, inBlock_normal, Option.getD_some, Option.getD_none, Bool.or_false, Bool.or_true, Bool.true_or, Bool.false_or, Bool.false_eq_true, if_false, if_true, up_zero, Nat.reduceAdd, Nat.reduceSub, binv, ↓opt_def, AV.isAny, AV.cells, ldc, List.map_cons, List.map_nil, St.set_next, St.set_same, St.up_next, Int.natCast_nonneg, lt_len, le_len, Int.toNat_natCast, true_and, and_true, eq_self, reduceCtorEq, decide_true, List.length_singleton, er_int, er_bool, er_str, hb, AV.fits, AV.one, List.all_cons, List.all_nil, Nat.reduceBEq, Bool.and_true, Bool.not_false, Bool.and_self, Nat.zero_add, splice, List.take, List.drop, Nat.reduceLeDiff]
  refine (may_ok).mono ?_
  rintro v τ2 ⟨rfl, rfl⟩
  have hms : mayI s.st s.en (((bytesAV s.da).length : Nat) : Int) = mayS s := by rw [bytesAV_len]; rfl
  rw [hms]
  cases hmay : mayS s with
  | false =>
    try simp only [↓reduceIte, namesOf, List.any, I.names, aops, aopsI, aopsT, qstep, CPt, qget, Tbl.get, astep, ev, setd, List.set, List.getD, List.getElem?_cons_zero, List.getElem?_cons_succ, List.getElem?_nil, List.cons_append, List.nil_append, List.length_cons, List.length_nil, List.replicate, then_normal, inBlock_normal, Option.getD_some, Option.getD_none, Bool.or_false, Bool.or_true, Bool.true_or, Bool.false_or, Bool.false_eq_true, if_false, if_true, up_zero, Nat.reduceAdd, Nat.reduceSub, binv, ↓opt_def, AV.isAny, AV.cells, ldc, List.map_cons, List.map_nil, St.set_next, St.set_same, St.up_next, Int.natCast_nonneg, lt_len, le_len, Int.toNat_natCast, true_and, and_true, eq_self, reduceCtorEq, decide_true, List.length_singleton, er_int, er_bool, er_str, up_zero, Bool.not_false]
    refine h4 _ _ ?_
    try clear h4 K_h4
    refine T.cond rfl (fun _ => ?_) (fun h => by cases h)
    refine T.seq_k (fun K_h0 h0 => ?_)
    refine T.regi hm ?_
    simp only [↓reduceIte, namesOf, List.any, I.names, aops, aopsI, aopsT, qstep, CPt, qget, Tbl.get, astep, ev, setd, List.set, List.getD, List.getElem?_cons_zero, List.getElem?_cons_succ, List.getElem?_nil, List.cons_append, List.nil_append, List.length_cons, List.length_nil, List.replicate, then_normal, inBlock_normal, Option.getD_some, Option.getD_none, Bool.or_false, Bool.or_true, Bool.true_or, Bool.false_or, Bool.false_eq_true, if_false, if_true, up_zero, Nat.reduceAdd, Nat.reduceSub, binv, ↓opt_def, AV.isAny, AV.cells, ldc, List.map_cons, List.map_nil, St.set_next, St.set_same, St.up_next, Int.natCast_nonneg, lt_len, le_len, Int.toNat_natCast, true_and, and_true, eq_self, reduceCtorEq, decide_true, List.length_singleton, er_int, er_bool, er_str]
    refine h0 _ _ ?_
    try clear h0 K_h0
    have : ¬ l.all mayS = true := fun h => by rw [hlm h] at hmay; cases hmay
    exact T.ret (Fin.quietw rfl (Wk.tup2 (Wk.sl _ _)) ⟨⟨trivial, trivial⟩, trivial, trivial⟩ (q1.quiet wf) ⟨by rw [if_neg this]; rfl, rfl⟩)
  | true =>
    try simp only [↓reduceIte, namesOf, List.any, I.names, aops, aopsI, aopsT, qstep, CPt, qget, Tbl.get, astep, ev, setd, List.set, List.getD, List.getElem?_cons_zero, List.getElem?_cons_succ, List.getElem?_nil, List.cons_append, List.nil_append, List.length_cons, List.length_nil, List.replicate, then_normal, inBlock_normal, Option.getD_some, Option.getD_none, Bool.or_false, Bool.or_true, Bool.true_or, Bool.false_or, Bool.false_eq_true, if_false, if_true, up_zero, Nat.reduceAdd, Nat.reduceSub, binv, ↓opt_def, AV.isAny, AV.cells, ldc, List.map_cons, List.map_nil, St.set_next, St.set_same, St.up_next, Int.natCast_nonneg, lt_len, le_len, Int.toNat_natCast, true_and, and_true, eq_self, reduceCtorEq, decide_true, List.length_singleton, er_int, er_bool, er_str, up_zero, Bool.not_true]
    refine h4 _ _ ?_
    try clear h4 K_h4
    refine T.cond rfl (fun h => by cases h) (fun _ => T.skip ?_)
    refine h3 _ _ ?_
    try clear h3 K_h3
    refine T.seq_k (fun K_h3 h3 => ?_)
    refine T.regi hm ?_
    simp only [↓reduceIte, namesOf, List.any, I.names, aops, aopsI, aopsT, qstep, CPt, qget, Tbl.get, astep, ev, setd, List.set, List.getD, List.getElem?_cons_zero, List.getElem?_cons_succ, List.getElem?_nil, List.cons_append, List.nil_append, List.length_cons, List.length_nil, List.replicate, then_normal, inBlock_normal, Option.getD_some, Option.getD_none, Bool.or_false, Bool.or_true, Bool.true_or, Bool.false_or, Bool.false_eq_true, if_false, if_true, up_zero, Nat.reduceAdd, Nat.reduceSub, binv, ↓opt_def, AV.isAny, AV.cells, ldc, List.map_cons, List.map_nil, St.set_next, St.set_same, St.up_next, Int.natCast_nonneg, lt_len, le_len, Int.toNat_natCast, true_and, and_true, eq_self, reduceCtorEq, decide_true, List.length_singleton, er_int, er_bool, er_str, hb, AV.fits, AV.one, List.all_cons, List.all_nil, Nat.reduceBEq, Bool.and_true, Bool.not_false, Bool.and_self, Nat.zero_add, splice, List.take, List.drop, Nat.reduceLeDiff]
    refine (sput1_ok hmay).mono ?_
    rintro v τ3 ⟨rfl, rfl⟩
    try simp only [↓reduceIte, namesOf, List.any, I.names, aops, aopsI, aopsT, qstep, CPt, qget, Tbl.get, astep, ev, setd, List.set, List.getD, List.getElem?_cons_zero, List.getElem?_cons_succ, List.getElem?_nil, List.cons_append, List.nil_append, List.length_cons, List.length_nil, List.replicate, then_normal, inBlock_normal, Option.getD_some, Option.getD_none, Bool.or_false, Bool.or_true, Bool.true_or, Bool.false_or, Bool.false_eq_true, if_false, if_true, up_zero, Nat.reduceAdd, Nat.reduceSub, binv, ↓opt_def, AV.isAny, AV.cells, ldc, List.map_cons, List.map_nil, St.set_next, St.set_same, St.up_next, Int.natCast_nonneg, lt_len, le_len, Int.toNat_natCast, true_and, and_true, eq_self, reduceCtorEq, decide_true, List.length_singleton, er_int, er_bool, er_str, up_zero]
    refine h3 _ _ ?_
    try clear h3 K_h3
    refine T.seq_k (fun K_h3 h3 => ?_)
    refine T.seq_k (fun K_h0 h0 => ?_)
    refine T.regi hm ?_
    simp only [↓reduceIte, namesOf, List.any, I.names, aops, aopsI, aopsT, qstep, CPt, qget, Tbl.get, astep, ev, setd, List.set, List.getD, List.getElem?_cons_zero, List.getElem?_cons_succ, List.getElem?_nil, List.cons_append, List.nil_append, List.length_cons, List.length_nil, List.replicate, then_normal, inBlock_normal, Option.getD_some, Option.getD_none, Bool.or_false, Bool.or_true, Bool.true_or, Bool.false_or, Bool.false_eq_true, if_false, if_true, up_zero, Nat.reduceAdd, Nat.reduceSub, binv, ↓opt_def, AV.isAny, AV.cells, ldc, List.map_cons, List.map_nil, St.set_next, St.set_same, St.up_next, Int.natCast_nonneg, lt_len, le_len, Int.toNat_natCast, true_and, and_true, eq_self, reduceCtorEq, decide_true, List.length_singleton, er_int, er_bool, er_str, eqIv, bne_self_eq_false]
    refine h0 _ _ ?_
    try clear h0 K_h0
    refine T.cond rfl (fun h => by cases h) (fun _ => T.skip ?_)
    refine h3 _ _ ?_
    try clear h3 K_h3
    have hat := q1.ats
    have hsl := mayS_len hmay
    have hle : decide ((2 + ((l.take i).flatMap spanB).length + (s.da.length + 34)) * 1 ≤ 70368744177664 ∧ 2 + ((l.take i).flatMap spanB).length + (s.da.length + 34) ≤ 4611686018427387904) = true := app_le (by omega)
    refine T.regi hm ?_
    simp only [↓reduceIte, namesOf, List.any, I.names, aops, aopsI, aopsT, qstep, CPt, qget, Tbl.get, astep, ev, setd, List.set, List.getD, List.getElem?_cons_zero, List.getElem?_cons_succ, List.getElem?_nil, List.cons_append, List.nil_append, List.length_cons, List.length_nil, List.replicate, then_normal, inBlock_normal, Option.getD_some, Option.getD_none, Bool.or_false, Bool.or_true, Bool.true_or, Bool.false_or, Bool.false_eq_true, if_false, if_true, up_zero, Nat.reduceAdd, Nat.reduceSub, binv, ↓opt_def, AV.isAny, AV.cells, ldc, List.map_cons, List.map_nil, St.set_next, St.set_same, St.up_next, Int.natCast_nonneg, lt_len, le_len, Int.toNat_natCast, true_and, and_true, eq_self, reduceCtorEq, decide_true, List.length_singleton, er_int, er_bool, er_str, held, srcOf, bytesAV_er, bytesAV_app, bytes_all, bytesAV_len, List.length_append, Bool.and_self, St.up_res, List.isEmpty, hat, beB_len, spanB_len, hle]
    refine h2 _ _ ?_
    try clear h2 K_h2
    refine T.regi hm ?_
    simp only [↓reduceIte, namesOf, List.any, I.names, aops, aopsI, aopsT, qstep, CPt, qget, Tbl.get, astep, ev, setd, List.set, List.getD, List.getElem?_cons_zero, List.getElem?_cons_succ, List.getElem?_nil, List.cons_append, List.nil_append, List.length_cons, List.length_nil, List.replicate, then_normal, inBlock_normal, Option.getD_some, Option.getD_none, Bool.or_false, Bool.or_true, Bool.true_or, Bool.false_or, Bool.false_eq_true, if_false, if_true, up_zero, Nat.reduceAdd, Nat.reduceSub, binv, ↓opt_def, AV.isAny, AV.cells, ldc, List.map_cons, List.map_nil, St.set_next, St.set_same, St.up_next, Int.natCast_nonneg, lt_len, le_len, Int.toNat_natCast, true_and, and_true, eq_self, reduceCtorEq, decide_true, List.length_singleton, er_int, er_bool, er_str, hiw]
    refine ⟨hil, _, _, Gh.keep [2, 3, 4, 24, 25, 26], _, q1.app (n := 4) (i := 2) (by omega), by rw [hta, hall, hmay]; rfl, ?_⟩
    rw [hfs, ← List.append_assoc]; rfl

end Go.VL

namespace Go.VL

open Go.Proofs

def trB (t : Tc) : List UInt8 := beB 8 t.id ++ (beB 4 (spansB t.sp).length ++ spansB t.sp)

theorem spansB_len (l : List Sp) : (spansB l).length = 2 + (l.flatMap spanB).length := by simp [spansB, beB_len]

theorem trB_len (t : Tc) : (trB t).length = 12 + (spansB t.sp).length := by simp [trB, beB_len]; omega

def pageB (l : List Tc) : List UInt8 := sealB (beB 2 l.length ++ l.flatMap trB)

theorem pput1_ok {t : Tc} {σ : St} (hl : t.sp.length ≤ 1000) (hm : t.sp.all mayS = true) :
    ACalls Try.prog n_pput1 [.agg [.int .u64 (t.id : Int), .sl (spsAV t.sp) .none]] σ (fun v σ' => v = .tup [.sl (bytesAV (trB t)) .none, .nili] ∧ σ' = σ) := by
  refine s_pput1 (fun wf => ?_)
  unfold c_pput1
  have hall := hm
  have hm := VL.hm
  have hmem : ∀ s ∈ t.sp, s.da.length ≤ 200 := fun s hs => mayS_len (List.all_eq_true.1 hall s hs)
  have hfl : (t.sp.flatMap spanB).length ≤ 1000 * 234 := Nat.le_trans (spans_le hmem) (Nat.mul_le_mul_right _ hl)
  have hsl := spansB_len t.sp
  refine T.seq_k (fun K_h1 h1 => ?_)
  refine T.regi hm ?_
  simp only [↓reduceIte, namesOf, List.any, I.names, aops, aopsI, aopsT, qstep, CPt, qget, Tbl.get, astep, ev, setd, List.set, List.getD, List.getElem?_cons_zero, List.getElem?_cons_succ, List.getElem?_nil, List.cons_append, List.nil_append, List.length_cons, List.length_nil, List.replicate, then_normal, inBlock_normal, Option.getD_some, Option.getD_none, Bool.or_false, Bool.or_true, Bool.true_or, Bool.false_or, Bool.false_eq_true, if_false, if_true, up_zero, Nat.reduceAdd, Nat.reduceSub, binv, ↓opt_def, AV.isAny, AV.cells, ldc, List.map_cons, List.map_nil, St.set_next, St.set_same, St.up_next, Int.natCast_nonneg, lt_len, le_len, Int.toNat_natCast, true_and, and_true, eq_self, reduceCtorEq, decide_true, List.length_singleton, er_int, er_bool, er_str]
  have k0 : Like σ ((σ.up 3).set (σ.next + 0) (.obj [.int .u64 (t.id : Int), .sl (spsAV t.sp) .none])) := (Like.refl σ).box _
  have hb : ((σ.up 3).set (σ.next + 0) (.obj [.int .u64 (t.id : Int), .sl (spsAV t.sp) .none])).res (σ.next + 0) = some (.obj [.int .u64 (t.id : Int), .sl (spsAV t.sp) .none]) := by simp
  have ha : σ.next + 0 < ((σ.up 3).set (σ.next + 0) (.obj [.int .u64 (t.id : Int), .sl (spsAV t.sp) .none])).next := by simp
  generalize ((σ.up 3).set (σ.next + 0) (.obj [.int .u64 (t.id : Int), .sl (spsAV t.sp) .none])) = τ at k0 hb ha ⊢
  generalize σ.next + 0 = a at hb ha ⊢
  refine h1 _ _ ?_
  try clear h1 K_h1
  refine T.seq_k (fun K_h1 h1 => ?_)
  refine T.regi hm ?_
  simp only [↓reduceIte, namesOf, List.any, I.names, aops, aopsI, aopsT, qstep, CPt, qget, Tbl.get, astep, ev, setd, List.set, List.getD, List.getElem?_cons_zero, List.getElem?_cons_succ, List.getElem?_nil, List.cons_append, List.nil_append, List.length_cons, List.length_nil, List.replicate, then_normal, inBlock_normal, Option.getD_some, Option.getD_none, Bool.or_false, Bool.or_true, Bool.true_or, Bool.false_or, Bool.false_eq_true, if_false, if_true, up_zero, Nat.reduceAdd, Nat.reduceSub, binv, ↓opt_def, AV.isAny, AV.cells, ldc, List.map_cons, List.map_nil, St.set_next, St.set_same, St.up_next, Int.natCast_nonneg, lt_len, le_len, Int.toNat_natCast, true_and, and_true, eq_self, reduceCtorEq, decide_true, List.length_singleton, er_int, er_bool, er_str, hb]
  refine (spput_ok (by omega) (fun s hs => by have := hmem s hs; omega)).mono ?_
  rintro v τ1 ⟨rfl, rfl⟩
  rw [if_pos hall]
  try simp only [↓reduceIte, namesOf, List.any, I.names, aops, aopsI, aopsT, qstep, CPt, qget, Tbl.get, astep, ev, setd, List.set, List.getD, List.getElem?_cons_zero, List.getElem?_cons_succ, List.getElem?_nil, List.cons_append, List.nil_append, List.length_cons, List.length_nil, List.replicate, then_normal, inBlock_normal, Option.getD_some, Option.getD_none, Bool.or_false, Bool.or_true, Bool.true_or, Bool.false_or, Bool.false_eq_true, if_false, if_true, up_zero, Nat.reduceAdd, Nat.reduceSub, binv, ↓opt_def, AV.isAny, AV.cells, ldc, List.map_cons, List.map_nil, St.set_next, St.set_same, St.up_next, Int.natCast_nonneg, lt_len, le_len, Int.toNat_natCast, true_and, and_true, eq_self, reduceCtorEq, decide_true, List.length_singleton, er_int, er_bool, er_str, up_zero]
  refine h1 _ _ ?_
  try clear h1 K_h1
  refine T.seq_k (fun K_h1 h1 => ?_)
  refine T.seq_k (fun K_h0 h0 => ?_)
  refine T.regi hm ?_
  simp only [↓reduceIte, namesOf, List.any, I.names, aops, aopsI, aopsT, qstep, CPt, qget, Tbl.get, astep, ev, setd, List.set, List.getD, List.getElem?_cons_zero, List.getElem?_cons_succ, List.getElem?_nil, List.cons_append, List.nil_append, List.length_cons, List.length_nil, List.replicate, then_normal, inBlock_normal, Option.getD_some, Option.getD_none, Bool.or_false, Bool.or_true, Bool.true_or, Bool.false_or, Bool.false_eq_true, if_false, if_true, up_zero, Nat.reduceAdd, Nat.reduceSub, binv, ↓opt_def, AV.isAny, AV.cells, ldc, List.map_cons, List.map_nil, St.set_next, St.set_same, St.up_next, Int.natCast_nonneg, lt_len, le_len, Int.toNat_natCast, true_and, and_true, eq_self, reduceCtorEq, decide_true, List.length_singleton, er_int, er_bool, er_str, eqIv, bne_self_eq_false]
  refine h0 _ _ ?_
  try clear h0 K_h0
  refine T.cond rfl (fun h => by cases h) (fun _ => T.skip ?_)
  refine h1 _ _ ?_
  try clear h1 K_h1
  have hnil : AV.sl [] .nil = .sl (bytesAV []) .nil := rfl
  refine T.seq_k (fun K_h1 h1 => ?_)
  rw [hnil]
  refine T.regi hm ?_
  simp only [↓reduceIte, namesOf, List.any, I.names, aops, aopsI, aopsT, qstep, CPt, qget, Tbl.get, astep, ev, setd, List.set, List.getD, List.getElem?_cons_zero, List.getElem?_cons_succ, List.getElem?_nil, List.cons_append, List.nil_append, List.length_cons, List.length_nil, List.replicate, then_normal, inBlock_normal, Option.getD_some, Option.getD_none, Bool.or_false, Bool.or_true, Bool.true_or, Bool.false_or, Bool.false_eq_true, if_false, if_true, up_zero, Nat.reduceAdd, Nat.reduceSub, binv, ↓opt_def, AV.isAny, AV.cells, ldc, List.map_cons, List.map_nil, St.set_next, St.set_same, St.up_next, Int.natCast_nonneg, lt_len, le_len, Int.toNat_natCast, true_and, and_true, eq_self, reduceCtorEq, decide_true, List.length_singleton, er_int, er_bool, er_str, hb]
  refine (wput_q (l := []) (w := 8) (by simp) rfl (fun h => by omega)).mono ?_
  rintro v τ2 ⟨rfl, rfl⟩
  rw [List.nil_append, ← hnil]
  try simp only [↓reduceIte, namesOf, List.any, I.names, aops, aopsI, aopsT, qstep, CPt, qget, Tbl.get, astep, ev, setd, List.set, List.getD, List.getElem?_cons_zero, List.getElem?_cons_succ, List.getElem?_nil, List.cons_append, List.nil_append, List.length_cons, List.length_nil, List.replicate, then_normal, inBlock_normal, Option.getD_some, Option.getD_none, Bool.or_false, Bool.or_true, Bool.true_or, Bool.false_or, Bool.false_eq_true, if_false, if_true, up_zero, Nat.reduceAdd, Nat.reduceSub, binv, ↓opt_def, AV.isAny, AV.cells, ldc, List.map_cons, List.map_nil, St.set_next, St.set_same, St.up_next, Int.natCast_nonneg, lt_len, le_len, Int.toNat_natCast, true_and, and_true, eq_self, reduceCtorEq, decide_true, List.length_singleton, er_int, er_bool, er_str, up_zero]
  refine h1 _ _ ?_
  try clear h1 K_h1
  refine T.seq_k (fun K_h1 h1 => ?_)
  refine T.seq_k (fun K_h0 h0 => ?_)
  refine T.regi hm ?_
  simp only [↓reduceIte, namesOf, List.any, I.names, aops, aopsI, aopsT, qstep, CPt, qget, Tbl.get, astep, ev, setd, List.set, List.getD, List.getElem?_cons_zero, List.getElem?_cons_succ, List.getElem?_nil, List.cons_append, List.nil_append, List.length_cons, List.length_nil, List.replicate, then_normal, inBlock_normal, Option.getD_some, Option.getD_none, Bool.or_false, Bool.or_true, Bool.true_or, Bool.false_or, Bool.false_eq_true, if_false, if_true, up_zero, Nat.reduceAdd, Nat.reduceSub, binv, ↓opt_def, AV.isAny, AV.cells, ldc, List.map_cons, List.map_nil, St.set_next, St.set_same, St.up_next, Int.natCast_nonneg, lt_len, le_len, Int.toNat_natCast, true_and, and_true, eq_self, reduceCtorEq, decide_true, List.length_singleton, er_int, er_bool, er_str, eqIv, bne_self_eq_false]
  refine h0 _ _ ?_
  try clear h0 K_h0
  refine T.cond rfl (fun h => by cases h) (fun _ => T.skip ?_)
  refine h1 _ _ ?_
  try clear h1 K_h1
  have e2 := u64w (n := (spansB t.sp).length) (by omega)
  refine T.seq_k (fun K_h1 h1 => ?_)
  refine T.regi hm ?_
  simp only [↓reduceIte, namesOf, List.any, I.names, aops, aopsI, aopsT, qstep, CPt, qget, Tbl.get, astep, ev, setd, List.set, List.getD, List.getElem?_cons_zero, List.getElem?_cons_succ, List.getElem?_nil, List.cons_append, List.nil_append, List.length_cons, List.length_nil, List.replicate, then_normal, inBlock_normal, Option.getD_some, Option.getD_none, Bool.or_false, Bool.or_true, Bool.true_or, Bool.false_or, Bool.false_eq_true, if_false, if_true, up_zero, Nat.reduceAdd, Nat.reduceSub, binv, ↓opt_def, AV.isAny, AV.cells, ldc, List.map_cons, List.map_nil, St.set_next, St.set_same, St.up_next, Int.natCast_nonneg, lt_len, le_len, Int.toNat_natCast, true_and, and_true, eq_self, reduceCtorEq, decide_true, List.length_singleton, er_int, er_bool, er_str, bytesAV_len, e2]
  refine (wput_ok (w := 4) (by rw [beB_len]; omega) rfl (fun _ => by omega)).mono ?_
  rintro v τ3 ⟨h, o1, rfl⟩
  have q := Tq.trans k0 (Tq.one o1)
  try simp only [↓reduceIte, namesOf, List.any, I.names, aops, aopsI, aopsT, qstep, CPt, qget, Tbl.get, astep, ev, setd, List.set, List.getD, List.getElem?_cons_zero, List.getElem?_cons_succ, List.getElem?_nil, List.cons_append, List.nil_append, List.length_cons, List.length_nil, List.replicate, then_normal, inBlock_normal, Option.getD_some, Option.getD_none, Bool.or_false, Bool.or_true, Bool.true_or, Bool.false_or, Bool.false_eq_true, if_false, if_true, up_zero, Nat.reduceAdd, Nat.reduceSub, binv, ↓opt_def, AV.isAny, AV.cells, ldc, List.map_cons, List.map_nil, St.set_next, St.set_same, St.up_next, Int.natCast_nonneg, lt_len, le_len, Int.toNat_natCast, true_and, and_true, eq_self, reduceCtorEq, decide_true, List.length_singleton, er_int, er_bool, er_str, up_zero]
  refine h1 _ _ ?_
  try clear h1 K_h1
  have hat := q.ats
  have hle : decide ((8 + 4 + (spansB t.sp).length) * 1 ≤ 70368744177664 ∧ 8 + 4 + (spansB t.sp).length ≤ 4611686018427387904) = true := app_le (by omega)
  have hle2 : decide ((12 + (spansB t.sp).length) * 1 ≤ 70368744177664 ∧ 12 + (spansB t.sp).length ≤ 4611686018427387904) = true := app_le (by omega)
  refine T.seq_k (fun K_h1 h1 => ?_)
  refine T.regi hm ?_
  simp only [↓reduceIte, namesOf, List.any, I.names, aops, aopsI, aopsT, qstep, CPt, qget, Tbl.get, astep, ev, setd, List.set, List.getD, List.getElem?_cons_zero, List.getElem?_cons_succ, List.getElem?_nil, List.cons_append, List.nil_append, List.length_cons, List.length_nil, List.replicate, then_normal, inBlock_normal, Option.getD_some, Option.getD_none, Bool.or_false, Bool.or_true, Bool.true_or, Bool.false_or, Bool.false_eq_true, if_false, if_true, up_zero, Nat.reduceAdd, Nat.reduceSub, binv, ↓opt_def, AV.isAny, AV.cells, ldc, List.map_cons, List.map_nil, St.set_next, St.set_same, St.up_next, Int.natCast_nonneg, lt_len, le_len, Int.toNat_natCast, true_and, and_true, eq_self, reduceCtorEq, decide_true, List.length_singleton, er_int, er_bool, er_str, held, srcOf, bytesAV_er, bytesAV_app, bytes_all, bytesAV_len, List.length_append, Bool.and_self, St.up_res, List.isEmpty, hat, beB_len, hle, hle2]
  refine h1 _ _ ?_
  try clear h1 K_h1
  have q2 := q.app (n := 6) (i := 2) (by omega)
  refine T.ret (Fin.quietw rfl (Wk.tup2 (Wk.sl _ _)) ⟨⟨nb_bytes _ _, trivial⟩, trivial, trivial⟩ (q2.quiet wf) ⟨?_, rfl⟩)
  rw [trB, List.append_assoc]; rfl

/-- what canonical traces are -/
theorem is_each {l : List Tc} (h : isB l = true) {t : Tc} (ht : t ∈ l) : oneB t = true := by
  obtain ⟨i, hi⟩ := List.getElem?_of_mem ht
  have hil := (List.getElem?_eq_some_iff.1 hi).1
  have := List.all_eq_true.1 h i (by simpa using hil)
  unfold isAt at this
  rw [hi] at this
  simp only [Bool.and_eq_true] at this
  exact this.1

theorem one_facts {t : Tc} (h : oneB t = true) : t.sp.all mayS = true ∧ 1 ≤ t.sp.length ∧ t.sp.length ≤ 100 := by
  unfold oneB at h
  simp only [Bool.and_eq_true, decide_eq_true_eq] at h
  refine ⟨?_, h.1.2, h.2⟩
  rw [List.all_eq_true]
  intro s hs
  obtain ⟨i, hi⟩ := List.getElem?_of_mem hs
  have hil := (List.getElem?_eq_some_iff.1 hi).1
  have := List.all_eq_true.1 h.1.1 i (by simpa using hil)
  unfold okAt at this
  rw [hi] at this
  simp only [Bool.and_eq_true] at this
  exact this.1.1.2

theorem trs_le {l : List Tc} (h : ∀ t ∈ l, (trB t).length ≤ 30000) : (l.flatMap trB).length ≤ l.length * 30000 := by
  induction l with
  | nil => simp
  | cons s r ih =>
    rw [List.flatMap_cons, List.length_append, List.length_cons, Nat.add_mul]
    have := h s (by simp)
    have := ih (fun x hx => h x (List.mem_cons_of_mem _ hx))
    omega

theorem trB_le {t : Tc} (h : oneB t = true) : (trB t).length ≤ 30000 := by
  obtain ⟨h1, _, h3⟩ := one_facts h
  rw [trB_len, spansB_len]
  have : (t.sp.flatMap spanB).length ≤ 100 * 234 := Nat.le_trans (spans_le (fun s hs => mayS_len (List.all_eq_true.1 h1 s hs))) (Nat.mul_le_mul_right _ h3)
  omega

/-- what putting tells -/
def pputB (l : List Tc) : Bool := isB l && decide (l.length ≤ 64)

set_option maxRecDepth 10000 in
set_option maxHeartbeats 1000000 in
theorem ppput_ok {l : List Tc} {g : Ver} {σ : St} (hl : l.length ≤ 9223372036854775807) (hs : ∀ t ∈ l, t.sp.length ≤ 9223372036854775807) :
    ACalls Try.prog n_ppput [.sl (tcsAV l) g] σ (fun v σ' => v = (if pputB l then .tup [.sl (bytesAV (pageB l)) .none, .nili] else .tup [.sl [] .none, .iface tCode (.int .i64 1)]) ∧ σ' = σ) := by
  refine s_ppput (fun wf => ?_)
  unfold c_ppput
  refine T.seq_k (fun K_h0 h0 => ?_)
  refine T.regi hm ?_
  simp only [↓reduceIte, namesOf, List.any, I.names, aops, aopsI, aopsT, qstep, CPt, qget, Tbl.get, astep, ev, setd, List.set, List.getD, List.getElem?_cons_zero, List.getElem?_cons_succ, List.getElem?_nil, List.cons_append, List.nil_append, List.length_cons, List.length_nil, List.replicate, then_normal, inBlock_normal, Option.getD_some, Option.getD_none, Bool.or_false, Bool.or_true, Bool.true_or, Bool.false_or, Bool.false_eq_true, if_false, if_true, up_zero, Nat.reduceAdd, Nat.reduceSub, binv, ↓opt_def, AV.isAny, AV.cells, ldc, List.map_cons, List.map_nil, St.set_next, St.set_same, St.up_next, Int.natCast_nonneg, lt_len, le_len, Int.toNat_natCast, true_and, and_true, eq_self, reduceCtorEq, decide_true, List.length_singleton, er_int, er_bool, er_str]
  refine h0 _ _ ?_
  try clear h0 K_h0
  refine T.seq_k (fun K_h1 h1 => ?_)
  refine T.seq_k (fun K_h2 h2 => ?_)
  refine T.regi hm ?_
  simp only [↓reduceIte, namesOf, List.any, I.names, aops, aopsI, aopsT, qstep, CPt, qget, Tbl.get, astep, ev, setd, List.set, List.getD, List.getElem?_cons_zero, List.getElem?_cons_succ, List.getElem?_nil, List.cons_append, List.nil_append, List.length_cons, List.length_nil, List.replicate, then_normal, inBlock_normal, Option.getD_some, Option.getD_none, Bool.or_false, Bool.or_true, Bool.true_or, Bool.false_or, Bool.false_eq_true, if_false, if_true, up_zero, Nat.reduceAdd, Nat.reduceSub, binv, ↓opt_def, AV.isAny, AV.cells, ldc, List.map_cons, List.map_nil, St.set_next, St.set_same, St.up_next, Int.natCast_nonneg, lt_len, le_len, Int.toNat_natCast, true_and, and_true, eq_self, reduceCtorEq, decide_true, List.length_singleton, er_int, er_bool, er_str]
  refine (is_ok hl hs).mono ?_
  rintro v σ1 ⟨rfl, rfl⟩
  cases his : isB l with
  | false =>
    try simp only [↓reduceIte, namesOf, List.any, I.names, aops, aopsI, aopsT, qstep, CPt, qget, Tbl.get, astep, ev, setd, List.set, List.getD, List.getElem?_cons_zero, List.getElem?_cons_succ, List.getElem?_nil, List.cons_append, List.nil_append, List.length_cons, List.length_nil, List.replicate, then_normal, inBlock_normal, Option.getD_some, Option.getD_none, Bool.or_false, Bool.or_true, Bool.true_or, Bool.false_or, Bool.false_eq_true, if_false, if_true, up_zero, Nat.reduceAdd, Nat.reduceSub, binv, ↓opt_def, AV.isAny, AV.cells, ldc, List.map_cons, List.map_nil, St.set_next, St.set_same, St.up_next, Int.natCast_nonneg, lt_len, le_len, Int.toNat_natCast, true_and, and_true, eq_self, reduceCtorEq, decide_true, List.length_singleton, er_int, er_bool, er_str, up_zero, Bool.not_false]
    refine h2 _ _ ?_
    try clear h2 K_h2
    refine T.cond rfl (fun _ => ?_) (fun h => by cases h)
    refine T.seq_k (fun K_h0 h0 => ?_)
    refine T.regi hm ?_
    simp only [↓reduceIte, namesOf, List.any, I.names, aops, aopsI, aopsT, qstep, CPt, qget, Tbl.get, astep, ev, setd, List.set, List.getD, List.getElem?_cons_zero, List.getElem?_cons_succ, List.getElem?_nil, List.cons_append, List.nil_append, List.length_cons, List.length_nil, List.replicate, then_normal, inBlock_normal, Option.getD_some, Option.getD_none, Bool.or_false, Bool.or_true, Bool.true_or, Bool.false_or, Bool.false_eq_true, if_false, if_true, up_zero, Nat.reduceAdd, Nat.reduceSub, binv, ↓opt_def, AV.isAny, AV.cells, ldc, List.map_cons, List.map_nil, St.set_next, St.set_same, St.up_next, Int.natCast_nonneg, lt_len, le_len, Int.toNat_natCast, true_and, and_true, eq_self, reduceCtorEq, decide_true, List.length_singleton, er_int, er_bool, er_str]
    refine h0 _ _ ?_
    try clear h0 K_h0
    exact T.ret (Fin.retw rfl (Wk.tup2 (Wk.sl _ _)) ⟨by unfold pputB; rw [his]; rfl, rfl⟩)
  | true =>
  by_cases c1 : l.length > 64
  · have e1 : decide ((l.length : Int) > 64) = true := decide_eq_true (by omega)
    try simp only [↓reduceIte, namesOf, List.any, I.names, aops, aopsI, aopsT, qstep, CPt, qget, Tbl.get, astep, ev, setd, List.set, List.getD, List.getElem?_cons_zero, List.getElem?_cons_succ, List.getElem?_nil, List.cons_append, List.nil_append, List.length_cons, List.length_nil, List.replicate, then_normal, inBlock_normal, Option.getD_some, Option.getD_none, Bool.or_false, Bool.or_true, Bool.true_or, Bool.false_or, Bool.false_eq_true, if_false, if_true, up_zero, Nat.reduceAdd, Nat.reduceSub, binv, ↓opt_def, AV.isAny, AV.cells, ldc, List.map_cons, List.map_nil, St.set_next, St.set_same, St.up_next, Int.natCast_nonneg, lt_len, le_len, Int.toNat_natCast, true_and, and_true, eq_self, reduceCtorEq, decide_true, List.length_singleton, er_int, er_bool, er_str, up_zero, Bool.not_true, tcs_len, e1]
    refine h2 _ _ ?_
    try clear h2 K_h2
    refine T.cond rfl (fun _ => ?_) (fun h => by cases h)
    refine T.seq_k (fun K_h0 h0 => ?_)
    refine T.regi hm ?_
    simp only [↓reduceIte, namesOf, List.any, I.names, aops, aopsI, aopsT, qstep, CPt, qget, Tbl.get, astep, ev, setd, List.set, List.getD, List.getElem?_cons_zero, List.getElem?_cons_succ, List.getElem?_nil, List.cons_append, List.nil_append, List.length_cons, List.length_nil, List.replicate, then_normal, inBlock_normal, Option.getD_some, Option.getD_none, Bool.or_false, Bool.or_true, Bool.true_or, Bool.false_or, Bool.false_eq_true, if_false, if_true, up_zero, Nat.reduceAdd, Nat.reduceSub, binv, ↓opt_def, AV.isAny, AV.cells, ldc, List.map_cons, List.map_nil, St.set_next, St.set_same, St.up_next, Int.natCast_nonneg, lt_len, le_len, Int.toNat_natCast, true_and, and_true, eq_self, reduceCtorEq, decide_true, List.length_singleton, er_int, er_bool, er_str]
    refine h0 _ _ ?_
    try clear h0 K_h0
    exact T.ret (Fin.retw rfl (Wk.tup2 (Wk.sl _ _)) ⟨by unfold pputB; rw [decide_eq_false (by omega), Bool.and_false]; rfl, rfl⟩)
  have e1 : decide ((l.length : Int) > 64) = false := decide_eq_false (by omega)
  have hok : pputB l = true := by unfold pputB; rw [his, decide_eq_true (by omega)]; rfl
  try simp only [↓reduceIte, namesOf, List.any, I.names, aops, aopsI, aopsT, qstep, CPt, qget, Tbl.get, astep, ev, setd, List.set, List.getD, List.getElem?_cons_zero, List.getElem?_cons_succ, List.getElem?_nil, List.cons_append, List.nil_append, List.length_cons, List.length_nil, List.replicate, then_normal, inBlock_normal, Option.getD_some, Option.getD_none, Bool.or_false, Bool.or_true, Bool.true_or, Bool.false_or, Bool.false_eq_true, if_false, if_true, up_zero, Nat.reduceAdd, Nat.reduceSub, binv, ↓opt_def, AV.isAny, AV.cells, ldc, List.map_cons, List.map_nil, St.set_next, St.set_same, St.up_next, Int.natCast_nonneg, lt_len, le_len, Int.toNat_natCast, true_and, and_true, eq_self, reduceCtorEq, decide_true, List.length_singleton, er_int, er_bool, er_str, up_zero, Bool.not_true, tcs_len, e1]
  refine h2 _ _ ?_
  try clear h2 K_h2
  refine T.cond rfl (fun h => by cases h) (fun _ => T.skip ?_)
  refine h1 _ _ ?_
  try clear h1 K_h1
  have e2 := u64w (n := l.length) (by omega)
  have hnil : AV.sl [] .nil = .sl (bytesAV []) .nil := rfl
  refine T.seq_k (fun K_h1 h1 => ?_)
  rw [hnil]
  refine T.regi hm ?_
  simp only [↓reduceIte, namesOf, List.any, I.names, aops, aopsI, aopsT, qstep, CPt, qget, Tbl.get, astep, ev, setd, List.set, List.getD, List.getElem?_cons_zero, List.getElem?_cons_succ, List.getElem?_nil, List.cons_append, List.nil_append, List.length_cons, List.length_nil, List.replicate, then_normal, inBlock_normal, Option.getD_some, Option.getD_none, Bool.or_false, Bool.or_true, Bool.true_or, Bool.false_or, Bool.false_eq_true, if_false, if_true, up_zero, Nat.reduceAdd, Nat.reduceSub, binv, ↓opt_def, AV.isAny, AV.cells, ldc, List.map_cons, List.map_nil, St.set_next, St.set_same, St.up_next, Int.natCast_nonneg, lt_len, le_len, Int.toNat_natCast, true_and, and_true, eq_self, reduceCtorEq, decide_true, List.length_singleton, er_int, er_bool, er_str, tcs_len, e2]
  refine (wput_ok (l := []) (w := 2) (by simp) rfl (fun _ => by omega)).mono ?_
  rintro v σ2 ⟨h, o1, rfl⟩
  rw [List.nil_append, ← hnil]
  have q0 := Tq.one o1
  clear o1
  try simp only [↓reduceIte, namesOf, List.any, I.names, aops, aopsI, aopsT, qstep, CPt, qget, Tbl.get, astep, ev, setd, List.set, List.getD, List.getElem?_cons_zero, List.getElem?_cons_succ, List.getElem?_nil, List.cons_append, List.nil_append, List.length_cons, List.length_nil, List.replicate, then_normal, inBlock_normal, Option.getD_some, Option.getD_none, Bool.or_false, Bool.or_true, Bool.true_or, Bool.false_or, Bool.false_eq_true, if_false, if_true, up_zero, Nat.reduceAdd, Nat.reduceSub, binv, ↓opt_def, AV.isAny, AV.cells, ldc, List.map_cons, List.map_nil, St.set_next, St.set_same, St.up_next, Int.natCast_nonneg, lt_len, le_len, Int.toNat_natCast, true_and, and_true, eq_self, reduceCtorEq, decide_true, List.length_singleton, er_int, er_bool, er_str, up_zero]
  refine h1 _ _ ?_
  try clear h1 K_h1
  refine T.seq_k (fun K_h1 h1 => ?_)
  refine T.seq_k (fun K_h0 h0 => ?_)
  refine T.regi hm ?_
  simp only [↓reduceIte, namesOf, List.any, I.names, aops, aopsI, aopsT, qstep, CPt, qget, Tbl.get, astep, ev, setd, List.set, List.getD, List.getElem?_cons_zero, List.getElem?_cons_succ, List.getElem?_nil, List.cons_append, List.nil_append, List.length_cons, List.length_nil, List.replicate, then_normal, inBlock_normal, Option.getD_some, Option.getD_none, Bool.or_false, Bool.or_true, Bool.true_or, Bool.false_or, Bool.false_eq_true, if_false, if_true, up_zero, Nat.reduceAdd, Nat.reduceSub, binv, ↓opt_def, AV.isAny, AV.cells, ldc, List.map_cons, List.map_nil, St.set_next, St.set_same, St.up_next, Int.natCast_nonneg, lt_len, le_len, Int.toNat_natCast, true_and, and_true, eq_self, reduceCtorEq, decide_true, List.length_singleton, er_int, er_bool, er_str, eqIv, bne_self_eq_false]
  refine h0 _ _ ?_
  try clear h0 K_h0
  refine T.cond rfl (fun h => by cases h) (fun _ => T.skip ?_)
  refine h1 _ _ ?_
  try clear h1 K_h1
  have hfl : (l.flatMap trB).length ≤ 64 * 30000 := Nat.le_trans (trs_le (fun t ht => trB_le (is_each his ht))) (Nat.mul_le_mul_right _ (by omega))
  refine T.seq_k (fun K_h1 h1 => ?_)
  refine T.seq_k (fun K_h0 h0 => ?_)
  refine T.regi hm ?_
  simp only [↓reduceIte, namesOf, List.any, I.names, aops, aopsI, aopsT, qstep, CPt, qget, Tbl.get, astep, ev, setd, List.set, List.getD, List.getElem?_cons_zero, List.getElem?_cons_succ, List.getElem?_nil, List.cons_append, List.nil_append, List.length_cons, List.length_nil, List.replicate, then_normal, inBlock_normal, Option.getD_some, Option.getD_none, Bool.or_false, Bool.or_true, Bool.true_or, Bool.false_or, Bool.false_eq_true, if_false, if_true, up_zero, Nat.reduceAdd, Nat.reduceSub, binv, ↓opt_def, AV.isAny, AV.cells, ldc, List.map_cons, List.map_nil, St.set_next, St.set_same, St.up_next, Int.natCast_nonneg, lt_len, le_len, Int.toNat_natCast, true_and, and_true, eq_self, reduceCtorEq, decide_true, List.length_singleton, er_int, er_bool, er_str, tcs_len]
  refine h0 _ _ ?_
  try clear h0 K_h0
  refine T.block ?_
  refine T.gh (Gh.keep [2, 3, 4, 29, 30, 31]) ?_
  refine T.loopi (fun i ρ t => (∃ g1, Tq σ1 t g1 1 ∧ ρ = [.any, .any, .sl [] .nil, .nili, .sl (bytesAV (beB 2 l.length ++ (l.take i).flatMap trB)) (.tip g1)] ++ List.replicate 24 .any ++ [.sl (tcsAV l) g, .int .i64 (l.length : Int), .int .i64 (i : Int)] ++ List.replicate 17 .any))
    l.length 0 (Nat.zero_le _) ⟨h, q0, by rw [List.take_zero, List.flatMap_nil, List.append_nil]; rfl⟩ ?_
  clear q0 h
  rintro i ρ t hi ⟨h, q0, rfl⟩
  refine T.seq_k (fun K_h0 h0 => ?_)
  refine T.regi hm ?_
  simp only [↓reduceIte, namesOf, List.any, I.names, aops, aopsI, aopsT, qstep, CPt, qget, Tbl.get, astep, ev, setd, List.set, List.getD, List.getElem?_cons_zero, List.getElem?_cons_succ, List.getElem?_nil, List.cons_append, List.nil_append, List.length_cons, List.length_nil, List.replicate, then_normal, inBlock_normal, Option.getD_some, Option.getD_none, Bool.or_false, Bool.or_true, Bool.true_or, Bool.false_or, Bool.false_eq_true, if_false, if_true, up_zero, Nat.reduceAdd, Nat.reduceSub, binv, ↓opt_def, AV.isAny, AV.cells, ldc, List.map_cons, List.map_nil, St.set_next, St.set_same, St.up_next, Int.natCast_nonneg, lt_len, le_len, Int.toNat_natCast, true_and, and_true, eq_self, reduceCtorEq, decide_true, List.length_singleton, er_int, er_bool, er_str]
  refine h0 _ _ ?_
  try clear h0 K_h0
  refine T.seq_k (fun K_h2 h2 => ?_)
  by_cases hil : i < l.length
  case neg =>
    refine T.cond (b := false) (by simp [ev]; omega) (fun h => by cases h) (fun _ => T.exit ?_)
    have : i = l.length := by omega
    subst this
    rw [List.take_length]
    try simp only [↓reduceIte, namesOf, List.any, I.names, aops, aopsI, aopsT, qstep, CPt, qget, Tbl.get, astep, ev, setd, List.set, List.getD, List.getElem?_cons_zero, List.getElem?_cons_succ, List.getElem?_nil, List.cons_append, List.nil_append, List.length_cons, List.length_nil, List.replicate, then_normal, inBlock_normal, Option.getD_some, Option.getD_none, Bool.or_false, Bool.or_true, Bool.true_or, Bool.false_or, Bool.false_eq_true, if_false, if_true, up_zero, Nat.reduceAdd, Nat.reduceSub, binv, ↓opt_def, AV.isAny, AV.cells, ldc, List.map_cons, List.map_nil, St.set_next, St.set_same, St.up_next, Int.natCast_nonneg, lt_len, le_len, Int.toNat_natCast, true_and, and_true, eq_self, reduceCtorEq, decide_true, List.length_singleton, er_int, er_bool, er_str, inBlock_exit, then_exit]
    refine h1 _ _ ?_
    try clear h1 K_h1
    refine T.seq_k (fun K_h1 h1 => ?_)
    refine T.regi hm ?_
    simp only [↓reduceIte, namesOf, List.any, I.names, aops, aopsI, aopsT, qstep, CPt, qget, Tbl.get, astep, ev, setd, List.set, List.getD, List.getElem?_cons_zero, List.getElem?_cons_succ, List.getElem?_nil, List.cons_append, List.nil_append, List.length_cons, List.length_nil, List.replicate, then_normal, inBlock_normal, Option.getD_some, Option.getD_none, Bool.or_false, Bool.or_true, Bool.true_or, Bool.false_or, Bool.false_eq_true, if_false, if_true, up_zero, Nat.reduceAdd, Nat.reduceSub, binv, ↓opt_def, AV.isAny, AV.cells, ldc, List.map_cons, List.map_nil, St.set_next, St.set_same, St.up_next, Int.natCast_nonneg, lt_len, le_len, Int.toNat_natCast, true_and, and_true, eq_self, reduceCtorEq, decide_true, List.length_singleton, er_int, er_bool, er_str]
    refine (cseal_q (by rw [List.length_append, beB_len]; omega)).mono ?_
    rintro v t2 ⟨rfl, rfl⟩
    try simp only [↓reduceIte, namesOf, List.any, I.names, aops, aopsI, aopsT, qstep, CPt, qget, Tbl.get, astep, ev, setd, List.set, List.getD, List.getElem?_cons_zero, List.getElem?_cons_succ, List.getElem?_nil, List.cons_append, List.nil_append, List.length_cons, List.length_nil, List.replicate, then_normal, inBlock_normal, Option.getD_some, Option.getD_none, Bool.or_false, Bool.or_true, Bool.true_or, Bool.false_or, Bool.false_eq_true, if_false, if_true, up_zero, Nat.reduceAdd, Nat.reduceSub, binv, ↓opt_def, AV.isAny, AV.cells, ldc, List.map_cons, List.map_nil, St.set_next, St.set_same, St.up_next, Int.natCast_nonneg, lt_len, le_len, Int.toNat_natCast, true_and, and_true, eq_self, reduceCtorEq, decide_true, List.length_singleton, er_int, er_bool, er_str, up_zero]
    refine h1 _ _ ?_
    try clear h1 K_h1
    exact T.ret (Fin.quiet rfl ⟨⟨nb_bytes _ _, trivial⟩, trivial, trivial⟩ (q0.quiet wf) ⟨by rw [if_pos hok]; rfl, rfl⟩)
  refine T.cond (b := true) (by simp [ev]; omega) (fun _ => T.skip ?_) (fun h => by cases h)
  refine h2 _ _ ?_
  try clear h2 K_h2
  have hiw := inc64' hil (by omega)
  have hilI : (i : Int) < (l.length : Int) := by omega
  have hg := tcs_get hil
  have hfs := flat_snoc trB hil
  have hone := is_each his (List.getElem_mem hil)
  have hpl : ((l.take i).flatMap trB).length ≤ 64 * 30000 := by
    refine Nat.le_trans (trs_le (fun t ht => trB_le (is_each his (List.mem_of_mem_take ht)))) (Nat.mul_le_mul_right _ ?_)
    rw [List.length_take]; omega
  generalize l[i] = x at hg hfs hone
  rw [tcav'] at hg
  obtain ⟨o1, o2, o3⟩ := one_facts hone
  have otl := trB_le hone
  refine T.seq_k (fun K_h2 h2 => ?_)
  refine T.block ?_
  refine T.seq_k (fun K_h3 h3 => ?_)
  refine T.regi hm ?_
  simp only [↓reduceIte, namesOf, List.any, I.names, aops, aopsI, aopsT, qstep, CPt, qget, Tbl.get, astep, ev, setd, List.set, List.getD, List.getElem?_cons_zero, List.getElem?_cons_succ, List.getElem?_nil, List.cons_append, List.nil_append, List.length_cons, List.length_nil, List.replicate, then_normal, inBlock_normal, Option.getD_some, Option.getD_none, Bool.or_false, Bool.or_true, Bool.true_or, Bool.false_or, Bool.false_eq_true, if_false, if_true, up_zero, Nat.reduceAdd, Nat.reduceSub, binv, ↓opt_def, AV.isAny, AV.cells, ldc, List.map_cons, List.map_nil, St.set_next, St.set_same, St.up_next, Int.natCast_nonneg, lt_len, le_len, Int.toNat_natCast, true_and, and_true, eq_self, reduceCtorEq, decide_true, List.length_singleton, er_int, er_bool, er_str, tcs_len, hg, hilI, AV.fits, AV.one, List.all_cons, List.all_nil, Nat.reduceBEq, Bool.and_true, Bool.not_false, Bool.and_self, Nat.zero_add, splice, List.take, List.drop, Nat.reduceLeDiff, St.set_set]
  have q1 := q0.box (n := 4) (i := 2) (by omega) (.obj [.int .u64 (x.id : Int), .sl (spsAV x.sp) .none])
  have hb : ((t.up 4).set (t.next + 2) (.obj [.int .u64 (x.id : Int), .sl (spsAV x.sp) .none])).res (t.next + 2) = some (.obj [.int .u64 (x.id : Int), .sl (spsAV x.sp) .none]) := by simp
  generalize ((t.up 4).set (t.next + 2) (.obj [.int .u64 (x.id : Int), .sl (spsAV x.sp) .none])) = τ at q1 hb ⊢
  generalize t.next + 2 = a at hb ⊢
  clear q0
  refine h3 _ _ ?_
  try clear h3 K_h3
  refine T.seq_k (fun K_h3 h3 => ?_)
  refine T.regi hm ?_
  simp only [↓reduceIte, namesOf, List.any, I.names, aops, aopsI, aopsT, qstep, CPt, qget, Tbl.get, astep, ev, setd, List.set, List.getD, List.getElem?_cons_zero, List.getElem?_cons_succ, List.getElem?_nil, List.cons_append, List.nil_append, List.length_cons, List.length_nil, List.replicate, then_normal, inBlock_normal, Option.getD_some, Option.getD_none, Bool.or_false, Bool.or_true, Bool.true_or, Bool.false_or, Bool.false_eq_true, if_false, if_true, up_zero, Nat.reduceAdd, Nat.reduceSub, binv, ↓opt_def, AV.isAny, AV.cells, ldc, List.map_cons, List.map_nil, St.set_next, St.set_same, St.up_next, Int.natCast_nonneg, lt_len, le_len, Int.toNat_natCast, true_and, and_true, eq_self, reduceCtorEq, decide_true, List.length_singleton, er_int, er_bool, er_str, hb, AV.fits, AV.one, List.all_cons, List.all_nil, Nat.reduceBEq, Bool.and_true, Bool.not_false, Bool.and_self, Nat.zero_add, splice, List.take, List.drop, Nat.reduceLeDiff]
  refine (pput1_ok (by omega) o1).mono ?_
  rintro v τ3 ⟨rfl, rfl⟩
  try simp only [↓reduceIte, namesOf, List.any, I.names, aops, aopsI, aopsT, qstep, CPt, qget, Tbl.get, astep, ev, setd, List.set, List.getD, List.getElem?_cons_zero, List.getElem?_cons_succ, List.getElem?_nil, List.cons_append, List.nil_append, List.length_cons, List.length_nil, List.replicate, then_normal, inBlock_normal, Option.getD_some, Option.getD_none, Bool.or_false, Bool.or_true, Bool.true_or, Bool.false_or, Bool.false_eq_true, if_false, if_true, up_zero, Nat.reduceAdd, Nat.reduceSub, binv, ↓opt_def, AV.isAny, AV.cells, ldc, List.map_cons, List.map_nil, St.set_next, St.set_same, St.up_next, Int.natCast_nonneg, lt_len, le_len, Int.toNat_natCast, true_and, and_true, eq_self, reduceCtorEq, decide_true, List.length_singleton, er_int, er_bool, er_str, up_zero]
  refine h3 _ _ ?_
  try clear h3 K_h3
  refine T.seq_k (fun K_h3 h3 => ?_)
  refine T.seq_k (fun K_h0 h0 => ?_)
  refine T.regi hm ?_
  simp only [↓reduceIte, namesOf, List.any, I.names, aops, aopsI, aopsT, qstep, CPt, qget, Tbl.get, astep, ev, setd, List.set, List.getD, List.getElem?_cons_zero, List.getElem?_cons_succ, List.getElem?_nil, List.cons_append, List.nil_append, List.length_cons, List.length_nil, List.replicate, then_normal, inBlock_normal, Option.getD_some, Option.getD_none, Bool.or_false, Bool.or_true, Bool.true_or, Bool.false_or, Bool.false_eq_true, if_false, if_true, up_zero, Nat.reduceAdd, Nat.reduceSub, binv, ↓opt_def, AV.isAny, AV.cells, ldc, List.map_cons, List.map_nil, St.set_next, St.set_same, St.up_next, Int.natCast_nonneg, lt_len, le_len, Int.toNat_natCast, true_and, and_true, eq_self, reduceCtorEq, decide_true, List.length_singleton, er_int, er_bool, er_str, eqIv, bne_self_eq_false]
  refine h0 _ _ ?_
  try clear h0 K_h0
  refine T.cond rfl (fun h => by cases h) (fun _ => T.skip ?_)
  refine h3 _ _ ?_
  try clear h3 K_h3
  have hat := q1.ats
  have hle : decide ((2 + ((l.take i).flatMap trB).length + (trB x).length) * 1 ≤ 70368744177664 ∧ 2 + ((l.take i).flatMap trB).length + (trB x).length ≤ 4611686018427387904) = true := app_le (by omega)
  refine T.regi hm ?_
  simp only [↓reduceIte, namesOf, List.any, I.names, aops, aopsI, aopsT, qstep, CPt, qget, Tbl.get, astep, ev, setd, List.set, List.getD, List.getElem?_cons_zero, List.getElem?_cons_succ, List.getElem?_nil, List.cons_append, List.nil_append, List.length_cons, List.length_nil, List.replicate, then_normal, inBlock_normal, Option.getD_some, Option.getD_none, Bool.or_false, Bool.or_true, Bool.true_or, Bool.false_or, Bool.false_eq_true, if_false, if_true, up_zero, Nat.reduceAdd, Nat.reduceSub, binv, ↓opt_def, AV.isAny, AV.cells, ldc, List.map_cons, List.map_nil, St.set_next, St.set_same, St.up_next, Int.natCast_nonneg, lt_len, le_len, Int.toNat_natCast, true_and, and_true, eq_self, reduceCtorEq, decide_true, List.length_singleton, er_int, er_bool, er_str, held, srcOf, bytesAV_er, bytesAV_app, bytes_all, bytesAV_len, List.length_append, Bool.and_self, St.up_res, List.isEmpty, hat, beB_len, hle]
  refine h2 _ _ ?_
  try clear h2 K_h2
  refine T.regi hm ?_
  simp only [↓reduceIte, namesOf, List.any, I.names, aops, aopsI, aopsT, qstep, CPt, qget, Tbl.get, astep, ev, setd, List.set, List.getD, List.getElem?_cons_zero, List.getElem?_cons_succ, List.getElem?_nil, List.cons_append, List.nil_append, List.length_cons, List.length_nil, List.replicate, then_normal, inBlock_normal, Option.getD_some, Option.getD_none, Bool.or_false, Bool.or_true, Bool.true_or, Bool.false_or, Bool.false_eq_true, if_false, if_true, up_zero, Nat.reduceAdd, Nat.reduceSub, binv, ↓opt_def, AV.isAny, AV.cells, ldc, List.map_cons, List.map_nil, St.set_next, St.set_same, St.up_next, Int.natCast_nonneg, lt_len, le_len, Int.toNat_natCast, true_and, and_true, eq_self, reduceCtorEq, decide_true, List.length_singleton, er_int, er_bool, er_str, hiw]
  refine ⟨hil, _, _, Gh.keep [2, 3, 4, 29, 30, 31], _, q1.app (n := 4) (i := 2) (by omega), ?_⟩
  rw [hfs, ← List.append_assoc]; rfl

end Go.VL

namespace Go.VL

open Go.Proofs

theorem Rk.moved {σ t u : St} {nm nm' k : Nat} {r r' : Res} {v : Ver} (h : Rk σ t nm r k v) (hr : u.res nm' = some r') (h1 : t.next ≤ nm') (h2 : nm' < u.next) (ho : ∀ m, m < t.next → u.res m = t.res m) : Rk σ u nm' r' k v := by
  have hn := h.like.next
  refine ⟨h.like.trans ⟨by omega, ho⟩, by omega, h2, hr, h.ver.imp id ?_⟩
  rintro ⟨g, a1, a2, a3, a4, a5⟩
  exact ⟨g, a1, by omega, a3, by omega, by rw [ho g a4]; exact a5⟩

theorem Rk.liked {σ t u : St} {nm k : Nat} {r : Res} {v : Ver} (h : Rk σ t nm r k v) (l : Like t u) : Rk σ u nm r k v :=
  ⟨h.like.trans l, h.lo, Nat.lt_of_lt_of_le h.hi l.next, (l.same _ h.hi).trans h.at_, h.ver.imp id fun ⟨g, a1, a2, a3, a4, a5⟩ => ⟨g, a1, a2, a3, Nat.lt_of_lt_of_le a4 l.next, (l.same _ a4).trans a5⟩⟩

theorem tcs_snoc' (a : List Tc) (i : Nat) (l : List Sp) : tcsAV a ++ [.agg [.int .u64 (i : Int), .sl (spsAV l) .none]] = tcsAV (a ++ [⟨i, l⟩]) := by simp [tcsAV, Tc.av, spsAV]

set_option maxRecDepth 10000 in
set_option maxHeartbeats 4000000 in
theorem pgget_ok {x : List UInt8} {g0 : Ver} {σ : St} (hx : x.length ≤ 1000000) :
    ACalls Try.prog n_pgget [.sl (bytesAV x) g0] σ (fun v σ' => v = .tup [.sl (tcsAV (pageG x).2) .none, errAV (pageG x).1] ∧ σ' = σ) := by
  refine s_pgget (fun wf => ?_)
  unfold c_pgget
  have hble := openB_le x
  have hpg : pageG x = if (openB x).1 = 0 then pgOf (getP (openB x).2) else ((openB x).1, []) := rfl
  generalize pageG x = G at hpg ⊢
  refine T.seq_k (fun K_h0 h0 => ?_)
  refine T.regi hm ?_
  simp only [↓reduceIte, namesOf, List.any, I.names, aops, aopsI, aopsT, qstep, CPt, qget, Tbl.get, astep, ev, setd, List.set, List.getD, List.getElem?_cons_zero, List.getElem?_cons_succ, List.getElem?_nil, List.cons_append, List.nil_append, List.length_cons, List.length_nil, List.replicate, then_normal, inBlock_normal, Option.getD_some, Option.getD_none, Bool.or_false, Bool.or_true, Bool.true_or, Bool.false_or, Bool.false_eq_true, if_false, if_true, up_zero, Nat.reduceAdd, Nat.reduceSub, binv, ↓opt_def, AV.isAny, AV.cells, ldc, List.map_cons, List.map_nil, St.set_next, St.set_same, St.up_next, Int.natCast_nonneg, lt_len, le_len, Int.toNat_natCast, true_and, and_true, eq_self, reduceCtorEq, decide_true, List.length_singleton, er_int, er_bool, er_str]
  refine h0 _ _ ?_
  try clear h0 K_h0
  refine T.seq_k (fun K_h1 h1 => ?_)
  refine T.regi hm ?_
  simp only [↓reduceIte, namesOf, List.any, I.names, aops, aopsI, aopsT, qstep, CPt, qget, Tbl.get, astep, ev, setd, List.set, List.getD, List.getElem?_cons_zero, List.getElem?_cons_succ, List.getElem?_nil, List.cons_append, List.nil_append, List.length_cons, List.length_nil, List.replicate, then_normal, inBlock_normal, Option.getD_some, Option.getD_none, Bool.or_false, Bool.or_true, Bool.true_or, Bool.false_or, Bool.false_eq_true, if_false, if_true, up_zero, Nat.reduceAdd, Nat.reduceSub, binv, ↓opt_def, AV.isAny, AV.cells, ldc, List.map_cons, List.map_nil, St.set_next, St.set_same, St.up_next, Int.natCast_nonneg, lt_len, le_len, Int.toNat_natCast, true_and, and_true, eq_self, reduceCtorEq, decide_true, List.length_singleton, er_int, er_bool, er_str]
  refine (copen_ok (by omega)).mono ?_
  rintro v σ ⟨rfl, rfl⟩
  generalize (openB x).1 = c at hpg ⊢
  generalize (openB x).2 = b at hpg hble ⊢
  try simp only [↓reduceIte, namesOf, List.any, I.names, aops, aopsI, aopsT, qstep, CPt, qget, Tbl.get, astep, ev, setd, List.set, List.getD, List.getElem?_cons_zero, List.getElem?_cons_succ, List.getElem?_nil, List.cons_append, List.nil_append, List.length_cons, List.length_nil, List.replicate, then_normal, inBlock_normal, Option.getD_some, Option.getD_none, Bool.or_false, Bool.or_true, Bool.true_or, Bool.false_or, Bool.false_eq_true, if_false, if_true, up_zero, Nat.reduceAdd, Nat.reduceSub, binv, ↓opt_def, AV.isAny, AV.cells, ldc, List.map_cons, List.map_nil, St.set_next, St.set_same, St.up_next, Int.natCast_nonneg, lt_len, le_len, Int.toNat_natCast, true_and, and_true, eq_self, reduceCtorEq, decide_true, List.length_singleton, er_int, er_bool, er_str, ]
  refine h1 _ _ ?_
  try clear h1 K_h1
  refine T.seq_k (fun K_h1 h1 => ?_)
  by_cases hc : c = 0
  case neg =>
    rw [if_neg hc] at hpg
    rw [errAV_eq c hc]
    refine T.seq_k (fun K_h0 h0 => ?_)
    refine T.regi hm ?_
    simp only [↓reduceIte, namesOf, List.any, I.names, aops, aopsI, aopsT, qstep, CPt, qget, Tbl.get, astep, ev, setd, List.set, List.getD, List.getElem?_cons_zero, List.getElem?_cons_succ, List.getElem?_nil, List.cons_append, List.nil_append, List.length_cons, List.length_nil, List.replicate, then_normal, inBlock_normal, Option.getD_some, Option.getD_none, Bool.or_false, Bool.or_true, Bool.true_or, Bool.false_or, Bool.false_eq_true, if_false, if_true, up_zero, Nat.reduceAdd, Nat.reduceSub, binv, ↓opt_def, AV.isAny, AV.cells, ldc, List.map_cons, List.map_nil, St.set_next, St.set_same, St.up_next, Int.natCast_nonneg, lt_len, le_len, Int.toNat_natCast, true_and, and_true, eq_self, reduceCtorEq, decide_true, List.length_singleton, er_int, er_bool, er_str, eqIv, Bool.bne_true, Bool.not_false]
    refine h0 _ _ ?_
    try clear h0 K_h0
    refine T.cond rfl (fun _ => ?_) (fun h => by cases h)
    refine T.seq_k (fun K_h0 h0 => ?_)
    refine T.regi hm ?_
    simp only [↓reduceIte, namesOf, List.any, I.names, aops, aopsI, aopsT, qstep, CPt, qget, Tbl.get, astep, ev, setd, List.set, List.getD, List.getElem?_cons_zero, List.getElem?_cons_succ, List.getElem?_nil, List.cons_append, List.nil_append, List.length_cons, List.length_nil, List.replicate, then_normal, inBlock_normal, Option.getD_some, Option.getD_none, Bool.or_false, Bool.or_true, Bool.true_or, Bool.false_or, Bool.false_eq_true, if_false, if_true, up_zero, Nat.reduceAdd, Nat.reduceSub, binv, ↓opt_def, AV.isAny, AV.cells, ldc, List.map_cons, List.map_nil, St.set_next, St.set_same, St.up_next, Int.natCast_nonneg, lt_len, le_len, Int.toNat_natCast, true_and, and_true, eq_self, reduceCtorEq, decide_true, List.length_singleton, er_int, er_bool, er_str]
    refine h0 _ _ ?_
    try clear h0 K_h0
    exact T.ret (Fin.quietw rfl (Wk.tup2 (Wk.sl _ _)) ⟨⟨trivial, trivial⟩, trivial, trivial⟩ (fun _ _ h => h) ⟨by rw [hpg, errAV_eq c hc]; rfl, rfl⟩)
  rw [if_pos hc] at hpg
  subst hc
  have e0 : errAV 0 = .nili := rfl
  rw [e0]
  refine T.seq_k (fun K_h0 h0 => ?_)
  refine T.regi hm ?_
  simp only [↓reduceIte, namesOf, List.any, I.names, aops, aopsI, aopsT, qstep, CPt, qget, Tbl.get, astep, ev, setd, List.set, List.getD, List.getElem?_cons_zero, List.getElem?_cons_succ, List.getElem?_nil, List.cons_append, List.nil_append, List.length_cons, List.length_nil, List.replicate, then_normal, inBlock_normal, Option.getD_some, Option.getD_none, Bool.or_false, Bool.or_true, Bool.true_or, Bool.false_or, Bool.false_eq_true, if_false, if_true, up_zero, Nat.reduceAdd, Nat.reduceSub, binv, ↓opt_def, AV.isAny, AV.cells, ldc, List.map_cons, List.map_nil, St.set_next, St.set_same, St.up_next, Int.natCast_nonneg, lt_len, le_len, Int.toNat_natCast, true_and, and_true, eq_self, reduceCtorEq, decide_true, List.length_singleton, er_int, er_bool, er_str, eqIv, bne_self_eq_false]
  refine h0 _ _ ?_
  try clear h0 K_h0
  refine T.cond rfl (fun h => by cases h) (fun _ => T.skip ?_)
  refine h1 _ _ ?_
  try clear h1 K_h1
  have k0 : Rs.ok b r0 := Rs.ok_r0 (by omega)
  have k1 := rN_ok (w := 2) k0
  have hN := rW_lt (w := 2) k0
  have hget : getP b = (goR b (rW b r0 2) (rN b r0 2) []).bind fun p => endP b p.1 p.2 := rfl
  have hN0 : 0 ≤ (rN b r0 2).bad → rW b r0 2 = 0 := fun h => rW_bad rfl h
  have hS0 : SH 0 b r0 := ⟨k0, by omega, by simp [r0], .inl rfl⟩
  have hS1 := (hS0.rn 2).2
  have hsh : ∀ s : Rs, sh 0 s = s := fun s => by
    unfold sh
    cases s with
    | mk a d => simp only [Int.sub_zero, Int.natCast_zero, Rs.mk.injEq, true_and]; split <;> omega
  refine T.seq_k (fun K_h1 h1 => ?_)
  refine T.regi hm ?_
  simp only [↓reduceIte, namesOf, List.any, I.names, aops, aopsI, aopsT, qstep, CPt, qget, Tbl.get, astep, ev, setd, List.set, List.getD, List.getElem?_cons_zero, List.getElem?_cons_succ, List.getElem?_nil, List.cons_append, List.nil_append, List.length_cons, List.length_nil, List.replicate, then_normal, inBlock_normal, Option.getD_some, Option.getD_none, Bool.or_false, Bool.or_true, Bool.true_or, Bool.false_or, Bool.false_eq_true, if_false, if_true, up_zero, Nat.reduceAdd, Nat.reduceSub, binv, ↓opt_def, AV.isAny, AV.cells, ldc, List.map_cons, List.map_nil, St.set_next, St.set_same, St.up_next, Int.natCast_nonneg, lt_len, le_len, Int.toNat_natCast, true_and, and_true, eq_self, reduceCtorEq, decide_true, List.length_singleton, er_int, er_bool, er_str]
  refine wreadF.mono ?_
  rintro v σ1 ⟨nm, rfl, hr1, hn1, hn2, ho1⟩
  have R0 : Rk σ σ1 nm (rdS b .none r0) 2 .nil := ⟨⟨by omega, ho1⟩, hn1, hn2, hr1, .inl rfl⟩
  clear hr1 hn1 hn2 ho1
  try simp only [↓reduceIte, namesOf, List.any, I.names, aops, aopsI, aopsT, qstep, CPt, qget, Tbl.get, astep, ev, setd, List.set, List.getD, List.getElem?_cons_zero, List.getElem?_cons_succ, List.getElem?_nil, List.cons_append, List.nil_append, List.length_cons, List.length_nil, List.replicate, then_normal, inBlock_normal, Option.getD_some, Option.getD_none, Bool.or_false, Bool.or_true, Bool.true_or, Bool.false_or, Bool.false_eq_true, if_false, if_true, up_zero, Nat.reduceAdd, Nat.reduceSub, binv, ↓opt_def, AV.isAny, AV.cells, ldc, List.map_cons, List.map_nil, St.set_next, St.set_same, St.up_next, Int.natCast_nonneg, lt_len, le_len, Int.toNat_natCast, true_and, and_true, eq_self, reduceCtorEq, decide_true, List.length_singleton, er_int, er_bool, er_str, up_zero]
  refine h1 _ _ ?_
  try clear h1 K_h1
  refine T.seq_k (fun K_h1 h1 => ?_)
  refine T.regi hm ?_
  simp only [↓reduceIte, namesOf, List.any, I.names, aops, aopsI, aopsT, qstep, CPt, qget, Tbl.get, astep, ev, setd, List.set, List.getD, List.getElem?_cons_zero, List.getElem?_cons_succ, List.getElem?_nil, List.cons_append, List.nil_append, List.length_cons, List.length_nil, List.replicate, then_normal, inBlock_normal, Option.getD_some, Option.getD_none, Bool.or_false, Bool.or_true, Bool.true_or, Bool.false_or, Bool.false_eq_true, if_false, if_true, up_zero, Nat.reduceAdd, Nat.reduceSub, binv, ↓opt_def, AV.isAny, AV.cells, ldc, List.map_cons, List.map_nil, St.set_next, St.set_same, St.up_next, Int.natCast_nonneg, lt_len, le_len, Int.toNat_natCast, true_and, and_true, eq_self, reduceCtorEq, decide_true, List.length_singleton, er_int, er_bool, er_str]
  refine (wwordF k0 rfl R0.at_).mono ?_
  rintro v σ2 ⟨rfl, rfl⟩
  have R1 := R0.set (rdS b .none (rN b r0 2))
  generalize (σ1.set nm (rdS b .none (rN b r0 2))) = σ2 at R1 ⊢
  clear R0 σ1
  generalize rW b r0 2 = N at hN hget hN0 ⊢
  generalize rN b r0 2 = s0 at k1 R1 hget hN0 hS1
  have eN : IntKind.i64.wrap (N : Int) = (N : Int) := wrap64 (by omega) (by omega)
  try simp only [↓reduceIte, namesOf, List.any, I.names, aops, aopsI, aopsT, qstep, CPt, qget, Tbl.get, astep, ev, setd, List.set, List.getD, List.getElem?_cons_zero, List.getElem?_cons_succ, List.getElem?_nil, List.cons_append, List.nil_append, List.length_cons, List.length_nil, List.replicate, then_normal, inBlock_normal, Option.getD_some, Option.getD_none, Bool.or_false, Bool.or_true, Bool.true_or, Bool.false_or, Bool.false_eq_true, if_false, if_true, up_zero, Nat.reduceAdd, Nat.reduceSub, binv, ↓opt_def, AV.isAny, AV.cells, ldc, List.map_cons, List.map_nil, St.set_next, St.set_same, St.up_next, Int.natCast_nonneg, lt_len, le_len, Int.toNat_natCast, true_and, and_true, eq_self, reduceCtorEq, decide_true, List.length_singleton, er_int, er_bool, er_str, up_zero, eN]
  refine h1 _ _ ?_
  try clear h1 K_h1
  refine T.seq_k (fun K_h0 h0 => ?_)
  refine T.regi hm ?_
  simp only [↓reduceIte, namesOf, List.any, I.names, aops, aopsI, aopsT, qstep, CPt, qget, Tbl.get, astep, ev, setd, List.set, List.getD, List.getElem?_cons_zero, List.getElem?_cons_succ, List.getElem?_nil, List.cons_append, List.nil_append, List.length_cons, List.length_nil, List.replicate, then_normal, inBlock_normal, Option.getD_some, Option.getD_none, Bool.or_false, Bool.or_true, Bool.true_or, Bool.false_or, Bool.false_eq_true, if_false, if_true, up_zero, Nat.reduceAdd, Nat.reduceSub, binv, ↓opt_def, AV.isAny, AV.cells, ldc, List.map_cons, List.map_nil, St.set_next, St.set_same, St.up_next, Int.natCast_nonneg, lt_len, le_len, Int.toNat_natCast, true_and, and_true, eq_self, reduceCtorEq, decide_true, List.length_singleton, er_int, er_bool, er_str]
  refine h0 _ _ ?_
  try clear h0 K_h0
  refine T.seq_k (fun K_h1 h1 => ?_)
  refine T.seq_k (fun K_h0 h0 => ?_)
  refine T.regi hm ?_
  simp only [↓reduceIte, namesOf, List.any, I.names, aops, aopsI, aopsT, qstep, CPt, qget, Tbl.get, astep, ev, setd, List.set, List.getD, List.getElem?_cons_zero, List.getElem?_cons_succ, List.getElem?_nil, List.cons_append, List.nil_append, List.length_cons, List.length_nil, List.replicate, then_normal, inBlock_normal, Option.getD_some, Option.getD_none, Bool.or_false, Bool.or_true, Bool.true_or, Bool.false_or, Bool.false_eq_true, if_false, if_true, up_zero, Nat.reduceAdd, Nat.reduceSub, binv, ↓opt_def, AV.isAny, AV.cells, ldc, List.map_cons, List.map_nil, St.set_next, St.set_same, St.up_next, Int.natCast_nonneg, lt_len, le_len, Int.toNat_natCast, true_and, and_true, eq_self, reduceCtorEq, decide_true, List.length_singleton, er_int, er_bool, er_str]
  refine h0 _ _ ?_
  try clear h0 K_h0
  refine T.block ?_
  refine T.gh (Gh.keep [4, 6, 7, 8, 9]) ?_
  refine T.loopi (fun i ρ t => ∃ (nm k : Nat) (s : Rs) (acc : List Tc) (vv : Ver), SH k b s ∧ Rk σ t nm (rdS (b.drop k) .none (sh k s)) 2 vv ∧ acc.length = i ∧ (vv = .nil → acc = []) ∧ (0 ≤ s.bad → N = 0) ∧ goR b N s0 [] = goR b (N - i) s acc ∧
      ρ = [.any, .any, .any, .any, .sl (bytesAV (b.drop k)) .none, .any, .ptr nm 0, .int .i64 (N : Int), .sl (tcsAV acc) vv, .int .i64 (i : Int)] ++ List.replicate 99 .any)
    N 0 (Nat.zero_le _) ⟨nm, 0, s0, [], .nil, hS1, by rw [hsh]; exact R1, rfl, fun _ => rfl, hN0, rfl, rfl⟩ ?_
  clear R1 σ2 k0 hS0 hS1 hsh
  rintro i ρ t hi ⟨nm, k, s, acc, vv, hS, R1, hacc, hvn, hs2, hgo, rfl⟩
  have hbl : b.length ≤ 1000000 := by omega
  have hks := hS.isok
  obtain ⟨⟨hkl, hk0, hk1'⟩, _⟩ := hks
  refine T.seq_k (fun K_h2 h2 => ?_)
  by_cases hil : i < N
  case neg =>
    have e1 : decide ((i : Int) < (N : Int)) = false := decide_eq_false (by omega)
    refine T.seq_k (fun K_h0 h0 => ?_)
    refine T.regi hm ?_
    simp only [↓reduceIte, namesOf, List.any, I.names, aops, aopsI, aopsT, qstep, CPt, qget, Tbl.get, astep, ev, setd, List.set, List.getD, List.getElem?_cons_zero, List.getElem?_cons_succ, List.getElem?_nil, List.cons_append, List.nil_append, List.length_cons, List.length_nil, List.replicate, then_normal, inBlock_normal, Option.getD_some, Option.getD_none, Bool.or_false, Bool.or_true, Bool.true_or, Bool.false_or, Bool.false_eq_true, if_false, if_true, up_zero, Nat.reduceAdd, Nat.reduceSub, binv, ↓opt_def, AV.isAny, AV.cells, ldc, List.map_cons, List.map_nil, St.set_next, St.set_same, St.up_next, Int.natCast_nonneg, lt_len, le_len, Int.toNat_natCast, true_and, and_true, eq_self, reduceCtorEq, decide_true, List.length_singleton, er_int, er_bool, er_str, e1]
    refine h0 _ _ ?_
    try clear h0 K_h0
    refine T.cond rfl (fun h => by cases h) (fun _ => T.exit ?_)
    try simp only [↓reduceIte, namesOf, List.any, I.names, aops, aopsI, aopsT, qstep, CPt, qget, Tbl.get, astep, ev, setd, List.set, List.getD, List.getElem?_cons_zero, List.getElem?_cons_succ, List.getElem?_nil, List.cons_append, List.nil_append, List.length_cons, List.length_nil, List.replicate, then_normal, inBlock_normal, Option.getD_some, Option.getD_none, Bool.or_false, Bool.or_true, Bool.true_or, Bool.false_or, Bool.false_eq_true, if_false, if_true, up_zero, Nat.reduceAdd, Nat.reduceSub, binv, ↓opt_def, AV.isAny, AV.cells, ldc, List.map_cons, List.map_nil, St.set_next, St.set_same, St.up_next, Int.natCast_nonneg, lt_len, le_len, Int.toNat_natCast, true_and, and_true, eq_self, reduceCtorEq, decide_true, List.length_singleton, er_int, er_bool, er_str, inBlock_exit, then_exit]
    have hiN : N - i = 0 := by omega
    rw [hiN] at hgo
    have hgz : goR b 0 s acc = some (acc, s) := by unfold goR; rfl
    rw [hgz] at hgo
    have hp : getP b = endP b acc s := by rw [hget, hgo]; rfl
    refine h1 _ _ ?_
    try clear h1 K_h1
    have hpos := hS.pos
    have hsat : (((b.drop k).length : Nat) : Int) - ((sh k s).at_ : Int) = b.length - s.at_ := by unfold sh; rw [List.length_drop]; have := hS.len; simp only []; omega
    have hal : ∀ t ∈ acc, t.sp.length ≤ 9223372036854775807 := fun t ht => Nat.le_trans (goR_sp hbl (fun _ h => by cases h) hgo t ht) (by omega)
    have hN2 : acc.length ≤ 65536 := by omega
    have hno : (0 ≤ s.bad ∨ s.at_ < b.length ∨ 64 < acc.length ∨ isB acc = false) → G = (2, []) := fun h => by rw [hpg, hp]; unfold endP; rw [if_pos h]; rfl
    have hyes : ¬ (0 ≤ s.bad ∨ s.at_ < b.length ∨ 64 < acc.length ∨ isB acc = false) → G = (0, acc) := fun h => by rw [hpg, hp]; unfold endP; rw [if_neg h]; rfl
    refine T.seq_k (fun K_h1 h1 => ?_)
    refine T.seq_k (fun K_h3 h3 => ?_)
    refine T.regt hm (tbl := []) Tbl.ok_nil ?_
    refine aopsT_cut 2 (fun K_c h_c => ?_)
    try simp only [↓reduceIte, namesOf, List.any, I.names, aops, aopsI, aopsT, qstep, CPt, qget, Tbl.get, astep, ev, setd, List.set, List.getD, List.getElem?_cons_zero, List.getElem?_cons_succ, List.getElem?_nil, List.cons_append, List.nil_append, List.length_cons, List.length_nil, List.replicate, then_normal, inBlock_normal, Option.getD_some, Option.getD_none, Bool.or_false, Bool.or_true, Bool.true_or, Bool.false_or, Bool.false_eq_true, if_false, if_true, up_zero, Nat.reduceAdd, Nat.reduceSub, binv, ↓opt_def, AV.isAny, AV.cells, ldc, List.map_cons, List.map_nil, St.set_next, St.set_same, St.up_next, Int.natCast_nonneg, lt_len, le_len, Int.toNat_natCast, true_and, and_true, eq_self, reduceCtorEq, decide_true, List.length_singleton, er_int, er_bool, er_str, List.take_succ_cons, List.take_zero]
    refine (wbad_ok R1.at_).mono ?_
    rintro v t ⟨rfl, rfl⟩
    refine h_c _ _ ?_
    clear h_c K_c
    simp only [List.drop_succ_cons, List.drop_zero, Nat.zero_add, Nat.reduceAdd]
    by_cases hb0 : 0 ≤ s.bad
    · have e2 : decide ((sh k s).bad ≥ 0) = true := decide_eq_true (hpos.2 hb0)
      try simp only [↓reduceIte, namesOf, List.any, I.names, aops, aopsI, aopsT, qstep, CPt, qget, Tbl.get, astep, ev, setd, List.set, List.getD, List.getElem?_cons_zero, List.getElem?_cons_succ, List.getElem?_nil, List.cons_append, List.nil_append, List.length_cons, List.length_nil, List.replicate, then_normal, inBlock_normal, Option.getD_some, Option.getD_none, Bool.or_false, Bool.or_true, Bool.true_or, Bool.false_or, Bool.false_eq_true, if_false, if_true, up_zero, Nat.reduceAdd, Nat.reduceSub, binv, ↓opt_def, AV.isAny, AV.cells, ldc, List.map_cons, List.map_nil, St.set_next, St.set_same, St.up_next, Int.natCast_nonneg, lt_len, le_len, Int.toNat_natCast, true_and, and_true, eq_self, reduceCtorEq, decide_true, List.length_singleton, er_int, er_bool, er_str, up_zero, e2]
      refine h3 _ _ ?_
      try clear h3 K_h3
      refine T.cond rfl (fun _ => ?_) (fun h => by cases h)
      refine T.seq_k (fun K_h0 h0 => ?_)
      refine T.regi hm ?_
      simp only [↓reduceIte, namesOf, List.any, I.names, aops, aopsI, aopsT, qstep, CPt, qget, Tbl.get, astep, ev, setd, List.set, List.getD, List.getElem?_cons_zero, List.getElem?_cons_succ, List.getElem?_nil, List.cons_append, List.nil_append, List.length_cons, List.length_nil, List.replicate, then_normal, inBlock_normal, Option.getD_some, Option.getD_none, Bool.or_false, Bool.or_true, Bool.true_or, Bool.false_or, Bool.false_eq_true, if_false, if_true, up_zero, Nat.reduceAdd, Nat.reduceSub, binv, ↓opt_def, AV.isAny, AV.cells, ldc, List.map_cons, List.map_nil, St.set_next, St.set_same, St.up_next, Int.natCast_nonneg, lt_len, le_len, Int.toNat_natCast, true_and, and_true, eq_self, reduceCtorEq, decide_true, List.length_singleton, er_int, er_bool, er_str]
      refine h0 _ _ ?_
      try clear h0 K_h0
      exact T.ret (Fin.quietw rfl (Wk.tup2 (Wk.sl _ _)) ⟨⟨trivial, trivial⟩, trivial, trivial⟩ (R1.like.quiet wf) ⟨by rw [hno (.inl hb0)]; rfl, rfl⟩)
    have e2 : decide ((sh k s).bad ≥ 0) = false := decide_eq_false (fun h => hb0 (hpos.1 h))
    try simp only [↓reduceIte, namesOf, List.any, I.names, aops, aopsI, aopsT, qstep, CPt, qget, Tbl.get, astep, ev, setd, List.set, List.getD, List.getElem?_cons_zero, List.getElem?_cons_succ, List.getElem?_nil, List.cons_append, List.nil_append, List.length_cons, List.length_nil, List.replicate, then_normal, inBlock_normal, Option.getD_some, Option.getD_none, Bool.or_false, Bool.or_true, Bool.true_or, Bool.false_or, Bool.false_eq_true, if_false, if_true, up_zero, Nat.reduceAdd, Nat.reduceSub, binv, ↓opt_def, AV.isAny, AV.cells, ldc, List.map_cons, List.map_nil, St.set_next, St.set_same, St.up_next, Int.natCast_nonneg, lt_len, le_len, Int.toNat_natCast, true_and, and_true, eq_self, reduceCtorEq, decide_true, List.length_singleton, er_int, er_bool, er_str, up_zero, e2]
    refine (wleft_ok hkl hk0 hk1' R1.at_).mono ?_
    rintro v t ⟨rfl, rfl⟩
    rw [hsat]
    by_cases hlt : s.at_ < b.length
    · have e3 : decide ((b.length : Int) - s.at_ > 0) = true := decide_eq_true (by omega)
      try simp only [↓reduceIte, namesOf, List.any, I.names, aops, aopsI, aopsT, qstep, CPt, qget, Tbl.get, astep, ev, setd, List.set, List.getD, List.getElem?_cons_zero, List.getElem?_cons_succ, List.getElem?_nil, List.cons_append, List.nil_append, List.length_cons, List.length_nil, List.replicate, then_normal, inBlock_normal, Option.getD_some, Option.getD_none, Bool.or_false, Bool.or_true, Bool.true_or, Bool.false_or, Bool.false_eq_true, if_false, if_true, up_zero, Nat.reduceAdd, Nat.reduceSub, binv, ↓opt_def, AV.isAny, AV.cells, ldc, List.map_cons, List.map_nil, St.set_next, St.set_same, St.up_next, Int.natCast_nonneg, lt_len, le_len, Int.toNat_natCast, true_and, and_true, eq_self, reduceCtorEq, decide_true, List.length_singleton, er_int, er_bool, er_str, up_zero, e3]
      refine h3 _ _ ?_
      try clear h3 K_h3
      refine T.cond rfl (fun _ => ?_) (fun h => by cases h)
      refine T.seq_k (fun K_h0 h0 => ?_)
      refine T.regi hm ?_
      simp only [↓reduceIte, namesOf, List.any, I.names, aops, aopsI, aopsT, qstep, CPt, qget, Tbl.get, astep, ev, setd, List.set, List.getD, List.getElem?_cons_zero, List.getElem?_cons_succ, List.getElem?_nil, List.cons_append, List.nil_append, List.length_cons, List.length_nil, List.replicate, then_normal, inBlock_normal, Option.getD_some, Option.getD_none, Bool.or_false, Bool.or_true, Bool.true_or, Bool.false_or, Bool.false_eq_true, if_false, if_true, up_zero, Nat.reduceAdd, Nat.reduceSub, binv, ↓opt_def, AV.isAny, AV.cells, ldc, List.map_cons, List.map_nil, St.set_next, St.set_same, St.up_next, Int.natCast_nonneg, lt_len, le_len, Int.toNat_natCast, true_and, and_true, eq_self, reduceCtorEq, decide_true, List.length_singleton, er_int, er_bool, er_str]
      refine h0 _ _ ?_
      try clear h0 K_h0
      exact T.ret (Fin.quietw rfl (Wk.tup2 (Wk.sl _ _)) ⟨⟨trivial, trivial⟩, trivial, trivial⟩ (R1.like.quiet wf) ⟨by rw [hno (.inr (.inl hlt))]; rfl, rfl⟩)
    have e3 : decide ((b.length : Int) - s.at_ > 0) = false := decide_eq_false (by omega)
    by_cases h64 : 64 < acc.length
    · have e4 : decide ((acc.length : Int) > 64) = true := decide_eq_true (by omega)
      try simp only [↓reduceIte, namesOf, List.any, I.names, aops, aopsI, aopsT, qstep, CPt, qget, Tbl.get, astep, ev, setd, List.set, List.getD, List.getElem?_cons_zero, List.getElem?_cons_succ, List.getElem?_nil, List.cons_append, List.nil_append, List.length_cons, List.length_nil, List.replicate, then_normal, inBlock_normal, Option.getD_some, Option.getD_none, Bool.or_false, Bool.or_true, Bool.true_or, Bool.false_or, Bool.false_eq_true, if_false, if_true, up_zero, Nat.reduceAdd, Nat.reduceSub, binv, ↓opt_def, AV.isAny, AV.cells, ldc, List.map_cons, List.map_nil, St.set_next, St.set_same, St.up_next, Int.natCast_nonneg, lt_len, le_len, Int.toNat_natCast, true_and, and_true, eq_self, reduceCtorEq, decide_true, List.length_singleton, er_int, er_bool, er_str, up_zero, e3, tcs_len, e4]
      refine h3 _ _ ?_
      try clear h3 K_h3
      refine T.cond rfl (fun _ => ?_) (fun h => by cases h)
      refine T.seq_k (fun K_h0 h0 => ?_)
      refine T.regi hm ?_
      simp only [↓reduceIte, namesOf, List.any, I.names, aops, aopsI, aopsT, qstep, CPt, qget, Tbl.get, astep, ev, setd, List.set, List.getD, List.getElem?_cons_zero, List.getElem?_cons_succ, List.getElem?_nil, List.cons_append, List.nil_append, List.length_cons, List.length_nil, List.replicate, then_normal, inBlock_normal, Option.getD_some, Option.getD_none, Bool.or_false, Bool.or_true, Bool.true_or, Bool.false_or, Bool.false_eq_true, if_false, if_true, up_zero, Nat.reduceAdd, Nat.reduceSub, binv, ↓opt_def, AV.isAny, AV.cells, ldc, List.map_cons, List.map_nil, St.set_next, St.set_same, St.up_next, Int.natCast_nonneg, lt_len, le_len, Int.toNat_natCast, true_and, and_true, eq_self, reduceCtorEq, decide_true, List.length_singleton, er_int, er_bool, er_str]
      refine h0 _ _ ?_
      try clear h0 K_h0
      exact T.ret (Fin.quietw rfl (Wk.tup2 (Wk.sl _ _)) ⟨⟨trivial, trivial⟩, trivial, trivial⟩ (R1.like.quiet wf) ⟨by rw [hno (.inr (.inr (.inl h64)))]; rfl, rfl⟩)
    have e4 : decide ((acc.length : Int) > 64) = false := decide_eq_false (by omega)
    try simp only [↓reduceIte, namesOf, List.any, I.names, aops, aopsI, aopsT, qstep, CPt, qget, Tbl.get, astep, ev, setd, List.set, List.getD, List.getElem?_cons_zero, List.getElem?_cons_succ, List.getElem?_nil, List.cons_append, List.nil_append, List.length_cons, List.length_nil, List.replicate, then_normal, inBlock_normal, Option.getD_some, Option.getD_none, Bool.or_false, Bool.or_true, Bool.true_or, Bool.false_or, Bool.false_eq_true, if_false, if_true, up_zero, Nat.reduceAdd, Nat.reduceSub, binv, ↓opt_def, AV.isAny, AV.cells, ldc, List.map_cons, List.map_nil, St.set_next, St.set_same, St.up_next, Int.natCast_nonneg, lt_len, le_len, Int.toNat_natCast, true_and, and_true, eq_self, reduceCtorEq, decide_true, List.length_singleton, er_int, er_bool, er_str, up_zero, e3, tcs_len, e4]
    refine (is_ok (by omega) hal).mono ?_
    rintro v t ⟨rfl, rfl⟩
    cases his : isB acc with
    | false =>
      try simp only [↓reduceIte, namesOf, List.any, I.names, aops, aopsI, aopsT, qstep, CPt, qget, Tbl.get, astep, ev, setd, List.set, List.getD, List.getElem?_cons_zero, List.getElem?_cons_succ, List.getElem?_nil, List.cons_append, List.nil_append, List.length_cons, List.length_nil, List.replicate, then_normal, inBlock_normal, Option.getD_some, Option.getD_none, Bool.or_false, Bool.or_true, Bool.true_or, Bool.false_or, Bool.false_eq_true, if_false, if_true, up_zero, Nat.reduceAdd, Nat.reduceSub, binv, ↓opt_def, AV.isAny, AV.cells, ldc, List.map_cons, List.map_nil, St.set_next, St.set_same, St.up_next, Int.natCast_nonneg, lt_len, le_len, Int.toNat_natCast, true_and, and_true, eq_self, reduceCtorEq, decide_true, List.length_singleton, er_int, er_bool, er_str, up_zero, Bool.not_false]
      refine h3 _ _ ?_
      try clear h3 K_h3
      refine T.cond rfl (fun _ => ?_) (fun h => by cases h)
      refine T.seq_k (fun K_h0 h0 => ?_)
      refine T.regi hm ?_
      simp only [↓reduceIte, namesOf, List.any, I.names, aops, aopsI, aopsT, qstep, CPt, qget, Tbl.get, astep, ev, setd, List.set, List.getD, List.getElem?_cons_zero, List.getElem?_cons_succ, List.getElem?_nil, List.cons_append, List.nil_append, List.length_cons, List.length_nil, List.replicate, then_normal, inBlock_normal, Option.getD_some, Option.getD_none, Bool.or_false, Bool.or_true, Bool.true_or, Bool.false_or, Bool.false_eq_true, if_false, if_true, up_zero, Nat.reduceAdd, Nat.reduceSub, binv, ↓opt_def, AV.isAny, AV.cells, ldc, List.map_cons, List.map_nil, St.set_next, St.set_same, St.up_next, Int.natCast_nonneg, lt_len, le_len, Int.toNat_natCast, true_and, and_true, eq_self, reduceCtorEq, decide_true, List.length_singleton, er_int, er_bool, er_str]
      refine h0 _ _ ?_
      try clear h0 K_h0
      exact T.ret (Fin.quietw rfl (Wk.tup2 (Wk.sl _ _)) ⟨⟨trivial, trivial⟩, trivial, trivial⟩ (R1.like.quiet wf) ⟨by rw [hno (.inr (.inr (.inr his)))]; rfl, rfl⟩)
    | true =>
      try simp only [↓reduceIte, namesOf, List.any, I.names, aops, aopsI, aopsT, qstep, CPt, qget, Tbl.get, astep, ev, setd, List.set, List.getD, List.getElem?_cons_zero, List.getElem?_cons_succ, List.getElem?_nil, List.cons_append, List.nil_append, List.length_cons, List.length_nil, List.replicate, then_normal, inBlock_normal, Option.getD_some, Option.getD_none, Bool.or_false, Bool.or_true, Bool.true_or, Bool.false_or, Bool.false_eq_true, if_false, if_true, up_zero, Nat.reduceAdd, Nat.reduceSub, binv, ↓opt_def, AV.isAny, AV.cells, ldc, List.map_cons, List.map_nil, St.set_next, St.set_same, St.up_next, Int.natCast_nonneg, lt_len, le_len, Int.toNat_natCast, true_and, and_true, eq_self, reduceCtorEq, decide_true, List.length_singleton, er_int, er_bool, er_str, up_zero, Bool.not_true]
      refine h3 _ _ ?_
      try clear h3 K_h3
      refine T.cond rfl (fun h => by cases h) (fun _ => T.skip ?_)
      refine h1 _ _ ?_
      try clear h1 K_h1
      refine T.seq_k (fun K_h0 h0 => ?_)
      refine T.regi hm ?_
      simp only [↓reduceIte, namesOf, List.any, I.names, aops, aopsI, aopsT, qstep, CPt, qget, Tbl.get, astep, ev, setd, List.set, List.getD, List.getElem?_cons_zero, List.getElem?_cons_succ, List.getElem?_nil, List.cons_append, List.nil_append, List.length_cons, List.length_nil, List.replicate, then_normal, inBlock_normal, Option.getD_some, Option.getD_none, Bool.or_false, Bool.or_true, Bool.true_or, Bool.false_or, Bool.false_eq_true, if_false, if_true, up_zero, Nat.reduceAdd, Nat.reduceSub, binv, ↓opt_def, AV.isAny, AV.cells, ldc, List.map_cons, List.map_nil, St.set_next, St.set_same, St.up_next, Int.natCast_nonneg, lt_len, le_len, Int.toNat_natCast, true_and, and_true, eq_self, reduceCtorEq, decide_true, List.length_singleton, er_int, er_bool, er_str]
      refine h0 _ _ ?_
      try clear h0 K_h0
      exact T.ret (Fin.quietw rfl (Wk.tup2 (Wk.sl _ _)) ⟨⟨nbs_tcs _ _, trivial⟩, trivial, trivial⟩ (R1.like.quiet wf) ⟨by rw [hyes (by rw [his]; rintro (h | h | h | h); exact hb0 h; exact hlt h; exact h64 h; cases h)]; rfl, rfl⟩)
  have e1 : decide ((i : Int) < (N : Int)) = true := decide_eq_true (by omega)
  have hbd : ¬ 0 ≤ s.bad := fun h => by have := hs2 h; omega
  have hbm : s.bad = -1 := hS.ok.2.resolve_right hbd
  refine T.seq_k (fun K_h3 h3 => ?_)
  refine T.regi hm ?_
  simp only [↓reduceIte, namesOf, List.any, I.names, aops, aopsI, aopsT, qstep, CPt, qget, Tbl.get, astep, ev, setd, List.set, List.getD, List.getElem?_cons_zero, List.getElem?_cons_succ, List.getElem?_nil, List.cons_append, List.nil_append, List.length_cons, List.length_nil, List.replicate, then_normal, inBlock_normal, Option.getD_some, Option.getD_none, Bool.or_false, Bool.or_true, Bool.true_or, Bool.false_or, Bool.false_eq_true, if_false, if_true, up_zero, Nat.reduceAdd, Nat.reduceSub, binv, ↓opt_def, AV.isAny, AV.cells, ldc, List.map_cons, List.map_nil, St.set_next, St.set_same, St.up_next, Int.natCast_nonneg, lt_len, le_len, Int.toNat_natCast, true_and, and_true, eq_self, reduceCtorEq, decide_true, List.length_singleton, er_int, er_bool, er_str, e1]
  refine (wbad_ok R1.at_).mono ?_
  rintro v t ⟨rfl, rfl⟩
  have e2 : decide ((sh k s).bad < 0) = true := decide_eq_true (by have := hS.pos; omega)
  try simp only [↓reduceIte, namesOf, List.any, I.names, aops, aopsI, aopsT, qstep, CPt, qget, Tbl.get, astep, ev, setd, List.set, List.getD, List.getElem?_cons_zero, List.getElem?_cons_succ, List.getElem?_nil, List.cons_append, List.nil_append, List.length_cons, List.length_nil, List.replicate, then_normal, inBlock_normal, Option.getD_some, Option.getD_none, Bool.or_false, Bool.or_true, Bool.true_or, Bool.false_or, Bool.false_eq_true, if_false, if_true, up_zero, Nat.reduceAdd, Nat.reduceSub, binv, ↓opt_def, AV.isAny, AV.cells, ldc, List.map_cons, List.map_nil, St.set_next, St.set_same, St.up_next, Int.natCast_nonneg, lt_len, le_len, Int.toNat_natCast, true_and, and_true, eq_self, reduceCtorEq, decide_true, List.length_singleton, er_int, er_bool, er_str, up_zero, e2]
  refine h3 _ _ ?_
  try clear h3 K_h3
  refine T.cond rfl (fun _ => T.skip ?_) (fun h => by cases h)
  refine h2 _ _ ?_
  try clear h2 K_h2
  clear h1
  obtain ⟨n, hn⟩ : ∃ n, N - i = n + 1 := ⟨N - i - 1, by omega⟩
  have hn' : N - (i + 1) = n := by omega
  rw [hn] at hgo
  have hiw := inc64' hil (by omega)
  obtain ⟨q1, hS1⟩ := hS.rn 8
  have q2 := hS.rw 8
  obtain ⟨q3, hS2⟩ := hS1.rn 4
  have q4 := hS1.rw 4
  have hM := rW_lt (w := 4) hS1.ok
  have eI : hdI b s = rW b s 8 := rfl
  have eM : hdM b s = rW b (rN b s 8) 4 := rfl
  have eN : hdN b s = rN b (rN b s 8) 4 := rfl
  have hI8 := rW_lt (w := 8) hS.ok
  rw [← eI] at q2 hI8
  rw [← eM] at q4 hM
  rw [← eN] at q3 hS2
  have hgb := @goR_bad b n s acc
  have hgn := @goR_no b n s acc
  have hgg := @goR_go b n s acc
  rw [← hgo] at hgb hgn hgg
  rw [← hn'] at hgg
  generalize hdI b s = id at q2 hI8 hgg
  generalize hdM b s = m at q4 hM hgb hgn hgg
  generalize hdN b s = s2 at q3 hS2 hgb hgn hgg
  clear eI eM eN
  refine T.seq_k (fun K_h2 h2 => ?_)
  refine T.block ?_
  refine T.seq_k (fun K_h3 h3 => ?_)
  refine T.regi hm ?_
  simp only [↓reduceIte, namesOf, List.any, I.names, aops, aopsI, aopsT, qstep, CPt, qget, Tbl.get, astep, ev, setd, List.set, List.getD, List.getElem?_cons_zero, List.getElem?_cons_succ, List.getElem?_nil, List.cons_append, List.nil_append, List.length_cons, List.length_nil, List.replicate, then_normal, inBlock_normal, Option.getD_some, Option.getD_none, Bool.or_false, Bool.or_true, Bool.true_or, Bool.false_or, Bool.false_eq_true, if_false, if_true, up_zero, Nat.reduceAdd, Nat.reduceSub, binv, ↓opt_def, AV.isAny, AV.cells, ldc, List.map_cons, List.map_nil, St.set_next, St.set_same, St.up_next, Int.natCast_nonneg, lt_len, le_len, Int.toNat_natCast, true_and, and_true, eq_self, reduceCtorEq, decide_true, List.length_singleton, er_int, er_bool, er_str]
  refine (wwordF hS.isok rfl (R1.up 5).at_).mono ?_
  rintro v u ⟨rfl, rfl⟩
  rw [q1, q2]
  generalize rN b s 8 = s1 at q1 hS1 q3 q4 ⊢
  try simp only [↓reduceIte, namesOf, List.any, I.names, aops, aopsI, aopsT, qstep, CPt, qget, Tbl.get, astep, ev, setd, List.set, List.getD, List.getElem?_cons_zero, List.getElem?_cons_succ, List.getElem?_nil, List.cons_append, List.nil_append, List.length_cons, List.length_nil, List.replicate, then_normal, inBlock_normal, Option.getD_some, Option.getD_none, Bool.or_false, Bool.or_true, Bool.true_or, Bool.false_or, Bool.false_eq_true, if_false, if_true, up_zero, Nat.reduceAdd, Nat.reduceSub, binv, ↓opt_def, AV.isAny, AV.cells, ldc, List.map_cons, List.map_nil, St.set_next, St.set_same, St.up_next, Int.natCast_nonneg, lt_len, le_len, Int.toNat_natCast, true_and, and_true, eq_self, reduceCtorEq, decide_true, List.length_singleton, er_int, er_bool, er_str, fillA, Option.map, AV.fits, AV.one, List.all_cons, List.all_nil, Nat.reduceBEq, Bool.and_true, Bool.not_false, Bool.and_self, Nat.zero_add, splice, List.take, List.drop, Nat.reduceLeDiff, St.set_set]
  have hsn := R1.like.next
  have hnm := R1.hi
  have RA := ((R1.up 5).set (rdS (b.drop k) .none (sh k s1))).new (a := t.next + 3) (.obj [.int .u64 (id : Int), .sl [] .nil]) (by omega) (by omega) (fun g hg => by have := R1.lt hg; omega)
  have hA : (((t.up 5).set nm (rdS (b.drop k) .none (sh k s1))).set (t.next + 3) (.obj [.int .u64 (id : Int), .sl [] .nil])).res (t.next + 3) = some (.obj [.int .u64 (id : Int), .sl [] .nil]) := by simp
  have ha0 : σ.next ≤ t.next + 3 := by omega
  have ha1 : t.next + 3 < (((t.up 5).set nm (rdS (b.drop k) .none (sh k s1))).set (t.next + 3) (.obj [.int .u64 (id : Int), .sl [] .nil])).next := by simp
  have ha2 : t.next + 3 ≠ nm := by omega
  have ha3 : ∀ g, vv = .tip g → t.next + 3 ≠ g := fun g hg => by have := R1.lt hg; omega
  generalize (((t.up 5).set nm (rdS (b.drop k) .none (sh k s1))).set (t.next + 3) (.obj [.int .u64 (id : Int), .sl [] .nil])) = uA at RA hA ha1 ⊢
  generalize t.next + 3 = a at hA ha0 ha1 ha2 ha3 ⊢
  clear R1 hsn hnm
  refine h3 _ _ ?_
  try clear h3 K_h3
  have eM : IntKind.i64.wrap (m : Int) = (m : Int) := wrap64 (by omega) (by omega)
  refine T.seq_k (fun K_h3 h3 => ?_)
  refine T.regi hm ?_
  simp only [↓reduceIte, namesOf, List.any, I.names, aops, aopsI, aopsT, qstep, CPt, qget, Tbl.get, astep, ev, setd, List.set, List.getD, List.getElem?_cons_zero, List.getElem?_cons_succ, List.getElem?_nil, List.cons_append, List.nil_append, List.length_cons, List.length_nil, List.replicate, then_normal, inBlock_normal, Option.getD_some, Option.getD_none, Bool.or_false, Bool.or_true, Bool.true_or, Bool.false_or, Bool.false_eq_true, if_false, if_true, up_zero, Nat.reduceAdd, Nat.reduceSub, binv, ↓opt_def, AV.isAny, AV.cells, ldc, List.map_cons, List.map_nil, St.set_next, St.set_same, St.up_next, Int.natCast_nonneg, lt_len, le_len, Int.toNat_natCast, true_and, and_true, eq_self, reduceCtorEq, decide_true, List.length_singleton, er_int, er_bool, er_str]
  refine (wwordF hS1.isok rfl RA.at_).mono ?_
  rintro v u ⟨rfl, rfl⟩
  rw [q3, q4]
  have RB := RA.set (rdS (b.drop k) .none (sh k s2))
  have hB : (uA.set nm (rdS (b.drop k) .none (sh k s2))).res a = _ := (St.set_other _ _ ha2).trans hA
  have hBn : a < (uA.set nm (rdS (b.drop k) .none (sh k s2))).next := ha1
  generalize (uA.set nm (rdS (b.drop k) .none (sh k s2))) = uB at RB hB hBn ⊢
  clear RA hA ha1 q1 q2 q3 q4
  try simp only [↓reduceIte, namesOf, List.any, I.names, aops, aopsI, aopsT, qstep, CPt, qget, Tbl.get, astep, ev, setd, List.set, List.getD, List.getElem?_cons_zero, List.getElem?_cons_succ, List.getElem?_nil, List.cons_append, List.nil_append, List.length_cons, List.length_nil, List.replicate, then_normal, inBlock_normal, Option.getD_some, Option.getD_none, Bool.or_false, Bool.or_true, Bool.true_or, Bool.false_or, Bool.false_eq_true, if_false, if_true, up_zero, Nat.reduceAdd, Nat.reduceSub, binv, ↓opt_def, AV.isAny, AV.cells, ldc, List.map_cons, List.map_nil, St.set_next, St.set_same, St.up_next, Int.natCast_nonneg, lt_len, le_len, Int.toNat_natCast, true_and, and_true, eq_self, reduceCtorEq, decide_true, List.length_singleton, er_int, er_bool, er_str, up_zero, eM]
  refine h3 _ _ ?_
  try clear h3 K_h3
  -- may it be so long?
  obtain ⟨⟨z1, z2, z3⟩, z4⟩ := hS2.isok
  have hlk : (((b.drop k).length : Nat) : Int) = b.length - k := by rw [List.length_drop]; have := hS2.len; omega
  have hat : (sh k s2).at_ = s2.at_ - k := rfl
  have hpos2 := hS2.pos
  have hG2 : (0 ≤ s2.bad ∨ (b.length : Int) < s2.at_ + m) → G = (2, []) := fun h => by rw [hpg, hget, hgb h]; rfl
  refine T.seq_k (fun K_h3 h3 => ?_)
  refine T.seq_k (fun K_h4 h4 => ?_)
  refine T.regi hm ?_
  simp only [↓reduceIte, namesOf, List.any, I.names, aops, aopsI, aopsT, qstep, CPt, qget, Tbl.get, astep, ev, setd, List.set, List.getD, List.getElem?_cons_zero, List.getElem?_cons_succ, List.getElem?_nil, List.cons_append, List.nil_append, List.length_cons, List.length_nil, List.replicate, then_normal, inBlock_normal, Option.getD_some, Option.getD_none, Bool.or_false, Bool.or_true, Bool.true_or, Bool.false_or, Bool.false_eq_true, if_false, if_true, up_zero, Nat.reduceAdd, Nat.reduceSub, binv, ↓opt_def, AV.isAny, AV.cells, ldc, List.map_cons, List.map_nil, St.set_next, St.set_same, St.up_next, Int.natCast_nonneg, lt_len, le_len, Int.toNat_natCast, true_and, and_true, eq_self, reduceCtorEq, decide_true, List.length_singleton, er_int, er_bool, er_str]
  refine (wbad_ok RB.at_).mono ?_
  rintro v u ⟨rfl, rfl⟩
  by_cases hb2 : 0 ≤ s2.bad
  · have e3 : decide ((sh k s2).bad ≥ 0) = true := decide_eq_true (hpos2.2 hb2)
    have hG := hG2 (.inl hb2)
    try simp only [↓reduceIte, namesOf, List.any, I.names, aops, aopsI, aopsT, qstep, CPt, qget, Tbl.get, astep, ev, setd, List.set, List.getD, List.getElem?_cons_zero, List.getElem?_cons_succ, List.getElem?_nil, List.cons_append, List.nil_append, List.length_cons, List.length_nil, List.replicate, then_normal, inBlock_normal, Option.getD_some, Option.getD_none, Bool.or_false, Bool.or_true, Bool.true_or, Bool.false_or, Bool.false_eq_true, if_false, if_true, up_zero, Nat.reduceAdd, Nat.reduceSub, binv, ↓opt_def, AV.isAny, AV.cells, ldc, List.map_cons, List.map_nil, St.set_next, St.set_same, St.up_next, Int.natCast_nonneg, lt_len, le_len, Int.toNat_natCast, true_and, and_true, eq_self, reduceCtorEq, decide_true, List.length_singleton, er_int, er_bool, er_str, up_zero, e3]
    refine h4 _ _ ?_
    try clear h4 K_h4
    refine T.cond rfl (fun _ => ?_) (fun h => by cases h)
    refine T.seq_k (fun K_h0 h0 => ?_)
    refine T.regi hm ?_
    simp only [↓reduceIte, namesOf, List.any, I.names, aops, aopsI, aopsT, qstep, CPt, qget, Tbl.get, astep, ev, setd, List.set, List.getD, List.getElem?_cons_zero, List.getElem?_cons_succ, List.getElem?_nil, List.cons_append, List.nil_append, List.length_cons, List.length_nil, List.replicate, then_normal, inBlock_normal, Option.getD_some, Option.getD_none, Bool.or_false, Bool.or_true, Bool.true_or, Bool.false_or, Bool.false_eq_true, if_false, if_true, up_zero, Nat.reduceAdd, Nat.reduceSub, binv, ↓opt_def, AV.isAny, AV.cells, ldc, List.map_cons, List.map_nil, St.set_next, St.set_same, St.up_next, Int.natCast_nonneg, lt_len, le_len, Int.toNat_natCast, true_and, and_true, eq_self, reduceCtorEq, decide_true, List.length_singleton, er_int, er_bool, er_str]
    refine h0 _ _ ?_
    try clear h0 K_h0
    exact T.ret (Fin.quietw rfl (Wk.tup2 (Wk.sl _ _)) ⟨⟨trivial, trivial⟩, trivial, trivial⟩ (RB.like.quiet wf) ⟨by rw [hG]; rfl, rfl⟩)
  have e3 : decide ((sh k s2).bad ≥ 0) = false := decide_eq_false (fun h => hb2 (hpos2.1 h))
  try simp only [↓reduceIte, namesOf, List.any, I.names, aops, aopsI, aopsT, qstep, CPt, qget, Tbl.get, astep, ev, setd, List.set, List.getD, List.getElem?_cons_zero, List.getElem?_cons_succ, List.getElem?_nil, List.cons_append, List.nil_append, List.length_cons, List.length_nil, List.replicate, then_normal, inBlock_normal, Option.getD_some, Option.getD_none, Bool.or_false, Bool.or_true, Bool.true_or, Bool.false_or, Bool.false_eq_true, if_false, if_true, up_zero, Nat.reduceAdd, Nat.reduceSub, binv, ↓opt_def, AV.isAny, AV.cells, ldc, List.map_cons, List.map_nil, St.set_next, St.set_same, St.up_next, Int.natCast_nonneg, lt_len, le_len, Int.toNat_natCast, true_and, and_true, eq_self, reduceCtorEq, decide_true, List.length_singleton, er_int, er_bool, er_str, up_zero, e3]
  refine (wleft_ok z1 z2 z3 RB.at_).mono ?_
  rintro v u ⟨rfl, rfl⟩
  by_cases hm2 : (b.length : Int) < s2.at_ + m
  · have e4 : decide ((m : Int) > ((b.drop k).length : Int) - (sh k s2).at_) = true := decide_eq_true (by rw [hlk, hat]; omega)
    have hG := hG2 (.inr hm2)
    try simp only [↓reduceIte, namesOf, List.any, I.names, aops, aopsI, aopsT, qstep, CPt, qget, Tbl.get, astep, ev, setd, List.set, List.getD, List.getElem?_cons_zero, List.getElem?_cons_succ, List.getElem?_nil, List.cons_append, List.nil_append, List.length_cons, List.length_nil, List.replicate, then_normal, inBlock_normal, Option.getD_some, Option.getD_none, Bool.or_false, Bool.or_true, Bool.true_or, Bool.false_or, Bool.false_eq_true, if_false, if_true, up_zero, Nat.reduceAdd, Nat.reduceSub, binv, ↓opt_def, AV.isAny, AV.cells, ldc, List.map_cons, List.map_nil, St.set_next, St.set_same, St.up_next, Int.natCast_nonneg, lt_len, le_len, Int.toNat_natCast, true_and, and_true, eq_self, reduceCtorEq, decide_true, List.length_singleton, er_int, er_bool, er_str, up_zero, e4]
    refine h4 _ _ ?_
    try clear h4 K_h4
    refine T.cond rfl (fun _ => ?_) (fun h => by cases h)
    refine T.seq_k (fun K_h0 h0 => ?_)
    refine T.regi hm ?_
    simp only [↓reduceIte, namesOf, List.any, I.names, aops, aopsI, aopsT, qstep, CPt, qget, Tbl.get, astep, ev, setd, List.set, List.getD, List.getElem?_cons_zero, List.getElem?_cons_succ, List.getElem?_nil, List.cons_append, List.nil_append, List.length_cons, List.length_nil, List.replicate, then_normal, inBlock_normal, Option.getD_some, Option.getD_none, Bool.or_false, Bool.or_true, Bool.true_or, Bool.false_or, Bool.false_eq_true, if_false, if_true, up_zero, Nat.reduceAdd, Nat.reduceSub, binv, ↓opt_def, AV.isAny, AV.cells, ldc, List.map_cons, List.map_nil, St.set_next, St.set_same, St.up_next, Int.natCast_nonneg, lt_len, le_len, Int.toNat_natCast, true_and, and_true, eq_self, reduceCtorEq, decide_true, List.length_singleton, er_int, er_bool, er_str]
    refine h0 _ _ ?_
    try clear h0 K_h0
    exact T.ret (Fin.quietw rfl (Wk.tup2 (Wk.sl _ _)) ⟨⟨trivial, trivial⟩, trivial, trivial⟩ (RB.like.quiet wf) ⟨by rw [hG]; rfl, rfl⟩)
  have e4 : decide ((m : Int) > ((b.drop k).length : Int) - (sh k s2).at_) = false := decide_eq_false (by rw [hlk, hat]; omega)
  try simp only [↓reduceIte, namesOf, List.any, I.names, aops, aopsI, aopsT, qstep, CPt, qget, Tbl.get, astep, ev, setd, List.set, List.getD, List.getElem?_cons_zero, List.getElem?_cons_succ, List.getElem?_nil, List.cons_append, List.nil_append, List.length_cons, List.length_nil, List.replicate, then_normal, inBlock_normal, Option.getD_some, Option.getD_none, Bool.or_false, Bool.or_true, Bool.true_or, Bool.false_or, Bool.false_eq_true, if_false, if_true, up_zero, Nat.reduceAdd, Nat.reduceSub, binv, ↓opt_def, AV.isAny, AV.cells, ldc, List.map_cons, List.map_nil, St.set_next, St.set_same, St.up_next, Int.natCast_nonneg, lt_len, le_len, Int.toNat_natCast, true_and, and_true, eq_self, reduceCtorEq, decide_true, List.length_singleton, er_int, er_bool, er_str, up_zero, e4]
  refine h4 _ _ ?_
  try clear h4 K_h4
  refine T.cond rfl (fun h => by cases h) (fun _ => T.skip ?_)
  refine h3 _ _ ?_
  try clear h3 K_h3
  clear hgb hG2
  have hno : ¬ (0 ≤ s2.bad ∨ (b.length : Int) < s2.at_ + m) := fun h => h.elim hb2 hm2
  have hgn := hgn hno
  have hgg := hgg hno
  -- where it begins
  have e5 : IntKind.i64.wrap (((b.drop k).length : Int) - (((b.drop k).length : Int) - (sh k s2).at_)) = (sh k s2).at_ := by rw [wrap64 (by omega) (by omega)]; omega
  refine T.seq_k (fun K_h3 h3 => ?_)
  refine T.regi hm ?_
  simp only [↓reduceIte, namesOf, List.any, I.names, aops, aopsI, aopsT, qstep, CPt, qget, Tbl.get, astep, ev, setd, List.set, List.getD, List.getElem?_cons_zero, List.getElem?_cons_succ, List.getElem?_nil, List.cons_append, List.nil_append, List.length_cons, List.length_nil, List.replicate, then_normal, inBlock_normal, Option.getD_some, Option.getD_none, Bool.or_false, Bool.or_true, Bool.true_or, Bool.false_or, Bool.false_eq_true, if_false, if_true, up_zero, Nat.reduceAdd, Nat.reduceSub, binv, ↓opt_def, AV.isAny, AV.cells, ldc, List.map_cons, List.map_nil, St.set_next, St.set_same, St.up_next, Int.natCast_nonneg, lt_len, le_len, Int.toNat_natCast, true_and, and_true, eq_self, reduceCtorEq, decide_true, List.length_singleton, er_int, er_bool, er_str, bytesAV_len]
  refine (wleft_ok z1 z2 z3 RB.at_).mono ?_
  rintro v u ⟨rfl, rfl⟩
  try simp only [↓reduceIte, namesOf, List.any, I.names, aops, aopsI, aopsT, qstep, CPt, qget, Tbl.get, astep, ev, setd, List.set, List.getD, List.getElem?_cons_zero, List.getElem?_cons_succ, List.getElem?_nil, List.cons_append, List.nil_append, List.length_cons, List.length_nil, List.replicate, then_normal, inBlock_normal, Option.getD_some, Option.getD_none, Bool.or_false, Bool.or_true, Bool.true_or, Bool.false_or, Bool.false_eq_true, if_false, if_true, up_zero, Nat.reduceAdd, Nat.reduceSub, binv, ↓opt_def, AV.isAny, AV.cells, ldc, List.map_cons, List.map_nil, St.set_next, St.set_same, St.up_next, Int.natCast_nonneg, lt_len, le_len, Int.toNat_natCast, true_and, and_true, eq_self, reduceCtorEq, decide_true, List.length_singleton, er_int, er_bool, er_str, up_zero, e5]
  refine h3 _ _ ?_
  try clear h3 K_h3
  -- its spans
  obtain ⟨p, hp⟩ : ∃ p : Nat, s2.at_ = (p : Int) := ⟨s2.at_.toNat, by have := hS2.lo; omega⟩
  obtain ⟨d, hd⟩ : ∃ d : Nat, p = k + d := ⟨p - k, by have := hS2.lo; omega⟩
  have hatd : (sh k s2).at_ = (d : Int) := by rw [hat, hp]; omega
  rw [hatd]
  have hspn : spN b s2 m = ((b.drop k).drop d).take m := by unfold spN; rw [List.drop_drop, hp, Int.toNat_natCast, hd]
  have hrest : (b.drop k).drop (d + m) = b.drop (p + m) := by rw [List.drop_drop, hd]; congr 1; omega
  have hdm : d + m ≤ (b.drop k).length := by omega
  have e6 : IntKind.i64.wrap ((d : Int) + (m : Int)) = ((d + m : Nat) : Int) := by rw [wrap64 (by omega) (by omega)]; rfl
  have e7 : (0 : Int) ≤ (d : Int) ∧ (d : Int) ≤ ((d + m : Nat) : Int) ∧ ((d + m : Nat) : Int) ≤ (((bytesAV (b.drop k)).length : Nat) : Int) ∧ ((bytesAV (b.drop k)).all (AV.fits 1)) = true :=
    ⟨by omega, by omega, by rw [bytesAV_len]; omega, bytes_all _⟩
  have e8 : (((bytesAV (b.drop k)).drop (d : Int).toNat).take (((d + m : Nat) : Int) - (d : Int)).toNat) = bytesAV (spN b s2 m) := by
    rw [hspn, Int.toNat_natCast, show (((d + m : Nat) : Int) - (d : Int)).toNat = m by omega, bytes_drop, bytes_take]
  have hspl : (spN b s2 m).length ≤ 1000000 := by rw [hspn, List.length_take, List.length_drop, List.length_drop]; omega
  clear hspn
  generalize spN b s2 m = sp at e8 hspl hgn hgg
  generalize hdm' : ((d + m : Nat) : Int) = dm at e6 e7 e8
  generalize hd' : (d : Int) = di at e6 e7 e8 ⊢
  refine T.seq_k (fun K_h3 h3 => ?_)
  refine T.regi hm ?_
  simp only [↓reduceIte, namesOf, List.any, I.names, aops, aopsI, aopsT, qstep, CPt, qget, Tbl.get, astep, ev, setd, List.set, List.getD, List.getElem?_cons_zero, List.getElem?_cons_succ, List.getElem?_nil, List.cons_append, List.nil_append, List.length_cons, List.length_nil, List.replicate, then_normal, inBlock_normal, Option.getD_some, Option.getD_none, Bool.or_false, Bool.or_true, Bool.true_or, Bool.false_or, Bool.false_eq_true, if_false, if_true, up_zero, Nat.reduceAdd, Nat.reduceSub, binv, ↓opt_def, AV.isAny, AV.cells, ldc, List.map_cons, List.map_nil, St.set_next, St.set_same, St.up_next, Int.natCast_nonneg, lt_len, le_len, Int.toNat_natCast, true_and, and_true, eq_self, reduceCtorEq, decide_true, List.length_singleton, er_int, er_bool, er_str, idx, e6, e7, e8, ite_self, and_self]
  refine (spget_ok hspl).mono ?_
  rintro v uC hv
  have hcase : ∃ er t14, v = .tup [.sl (spsAV er) .none, t14] ∧ Like u uC ∧ (0 ≤ (getS sp).1 → ∃ q, t14 = .iface tSpot q) ∧ (¬ 0 ≤ (getS sp).1 → t14 = .nili ∧ er = (getS sp).2) := by
    rcases hv with ⟨g1, rfl, rfl⟩ | ⟨g1, q, rfl, _, _, _, hl⟩
    · exact ⟨_, _, rfl, .refl _, fun h => by omega, fun _ => ⟨rfl, rfl⟩⟩
    · exact ⟨[], _, rfl, hl, fun _ => ⟨_, rfl⟩, fun h => absurd g1 h⟩
  clear hv
  obtain ⟨er, t14, rfl, hlk2, hy, hn2⟩ := hcase
  have RC := RB.liked hlk2
  have hC : uC.res a = some (.obj [.int .u64 (id : Int), .sl [] .nil]) := (hlk2.same a hBn).trans hB
  have hCn : a < uC.next := Nat.lt_of_lt_of_le hBn hlk2.next
  clear RB hB hBn hlk2
  try simp only [↓reduceIte, namesOf, List.any, I.names, aops, aopsI, aopsT, qstep, CPt, qget, Tbl.get, astep, ev, setd, List.set, List.getD, List.getElem?_cons_zero, List.getElem?_cons_succ, List.getElem?_nil, List.cons_append, List.nil_append, List.length_cons, List.length_nil, List.replicate, then_normal, inBlock_normal, Option.getD_some, Option.getD_none, Bool.or_false, Bool.or_true, Bool.true_or, Bool.false_or, Bool.false_eq_true, if_false, if_true, up_zero, Nat.reduceAdd, Nat.reduceSub, binv, ↓opt_def, AV.isAny, AV.cells, ldc, List.map_cons, List.map_nil, St.set_next, St.set_same, St.up_next, Int.natCast_nonneg, lt_len, le_len, Int.toNat_natCast, true_and, and_true, eq_self, reduceCtorEq, decide_true, List.length_singleton, er_int, er_bool, er_str, ]
  refine h3 _ _ ?_
  try clear h3 K_h3
  refine T.seq_k (fun K_h3 h3 => ?_)
  by_cases hg : 0 ≤ (getS sp).1
  · obtain ⟨q, rfl⟩ := hy hg
    have hG : G = (2, []) := by rw [hpg, hget, hgn hg]; rfl
    refine T.seq_k (fun K_h0 h0 => ?_)
    refine T.regi hm ?_
    simp only [↓reduceIte, namesOf, List.any, I.names, aops, aopsI, aopsT, qstep, CPt, qget, Tbl.get, astep, ev, setd, List.set, List.getD, List.getElem?_cons_zero, List.getElem?_cons_succ, List.getElem?_nil, List.cons_append, List.nil_append, List.length_cons, List.length_nil, List.replicate, then_normal, inBlock_normal, Option.getD_some, Option.getD_none, Bool.or_false, Bool.or_true, Bool.true_or, Bool.false_or, Bool.false_eq_true, if_false, if_true, up_zero, Nat.reduceAdd, Nat.reduceSub, binv, ↓opt_def, AV.isAny, AV.cells, ldc, List.map_cons, List.map_nil, St.set_next, St.set_same, St.up_next, Int.natCast_nonneg, lt_len, le_len, Int.toNat_natCast, true_and, and_true, eq_self, reduceCtorEq, decide_true, List.length_singleton, er_int, er_bool, er_str, eqIv, Bool.bne_true, Bool.not_false]
    refine h0 _ _ ?_
    try clear h0 K_h0
    refine T.cond rfl (fun _ => ?_) (fun h => by cases h)
    refine T.seq_k (fun K_h0 h0 => ?_)
    refine T.regi hm ?_
    simp only [↓reduceIte, namesOf, List.any, I.names, aops, aopsI, aopsT, qstep, CPt, qget, Tbl.get, astep, ev, setd, List.set, List.getD, List.getElem?_cons_zero, List.getElem?_cons_succ, List.getElem?_nil, List.cons_append, List.nil_append, List.length_cons, List.length_nil, List.replicate, then_normal, inBlock_normal, Option.getD_some, Option.getD_none, Bool.or_false, Bool.or_true, Bool.true_or, Bool.false_or, Bool.false_eq_true, if_false, if_true, up_zero, Nat.reduceAdd, Nat.reduceSub, binv, ↓opt_def, AV.isAny, AV.cells, ldc, List.map_cons, List.map_nil, St.set_next, St.set_same, St.up_next, Int.natCast_nonneg, lt_len, le_len, Int.toNat_natCast, true_and, and_true, eq_self, reduceCtorEq, decide_true, List.length_singleton, er_int, er_bool, er_str]
    refine h0 _ _ ?_
    try clear h0 K_h0
    exact T.ret (Fin.quietw rfl (Wk.tup2 (Wk.sl _ _)) ⟨⟨trivial, trivial⟩, trivial, trivial⟩ (RC.like.quiet wf) ⟨by rw [hG]; rfl, rfl⟩)
  obtain ⟨rfl, hers⟩ := hn2 hg
  have hgg := hgg hg
  rw [← hers] at hgg
  refine T.seq_k (fun K_h0 h0 => ?_)
  refine T.regi hm ?_
  simp only [↓reduceIte, namesOf, List.any, I.names, aops, aopsI, aopsT, qstep, CPt, qget, Tbl.get, astep, ev, setd, List.set, List.getD, List.getElem?_cons_zero, List.getElem?_cons_succ, List.getElem?_nil, List.cons_append, List.nil_append, List.length_cons, List.length_nil, List.replicate, then_normal, inBlock_normal, Option.getD_some, Option.getD_none, Bool.or_false, Bool.or_true, Bool.true_or, Bool.false_or, Bool.false_eq_true, if_false, if_true, up_zero, Nat.reduceAdd, Nat.reduceSub, binv, ↓opt_def, AV.isAny, AV.cells, ldc, List.map_cons, List.map_nil, St.set_next, St.set_same, St.up_next, Int.natCast_nonneg, lt_len, le_len, Int.toNat_natCast, true_and, and_true, eq_self, reduceCtorEq, decide_true, List.length_singleton, er_int, er_bool, er_str, eqIv, bne_self_eq_false]
  refine h0 _ _ ?_
  try clear h0 K_h0
  refine T.cond rfl (fun h => by cases h) (fun _ => T.skip ?_)
  refine h3 _ _ ?_
  try clear h3 K_h3
  clear hy hn2 hgn
  -- the spans into the trace
  refine T.seq_k (fun K_h3 h3 => ?_)
  refine T.regi hm ?_
  simp only [↓reduceIte, namesOf, List.any, I.names, aops, aopsI, aopsT, qstep, CPt, qget, Tbl.get, astep, ev, setd, List.set, List.getD, List.getElem?_cons_zero, List.getElem?_cons_succ, List.getElem?_nil, List.cons_append, List.nil_append, List.length_cons, List.length_nil, List.replicate, then_normal, inBlock_normal, Option.getD_some, Option.getD_none, Bool.or_false, Bool.or_true, Bool.true_or, Bool.false_or, Bool.false_eq_true, if_false, if_true, up_zero, Nat.reduceAdd, Nat.reduceSub, binv, ↓opt_def, AV.isAny, AV.cells, ldc, List.map_cons, List.map_nil, St.set_next, St.set_same, St.up_next, Int.natCast_nonneg, lt_len, le_len, Int.toNat_natCast, true_and, and_true, eq_self, reduceCtorEq, decide_true, List.length_singleton, er_int, er_bool, er_str, hC, AV.fits, AV.one, List.all_cons, List.all_nil, Nat.reduceBEq, Bool.and_true, Bool.not_false, Bool.and_self, Nat.zero_add, splice, List.take, List.drop, Nat.reduceLeDiff]
  have RD := RC.new (a := a) (.obj [.int .u64 (id : Int), .sl (spsAV er) .none]) ha0 ha2 ha3
  have hD : (uC.set a (.obj [.int .u64 (id : Int), .sl (spsAV er) .none])).res a = _ := St.set_same _ _ _
  generalize (uC.set a (.obj [.int .u64 (id : Int), .sl (spsAV er) .none])) = uD at RD hD ⊢
  clear RC hC hCn
  refine h3 _ _ ?_
  try clear h3 K_h3
  -- the trace behind the others; and the rest of the bytes
  have hbm2 : s2.bad = -1 := hS2.ok.2.resolve_right hb2
  have hgg' : goR b N s0 [] = goR b (N - (i + 1)) ⟨((p + m : Nat) : Int), s2.bad⟩ (acc ++ [⟨id, er⟩]) := by rw [hgg, hp]; rfl
  have hnew : sh (p + m) ⟨((p + m : Nat) : Int), s2.bad⟩ = r0 := by rw [hbm2]; exact sh_new _
  have hSn : SH (p + m) b ⟨((p + m : Nat) : Int), s2.bad⟩ := by
    have := hS2.len
    exact ⟨⟨⟨by omega, by simp only []; omega, by simp only []; omega⟩, .inl hbm2⟩, by omega, Int.le_refl _, .inl hbm2⟩
  have e9 : ((bytesAV (b.drop k)).drop dm.toNat).take ((((bytesAV (b.drop k)).length : Nat) : Int) - dm).toNat = bytesAV (b.drop (p + m)) := by
    rw [← hdm', Int.toNat_natCast, bytes_drop, hrest, List.take_of_length_le]
    rw [bytesAV_len, bytesAV_len, ← hrest, List.length_drop]; omega
  have e10 : (0 : Int) ≤ dm := by omega
  refine T.seq_k (fun K_h3 h3 => ?_)
  have fin2 : ∀ ρ' uF g', Rk σ uF nm (rdS (b.drop k) .none (sh k s2)) 2 (.tip g') → keep [4, 6, 7, 8, 9, 11, 12] 0 ρ' = [.any, .any, .any, .any, .sl (bytesAV (b.drop k)) .none, .any, .ptr nm 0, .int .i64 (N : Int), .sl (tcsAV (acc ++ [⟨id, er⟩])) (.tip g'), .int .i64 (i : Int), .any, .int .i64 (m : Int), .int .i64 di] ++ List.replicate 96 .any → K_h3 ρ' uF := by
    intro ρ' uF g' RF hρ
    refine h3 _ _ ?_
    try clear h3 K_h3
    refine T.gh (Gh.keep [4, 6, 7, 8, 9, 11, 12]) ?_
    rw [hρ]
    refine T.seq_k (fun K_h3 h3 => ?_)
    refine T.regi hm ?_
    simp only [↓reduceIte, namesOf, List.any, I.names, aops, aopsI, aopsT, qstep, CPt, qget, Tbl.get, astep, ev, setd, List.set, List.getD, List.getElem?_cons_zero, List.getElem?_cons_succ, List.getElem?_nil, List.cons_append, List.nil_append, List.length_cons, List.length_nil, List.replicate, then_normal, inBlock_normal, Option.getD_some, Option.getD_none, Bool.or_false, Bool.or_true, Bool.true_or, Bool.false_or, Bool.false_eq_true, if_false, if_true, up_zero, Nat.reduceAdd, Nat.reduceSub, binv, ↓opt_def, AV.isAny, AV.cells, ldc, List.map_cons, List.map_nil, St.set_next, St.set_same, St.up_next, Int.natCast_nonneg, lt_len, le_len, Int.toNat_natCast, true_and, and_true, eq_self, reduceCtorEq, decide_true, List.length_singleton, er_int, er_bool, er_str, idx, e6, e7, e9, e10, ite_self, and_self, Int.le_refl]
    refine wreadF.mono ?_
    rintro v u6 ⟨nm', rfl, hr6, hn6, hn6', ho6⟩
    have R6 := RF.moved hr6 hn6 hn6' ho6
    try simp only [↓reduceIte, namesOf, List.any, I.names, aops, aopsI, aopsT, qstep, CPt, qget, Tbl.get, astep, ev, setd, List.set, List.getD, List.getElem?_cons_zero, List.getElem?_cons_succ, List.getElem?_nil, List.cons_append, List.nil_append, List.length_cons, List.length_nil, List.replicate, then_normal, inBlock_normal, Option.getD_some, Option.getD_none, Bool.or_false, Bool.or_true, Bool.true_or, Bool.false_or, Bool.false_eq_true, if_false, if_true, up_zero, Nat.reduceAdd, Nat.reduceSub, binv, ↓opt_def, AV.isAny, AV.cells, ldc, List.map_cons, List.map_nil, St.set_next, St.set_same, St.up_next, Int.natCast_nonneg, lt_len, le_len, Int.toNat_natCast, true_and, and_true, eq_self, reduceCtorEq, decide_true, List.length_singleton, er_int, er_bool, er_str, ]
    refine h3 _ _ ?_
    try clear h3 K_h3
    refine T.regi hm ?_
    simp only [↓reduceIte, namesOf, List.any, I.names, aops, aopsI, aopsT, qstep, CPt, qget, Tbl.get, astep, ev, setd, List.set, List.getD, List.getElem?_cons_zero, List.getElem?_cons_succ, List.getElem?_nil, List.cons_append, List.nil_append, List.length_cons, List.length_nil, List.replicate, then_normal, inBlock_normal, Option.getD_some, Option.getD_none, Bool.or_false, Bool.or_true, Bool.true_or, Bool.false_or, Bool.false_eq_true, if_false, if_true, up_zero, Nat.reduceAdd, Nat.reduceSub, binv, ↓opt_def, AV.isAny, AV.cells, ldc, List.map_cons, List.map_nil, St.set_next, St.set_same, St.up_next, Int.natCast_nonneg, lt_len, le_len, Int.toNat_natCast, true_and, and_true, eq_self, reduceCtorEq, decide_true, List.length_singleton, er_int, er_bool, er_str, idx, e6, e7, e9, e10, ite_self, and_self, Int.le_refl]
    refine h2 _ _ ?_
    try clear h2 K_h2
    refine T.regi hm ?_
    simp only [↓reduceIte, namesOf, List.any, I.names, aops, aopsI, aopsT, qstep, CPt, qget, Tbl.get, astep, ev, setd, List.set, List.getD, List.getElem?_cons_zero, List.getElem?_cons_succ, List.getElem?_nil, List.cons_append, List.nil_append, List.length_cons, List.length_nil, List.replicate, then_normal, inBlock_normal, Option.getD_some, Option.getD_none, Bool.or_false, Bool.or_true, Bool.true_or, Bool.false_or, Bool.false_eq_true, if_false, if_true, up_zero, Nat.reduceAdd, Nat.reduceSub, binv, ↓opt_def, AV.isAny, AV.cells, ldc, List.map_cons, List.map_nil, St.set_next, St.set_same, St.up_next, Int.natCast_nonneg, lt_len, le_len, Int.toNat_natCast, true_and, and_true, eq_self, reduceCtorEq, decide_true, List.length_singleton, er_int, er_bool, er_str, hiw]
    exact ⟨hil, _, _, Gh.keep [4, 6, 7, 8, 9], nm', p + m, _, acc ++ [⟨id, er⟩], .tip g', hSn, by rw [hnew]; exact R6, by simp [hacc], (fun h => by cases h), (fun h => by simp only [hbm2] at h; omega), hgg', rfl⟩
  clear h2
  have hsn := RD.like.next
  have hnm := RD.hi
  have hDn : ∀ k, (uD.up k).res a = some (.obj [.int .u64 (id : Int), .sl (spsAV er) .none]) := fun _ => hD
  have hfit : (tcsAV (acc ++ [⟨id, er⟩])).all (AV.fits 2) = true := tcs_fits _
  have hfit1 : AV.fits 2 (.agg [.int .u64 (id : Int), .sl (spsAV er) .none]) = true := rfl
  have her : (AV.agg [.int .u64 (id : Int), .sl (spsAV er) .none]).er = .agg [.int .u64 (id : Int), .sl (spsAV er) .none] := rfl
  have hle : decide ((acc.length + 1) * 32 ≤ 70368744177664 ∧ acc.length + 1 ≤ 4611686018427387904) = true := decide_eq_true (by omega)
  have hle' : decide ((acc.length + 1) * 32 ≤ 70368744177664 ∧ acc.length ≤ 4611686018427387903) = true := decide_eq_true (by omega)
  have hlen2 : ∀ x y : AV, [x, y].length = 2 := fun _ _ => rfl
  have htake : ∀ x y : AV, List.take 2 (List.drop 0 [x, y]) = [x, y] := fun _ _ => rfl
  have h02 : 0 + 2 ≤ 2 := Nat.le_refl _
  rcases RD.ver with rfl | ⟨g, rfl, _, _, _, hg2⟩
  · have hac := hvn rfl
    subst hac
    have hX1 : [AV.agg [.int .u64 (id : Int), .sl (spsAV er) .none]] = tcsAV [⟨id, er⟩] := rfl
    have hX0 : tcsAV ([] : List Tc) = [] := rfl
    have hX2 : (tcsAV [⟨id, er⟩]).isEmpty = false := rfl
    have hX3 : (tcsAV [⟨id, er⟩]).all (AV.fits 2) = true := tcs_fits _
    refine T.regi hm ?_
    simp only [↓reduceIte, namesOf, List.any, I.names, aops, aopsI, aopsT, qstep, CPt, qget, Tbl.get, astep, ev, setd, List.set, List.getD, List.getElem?_cons_zero, List.getElem?_cons_succ, List.getElem?_nil, List.cons_append, List.nil_append, List.length_cons, List.length_nil, List.replicate, then_normal, inBlock_normal, Option.getD_some, Option.getD_none, Bool.or_false, Bool.or_true, Bool.true_or, Bool.false_or, Bool.false_eq_true, if_false, if_true, up_zero, Nat.reduceAdd, Nat.reduceSub, binv, ↓opt_def, AV.isAny, AV.cells, ldc, List.map_cons, List.map_nil, St.set_next, St.set_same, St.up_next, Int.natCast_nonneg, lt_len, le_len, Int.toNat_natCast, true_and, and_true, eq_self, reduceCtorEq, decide_true, List.length_singleton, er_int, er_bool, er_str, hDn, hX0, held, hfit1, her, List.all_cons, List.all_nil, Bool.and_self, srcOf, List.nil_append, hX1, hX3, tcs_er, tcs_len, hX2, List.length_append, List.length_singleton, htake, h02, hlen2, Nat.reduceMul, Nat.reduceLeDiff, and_self, Nat.zero_add, St.up_res]
    exact fin2 _ _ _ ((RD.up 5).appNil (g := uD.next + 3) (by omega) (by omega) (by simp)) rfl
  · have hgn2 : ∀ k, (uD.up k).res g = some (.tip 2) := fun _ => hg2
    refine T.regi hm ?_
    simp only [↓reduceIte, namesOf, List.any, I.names, aops, aopsI, aopsT, qstep, CPt, qget, Tbl.get, astep, ev, setd, List.set, List.getD, List.getElem?_cons_zero, List.getElem?_cons_succ, List.getElem?_nil, List.cons_append, List.nil_append, List.length_cons, List.length_nil, List.replicate, then_normal, inBlock_normal, Option.getD_some, Option.getD_none, Bool.or_false, Bool.or_true, Bool.true_or, Bool.false_or, Bool.false_eq_true, if_false, if_true, up_zero, Nat.reduceAdd, Nat.reduceSub, binv, ↓opt_def, AV.isAny, AV.cells, ldc, List.map_cons, List.map_nil, St.set_next, St.set_same, St.up_next, Int.natCast_nonneg, lt_len, le_len, Int.toNat_natCast, true_and, and_true, eq_self, reduceCtorEq, decide_true, List.length_singleton, er_int, er_bool, er_str, hDn, held, hfit1, her, List.all_cons, List.all_nil, Bool.and_self, srcOf, tcs_snoc', hfit, tcs_len, List.length_singleton, htake, h02, hlen2, hle, hle', hgn2]
    exact fin2 _ _ _ ((RD.up 5).appTip (g := uD.next + 3) (by omega) (by omega) (by simp)) rfl

end Go.VL

namespace Go.VL

open Go.Proofs

def tb05 : FTab := [(n_up05, ⟨c_up05, 37, [(.t 0)]⟩), (n_ppput, ⟨c_ppput, 49, [(.t 2), (.t 3)]⟩), (n_pgget, ⟨c_pgget, 109, [(.t 2), (.t 3)]⟩), (n_is, ⟨c_is, 31, [(.t 2)]⟩), (n_wput, ⟨c_wput, 43, [(.t 6), (.t 7)]⟩), (n_right, ⟨c_right, 17, [(.t 2)]⟩), (n_cseal, ⟨c_cseal, 16, [(.t 2)]⟩), (n_copen, ⟨c_copen, 26, [(.t 2), (.t 3)]⟩)]

theorem tb05_ok : FTab.ok Try.prog tb05 := FTab.ok_cons s_up05 (FTab.ok_cons s_ppput (FTab.ok_cons s_pgget (FTab.ok_cons s_is (FTab.ok_cons s_wput (FTab.ok_cons s_right (FTab.ok_cons s_cseal (FTab.ok_cons s_copen FTab.ok_nil)))))))

set_option maxRecDepth 100000 in
theorem up05_ok {σ : St} : ACalls Try.prog n_up05 [] σ (fun v σ' => v = .bool true ∧ σ' = σ) :=
  head_ok hm tb05_ok (orT_ok tbC_ok) 100 (by kernel_rfl) (by kernel_rfl) σ

/-- traces whose numbers are words -/
def Tc.wd (t : Tc) : Prop := t.id < 18446744073709551616 ∧ ∀ s ∈ t.sp, s.wd

end Go.VL

namespace Go.VL

open Go.Proofs

set_option maxRecDepth 10000 in
theorem rtraces_ok {a b : List Tc} {g g' : Ver} {σ : St} (hl : a.length ≤ 9223372036854775807) (hs : ∀ t ∈ a, t.sp.length ≤ 9223372036854775807) : ACalls Try.prog n_rtraces [.sl (tcsAV a) g, .sl (tcsAV b) g'] σ (fun v σ' => v = .bool (decide (a = b)) ∧ σ' = σ) := by
  refine s_rtraces (fun wf => ?_)
  unfold c_rtraces
  refine T.seq_k (fun K_h0 h0 => ?_)
  refine T.regi hm ?_
  simp only [↓reduceIte, namesOf, List.any, I.names, aops, aopsI, aopsT, qstep, CPt, qget, Tbl.get, astep, ev, setd, List.set, List.getD, List.getElem?_cons_zero, List.getElem?_cons_succ, List.getElem?_nil, List.cons_append, List.nil_append, List.length_cons, List.length_nil, List.replicate, then_normal, inBlock_normal, Option.getD_some, Option.getD_none, Bool.or_false, Bool.or_true, Bool.true_or, Bool.false_or, Bool.false_eq_true, if_false, if_true, up_zero, Nat.reduceAdd, Nat.reduceSub, binv, ↓opt_def, AV.isAny, AV.cells, ldc, List.map_cons, List.map_nil, St.set_next, St.set_same, St.up_next, Int.natCast_nonneg, lt_len, le_len, Int.toNat_natCast, true_and, and_true, eq_self, reduceCtorEq, decide_true, List.length_singleton, er_int, er_bool, er_str]
  refine h0 _ _ ?_
  try clear h0 K_h0
  refine T.seq_k (fun K_h1 h1 => ?_)
  by_cases hlen : a.length = b.length
  case neg =>
    have e1 : ((a.length : Int) != (b.length : Int)) = true := by simp; omega
    refine T.seq_k (fun K_h0 h0 => ?_)
    refine T.regi hm ?_
    simp only [↓reduceIte, namesOf, List.any, I.names, aops, aopsI, aopsT, qstep, CPt, qget, Tbl.get, astep, ev, setd, List.set, List.getD, List.getElem?_cons_zero, List.getElem?_cons_succ, List.getElem?_nil, List.cons_append, List.nil_append, List.length_cons, List.length_nil, List.replicate, then_normal, inBlock_normal, Option.getD_some, Option.getD_none, Bool.or_false, Bool.or_true, Bool.true_or, Bool.false_or, Bool.false_eq_true, if_false, if_true, up_zero, Nat.reduceAdd, Nat.reduceSub, binv, ↓opt_def, AV.isAny, AV.cells, ldc, List.map_cons, List.map_nil, St.set_next, St.set_same, St.up_next, Int.natCast_nonneg, lt_len, le_len, Int.toNat_natCast, true_and, and_true, eq_self, reduceCtorEq, decide_true, List.length_singleton, er_int, er_bool, er_str, tcs_len, e1]
    refine h0 _ _ ?_
    try clear h0 K_h0
    refine T.cond rfl (fun _ => ?_) (fun h => by cases h)
    refine T.seq_k (fun K_h0 h0 => ?_)
    refine T.regi hm ?_
    simp only [↓reduceIte, namesOf, List.any, I.names, aops, aopsI, aopsT, qstep, CPt, qget, Tbl.get, astep, ev, setd, List.set, List.getD, List.getElem?_cons_zero, List.getElem?_cons_succ, List.getElem?_nil, List.cons_append, List.nil_append, List.length_cons, List.length_nil, List.replicate, then_normal, inBlock_normal, Option.getD_some, Option.getD_none, Bool.or_false, Bool.or_true, Bool.true_or, Bool.false_or, Bool.false_eq_true, if_false, if_true, up_zero, Nat.reduceAdd, Nat.reduceSub, binv, ↓opt_def, AV.isAny, AV.cells, ldc, List.map_cons, List.map_nil, St.set_next, St.set_same, St.up_next, Int.natCast_nonneg, lt_len, le_len, Int.toNat_natCast, true_and, and_true, eq_self, reduceCtorEq, decide_true, List.length_singleton, er_int, er_bool, er_str]
    refine h0 _ _ ?_
    try clear h0 K_h0
    exact T.ret (Fin.ret rfl ⟨by rw [decide_eq_false (fun h => hlen (by rw [h]))]; rfl, rfl⟩)
  have e1 : ((a.length : Int) != (b.length : Int)) = false := by simp; omega
  refine T.seq_k (fun K_h0 h0 => ?_)
  refine T.regi hm ?_
  simp only [↓reduceIte, namesOf, List.any, I.names, aops, aopsI, aopsT, qstep, CPt, qget, Tbl.get, astep, ev, setd, List.set, List.getD, List.getElem?_cons_zero, List.getElem?_cons_succ, List.getElem?_nil, List.cons_append, List.nil_append, List.length_cons, List.length_nil, List.replicate, then_normal, inBlock_normal, Option.getD_some, Option.getD_none, Bool.or_false, Bool.or_true, Bool.true_or, Bool.false_or, Bool.false_eq_true, if_false, if_true, up_zero, Nat.reduceAdd, Nat.reduceSub, binv, ↓opt_def, AV.isAny, AV.cells, ldc, List.map_cons, List.map_nil, St.set_next, St.set_same, St.up_next, Int.natCast_nonneg, lt_len, le_len, Int.toNat_natCast, true_and, and_true, eq_self, reduceCtorEq, decide_true, List.length_singleton, er_int, er_bool, er_str, tcs_len, e1]
  refine h0 _ _ ?_
  try clear h0 K_h0
  refine T.cond rfl (fun h => by cases h) (fun _ => T.skip ?_)
  refine h1 _ _ ?_
  try clear h1 K_h1
  refine T.seq_k (fun K_h1 h1 => ?_)
  refine T.seq_k (fun K_h0 h0 => ?_)
  refine T.regi hm ?_
  simp only [↓reduceIte, namesOf, List.any, I.names, aops, aopsI, aopsT, qstep, CPt, qget, Tbl.get, astep, ev, setd, List.set, List.getD, List.getElem?_cons_zero, List.getElem?_cons_succ, List.getElem?_nil, List.cons_append, List.nil_append, List.length_cons, List.length_nil, List.replicate, then_normal, inBlock_normal, Option.getD_some, Option.getD_none, Bool.or_false, Bool.or_true, Bool.true_or, Bool.false_or, Bool.false_eq_true, if_false, if_true, up_zero, Nat.reduceAdd, Nat.reduceSub, binv, ↓opt_def, AV.isAny, AV.cells, ldc, List.map_cons, List.map_nil, St.set_next, St.set_same, St.up_next, Int.natCast_nonneg, lt_len, le_len, Int.toNat_natCast, true_and, and_true, eq_self, reduceCtorEq, decide_true, List.length_singleton, er_int, er_bool, er_str]
  refine h0 _ _ ?_
  try clear h0 K_h0
  refine T.block ?_
  refine T.gh (Gh.keep [0, 1, 5]) ?_
  refine T.loopi (fun i ρ σ' => σ' = σ ∧ a.take i = b.take i ∧ ρ = [.sl (tcsAV a) g, .sl (tcsAV b) g', .any, .any, .any, .int .i64 (i : Int)] ++ List.replicate 38 .any)
    a.length 0 (Nat.zero_le _) ⟨rfl, by simp, rfl⟩ ?_
  rintro i ρ σ' hi ⟨rfl, hpre, rfl⟩
  refine T.seq_k (fun K_h2 h2 => ?_)
  by_cases hil : i < a.length
  case neg =>
    have e2 : decide (i < a.length) = false := decide_eq_false hil
    refine T.seq_k (fun K_h0 h0 => ?_)
    refine T.regi hm ?_
    simp only [↓reduceIte, namesOf, List.any, I.names, aops, aopsI, aopsT, qstep, CPt, qget, Tbl.get, astep, ev, setd, List.set, List.getD, List.getElem?_cons_zero, List.getElem?_cons_succ, List.getElem?_nil, List.cons_append, List.nil_append, List.length_cons, List.length_nil, List.replicate, then_normal, inBlock_normal, Option.getD_some, Option.getD_none, Bool.or_false, Bool.or_true, Bool.true_or, Bool.false_or, Bool.false_eq_true, if_false, if_true, up_zero, Nat.reduceAdd, Nat.reduceSub, binv, ↓opt_def, AV.isAny, AV.cells, ldc, List.map_cons, List.map_nil, St.set_next, St.set_same, St.up_next, Int.natCast_nonneg, lt_len, le_len, Int.toNat_natCast, true_and, and_true, eq_self, reduceCtorEq, decide_true, List.length_singleton, er_int, er_bool, er_str, tcs_len, e2]
    refine h0 _ _ ?_
    try clear h0 K_h0
    refine T.cond rfl (fun h => by cases h) (fun _ => T.exit ?_)
    have : i = a.length := by omega
    subst this
    have hab : a = b := by rw [List.take_length, hlen, List.take_length] at hpre; exact hpre
    try simp only [↓reduceIte, namesOf, List.any, I.names, aops, aopsI, aopsT, qstep, CPt, qget, Tbl.get, astep, ev, setd, List.set, List.getD, List.getElem?_cons_zero, List.getElem?_cons_succ, List.getElem?_nil, List.cons_append, List.nil_append, List.length_cons, List.length_nil, List.replicate, then_normal, inBlock_normal, Option.getD_some, Option.getD_none, Bool.or_false, Bool.or_true, Bool.true_or, Bool.false_or, Bool.false_eq_true, if_false, if_true, up_zero, Nat.reduceAdd, Nat.reduceSub, binv, ↓opt_def, AV.isAny, AV.cells, ldc, List.map_cons, List.map_nil, St.set_next, St.set_same, St.up_next, Int.natCast_nonneg, lt_len, le_len, Int.toNat_natCast, true_and, and_true, eq_self, reduceCtorEq, decide_true, List.length_singleton, er_int, er_bool, er_str, inBlock_exit, then_exit]
    refine h1 _ _ ?_
    try clear h1 K_h1
    refine T.seq_k (fun K_h0 h0 => ?_)
    refine T.regi hm ?_
    simp only [↓reduceIte, namesOf, List.any, I.names, aops, aopsI, aopsT, qstep, CPt, qget, Tbl.get, astep, ev, setd, List.set, List.getD, List.getElem?_cons_zero, List.getElem?_cons_succ, List.getElem?_nil, List.cons_append, List.nil_append, List.length_cons, List.length_nil, List.replicate, then_normal, inBlock_normal, Option.getD_some, Option.getD_none, Bool.or_false, Bool.or_true, Bool.true_or, Bool.false_or, Bool.false_eq_true, if_false, if_true, up_zero, Nat.reduceAdd, Nat.reduceSub, binv, ↓opt_def, AV.isAny, AV.cells, ldc, List.map_cons, List.map_nil, St.set_next, St.set_same, St.up_next, Int.natCast_nonneg, lt_len, le_len, Int.toNat_natCast, true_and, and_true, eq_self, reduceCtorEq, decide_true, List.length_singleton, er_int, er_bool, er_str]
    refine h0 _ _ ?_
    try clear h0 K_h0
    exact T.ret (Fin.ret rfl ⟨by rw [decide_eq_true hab]; rfl, rfl⟩)
  have e2 : decide (i < a.length) = true := decide_eq_true hil
  refine T.seq_k (fun K_h0 h0 => ?_)
  refine T.regi hm ?_
  simp only [↓reduceIte, namesOf, List.any, I.names, aops, aopsI, aopsT, qstep, CPt, qget, Tbl.get, astep, ev, setd, List.set, List.getD, List.getElem?_cons_zero, List.getElem?_cons_succ, List.getElem?_nil, List.cons_append, List.nil_append, List.length_cons, List.length_nil, List.replicate, then_normal, inBlock_normal, Option.getD_some, Option.getD_none, Bool.or_false, Bool.or_true, Bool.true_or, Bool.false_or, Bool.false_eq_true, if_false, if_true, up_zero, Nat.reduceAdd, Nat.reduceSub, binv, ↓opt_def, AV.isAny, AV.cells, ldc, List.map_cons, List.map_nil, St.set_next, St.set_same, St.up_next, Int.natCast_nonneg, lt_len, le_len, Int.toNat_natCast, true_and, and_true, eq_self, reduceCtorEq, decide_true, List.length_singleton, er_int, er_bool, er_str, tcs_len, e2]
  refine h0 _ _ ?_
  try clear h0 K_h0
  refine T.cond rfl (fun _ => T.skip ?_) (fun h => by cases h)
  refine h2 _ _ ?_
  try clear h2 K_h2
  clear h1
  have hjl : i < b.length := by omega
  have hw := inc64 hil hl
  refine T.seq_k (fun K_h2 h2 => ?_)
  refine T.block ?_
  have hta : a[i]? = some a[i] := by simp [hil]
  have htl : a[i].sp.length ≤ 9223372036854775807 := hs _ (List.getElem_mem hil)
  generalize hA : a[i] = ta at hta htl
  generalize hB : b[i] = tb
  refine T.seq_k (fun K_h3 h3 => ?_)
  refine T.regi hm ?_
  simp only [↓reduceIte, namesOf, List.any, I.names, aops, aopsI, aopsT, qstep, CPt, qget, Tbl.get, astep, ev, setd, List.set, List.getD, List.getElem?_cons_zero, List.getElem?_cons_succ, List.getElem?_nil, List.cons_append, List.nil_append, List.length_cons, List.length_nil, List.replicate, then_normal, inBlock_normal, Option.getD_some, Option.getD_none, Bool.or_false, Bool.or_true, Bool.true_or, Bool.false_or, Bool.false_eq_true, if_false, if_true, up_zero, Nat.reduceAdd, Nat.reduceSub, binv, ↓opt_def, AV.isAny, AV.cells, ldc, List.map_cons, List.map_nil, St.set_next, St.set_same, St.up_next, Int.natCast_nonneg, lt_len, le_len, Int.toNat_natCast, true_and, and_true, eq_self, reduceCtorEq, decide_true, List.length_singleton, er_int, er_bool, er_str, tcs_len, tcs_get hil, tcs_get hjl, hA, hB, hil, hjl, tcav, AV.fits, AV.one, List.all_cons, List.all_nil, Nat.reduceBEq, Bool.and_true, Bool.not_false, Bool.and_self, Nat.zero_add, splice, List.take, List.drop, Nat.reduceLeDiff]
  refine ⟨_, rspans_ok htl, ?_⟩
  try simp only [↓reduceIte, namesOf, List.any, I.names, aops, aopsI, aopsT, qstep, CPt, qget, Tbl.get, astep, ev, setd, List.set, List.getD, List.getElem?_cons_zero, List.getElem?_cons_succ, List.getElem?_nil, List.cons_append, List.nil_append, List.length_cons, List.length_nil, List.replicate, then_normal, inBlock_normal, Option.getD_some, Option.getD_none, Bool.or_false, Bool.or_true, Bool.true_or, Bool.false_or, Bool.false_eq_true, if_false, if_true, up_zero, Nat.reduceAdd, Nat.reduceSub, binv, ↓opt_def, AV.isAny, AV.cells, ldc, List.map_cons, List.map_nil, St.set_next, St.set_same, St.up_next, Int.natCast_nonneg, lt_len, le_len, Int.toNat_natCast, true_and, and_true, eq_self, reduceCtorEq, decide_true, List.length_singleton, er_int, er_bool, er_str, ]
  refine h3 _ _ ?_
  try clear h3 K_h3
  by_cases he : ta = tb
  · have e3 : ((ta.id : Int) != (tb.id : Int)) = false := by rw [he]; simp
    have e4 : decide (ta.sp = tb.sp) = true := decide_eq_true (by rw [he])
    refine T.seq_k (fun K_h0 h0 => ?_)
    refine T.regi hm ?_
    simp only [↓reduceIte, namesOf, List.any, I.names, aops, aopsI, aopsT, qstep, CPt, qget, Tbl.get, astep, ev, setd, List.set, List.getD, List.getElem?_cons_zero, List.getElem?_cons_succ, List.getElem?_nil, List.cons_append, List.nil_append, List.length_cons, List.length_nil, List.replicate, then_normal, inBlock_normal, Option.getD_some, Option.getD_none, Bool.or_false, Bool.or_true, Bool.true_or, Bool.false_or, Bool.false_eq_true, if_false, if_true, up_zero, Nat.reduceAdd, Nat.reduceSub, binv, ↓opt_def, AV.isAny, AV.cells, ldc, List.map_cons, List.map_nil, St.set_next, St.set_same, St.up_next, Int.natCast_nonneg, lt_len, le_len, Int.toNat_natCast, true_and, and_true, eq_self, reduceCtorEq, decide_true, List.length_singleton, er_int, er_bool, er_str, tcs_len, tcs_get hil, tcs_get hjl, hA, hB, hil, hjl, tcav, AV.fits, AV.one, List.all_cons, List.all_nil, Nat.reduceBEq, Bool.and_true, Bool.not_false, Bool.and_self, Nat.zero_add, splice, List.take, List.drop, Nat.reduceLeDiff, e3, e4]
    refine h0 _ _ ?_
    try clear h0 K_h0
    refine T.cond rfl (fun h => by cases h) (fun _ => T.skip ?_)
    refine h2 _ _ ?_
    try clear h2 K_h2
    refine T.regi hm ?_
    simp only [↓reduceIte, namesOf, List.any, I.names, aops, aopsI, aopsT, qstep, CPt, qget, Tbl.get, astep, ev, setd, List.set, List.getD, List.getElem?_cons_zero, List.getElem?_cons_succ, List.getElem?_nil, List.cons_append, List.nil_append, List.length_cons, List.length_nil, List.replicate, then_normal, inBlock_normal, Option.getD_some, Option.getD_none, Bool.or_false, Bool.or_true, Bool.true_or, Bool.false_or, Bool.false_eq_true, if_false, if_true, up_zero, Nat.reduceAdd, Nat.reduceSub, binv, ↓opt_def, AV.isAny, AV.cells, ldc, List.map_cons, List.map_nil, St.set_next, St.set_same, St.up_next, Int.natCast_nonneg, lt_len, le_len, Int.toNat_natCast, true_and, and_true, eq_self, reduceCtorEq, decide_true, List.length_singleton, er_int, er_bool, er_str, hw]
    refine ⟨hil, _, _, Gh.keep [0, 1, 5], rfl, ?_, rfl⟩
    rw [List.take_succ_eq_append_getElem hil, List.take_succ_eq_append_getElem hjl, hpre, hA, hB, he]
  · have hab : a ≠ b := fun h => by subst h; exact he (hA.symm.trans hB)
    have hdn : decide (a = b) = false := decide_eq_false hab
    by_cases hi2 : ta.id = tb.id
    · have e3 : ((ta.id : Int) != (tb.id : Int)) = false := by rw [hi2]; simp
      have e4 : decide (ta.sp = tb.sp) = false := decide_eq_false (fun h => he (by cases ta; cases tb; simp_all))
      refine T.seq_k (fun K_h0 h0 => ?_)
      refine T.regi hm ?_
      simp only [↓reduceIte, namesOf, List.any, I.names, aops, aopsI, aopsT, qstep, CPt, qget, Tbl.get, astep, ev, setd, List.set, List.getD, List.getElem?_cons_zero, List.getElem?_cons_succ, List.getElem?_nil, List.cons_append, List.nil_append, List.length_cons, List.length_nil, List.replicate, then_normal, inBlock_normal, Option.getD_some, Option.getD_none, Bool.or_false, Bool.or_true, Bool.true_or, Bool.false_or, Bool.false_eq_true, if_false, if_true, up_zero, Nat.reduceAdd, Nat.reduceSub, binv, ↓opt_def, AV.isAny, AV.cells, ldc, List.map_cons, List.map_nil, St.set_next, St.set_same, St.up_next, Int.natCast_nonneg, lt_len, le_len, Int.toNat_natCast, true_and, and_true, eq_self, reduceCtorEq, decide_true, List.length_singleton, er_int, er_bool, er_str, tcs_len, tcs_get hil, tcs_get hjl, hA, hB, hil, hjl, tcav, AV.fits, AV.one, List.all_cons, List.all_nil, Nat.reduceBEq, Bool.and_true, Bool.not_false, Bool.and_self, Nat.zero_add, splice, List.take, List.drop, Nat.reduceLeDiff, e3, e4]
      refine h0 _ _ ?_
      try clear h0 K_h0
      refine T.cond rfl (fun _ => ?_) (fun h => by cases h)
      refine T.seq_k (fun K_h0 h0 => ?_)
      refine T.regi hm ?_
      simp only [↓reduceIte, namesOf, List.any, I.names, aops, aopsI, aopsT, qstep, CPt, qget, Tbl.get, astep, ev, setd, List.set, List.getD, List.getElem?_cons_zero, List.getElem?_cons_succ, List.getElem?_nil, List.cons_append, List.nil_append, List.length_cons, List.length_nil, List.replicate, then_normal, inBlock_normal, Option.getD_some, Option.getD_none, Bool.or_false, Bool.or_true, Bool.true_or, Bool.false_or, Bool.false_eq_true, if_false, if_true, up_zero, Nat.reduceAdd, Nat.reduceSub, binv, ↓opt_def, AV.isAny, AV.cells, ldc, List.map_cons, List.map_nil, St.set_next, St.set_same, St.up_next, Int.natCast_nonneg, lt_len, le_len, Int.toNat_natCast, true_and, and_true, eq_self, reduceCtorEq, decide_true, List.length_singleton, er_int, er_bool, er_str]
      refine h0 _ _ ?_
      try clear h0 K_h0
      exact T.ret (Fin.ret rfl ⟨by rw [hdn]; rfl, rfl⟩)
    · have e3 : ((ta.id : Int) != (tb.id : Int)) = true := by rw [bne_iff_ne]; omega
      refine T.seq_k (fun K_h0 h0 => ?_)
      refine T.regi hm ?_
      simp only [↓reduceIte, namesOf, List.any, I.names, aops, aopsI, aopsT, qstep, CPt, qget, Tbl.get, astep, ev, setd, List.set, List.getD, List.getElem?_cons_zero, List.getElem?_cons_succ, List.getElem?_nil, List.cons_append, List.nil_append, List.length_cons, List.length_nil, List.replicate, then_normal, inBlock_normal, Option.getD_some, Option.getD_none, Bool.or_false, Bool.or_true, Bool.true_or, Bool.false_or, Bool.false_eq_true, if_false, if_true, up_zero, Nat.reduceAdd, Nat.reduceSub, binv, ↓opt_def, AV.isAny, AV.cells, ldc, List.map_cons, List.map_nil, St.set_next, St.set_same, St.up_next, Int.natCast_nonneg, lt_len, le_len, Int.toNat_natCast, true_and, and_true, eq_self, reduceCtorEq, decide_true, List.length_singleton, er_int, er_bool, er_str, tcs_len, tcs_get hil, tcs_get hjl, hA, hB, hil, hjl, tcav, AV.fits, AV.one, List.all_cons, List.all_nil, Nat.reduceBEq, Bool.and_true, Bool.not_false, Bool.and_self, Nat.zero_add, splice, List.take, List.drop, Nat.reduceLeDiff, e3]
      refine h0 _ _ ?_
      try clear h0 K_h0
      refine T.cond rfl (fun _ => ?_) (fun h => by cases h)
      refine T.seq_k (fun K_h0 h0 => ?_)
      refine T.regi hm ?_
      simp only [↓reduceIte, namesOf, List.any, I.names, aops, aopsI, aopsT, qstep, CPt, qget, Tbl.get, astep, ev, setd, List.set, List.getD, List.getElem?_cons_zero, List.getElem?_cons_succ, List.getElem?_nil, List.cons_append, List.nil_append, List.length_cons, List.length_nil, List.replicate, then_normal, inBlock_normal, Option.getD_some, Option.getD_none, Bool.or_false, Bool.or_true, Bool.true_or, Bool.false_or, Bool.false_eq_true, if_false, if_true, up_zero, Nat.reduceAdd, Nat.reduceSub, binv, ↓opt_def, AV.isAny, AV.cells, ldc, List.map_cons, List.map_nil, St.set_next, St.set_same, St.up_next, Int.natCast_nonneg, lt_len, le_len, Int.toNat_natCast, true_and, and_true, eq_self, reduceCtorEq, decide_true, List.length_singleton, er_int, er_bool, er_str]
      refine h0 _ _ ?_
      try clear h0 K_h0
      exact T.ret (Fin.ret rfl ⟨by rw [hdn]; rfl, rfl⟩)

end Go.VL

namespace Go.VL

open Go.Proofs

abbrev n_pgcut : Nat := 14

def c_pgcut : C := (.seq (.reg [⟨(some 4), (.mv (.c (.sl [] .nil))), none⟩, ⟨(some 5), (.mv (.c .nili)), none⟩]) (.seq (.seq (.reg [⟨(some 13), (.mv (.t 0)), none⟩, ⟨(some 14), (.call 61 [(.t 13)]), none⟩, ⟨(some 15), (.not (.t 14)), none⟩, ⟨(some 16), (.mv (.t 15)), none⟩, ⟨(some 17), (.mv (.t 1)), (some (16, false))⟩, ⟨(some 18), (.bin .lss .i64 (.t 17) (.c (.int .i64 64))), (some (16, false))⟩, ⟨(some 19), (.pick (.t 16) (.c (.bool true)) (.t 18)), none⟩, ⟨(some 20), (.mv (.t 19)), none⟩, ⟨(some 21), (.mv (.t 1)), (some (20, false))⟩, ⟨(some 22), (.bin .gtr .i64 (.t 21) (.c (.int .i64 8192))), (some (20, false))⟩, ⟨(some 23), (.pick (.t 20) (.c (.bool true)) (.t 22)), none⟩]) (.cond (.t 23) (.seq (.reg [⟨(some 24), (.mkI 31 (.c (.int .i64 1))), none⟩, ⟨(some 4), (.mv (.c (.sl [] .nil))), none⟩, ⟨(some 5), (.mv (.t 24)), none⟩]) .ret) .skip)) (.seq (.reg [⟨(some 6), (.mv (.c (.sl [] .nil))), none⟩]) (.seq (.reg [⟨(some 7), (.mv (.c (.sl [] .nil))), none⟩]) (.seq (.reg [⟨(some 8), (.mv (.c (.int .i64 6))), none⟩]) (.seq (.seq (.reg [⟨(some 25), (.mv (.t 0)), none⟩, ⟨(some 26), (.len (.t 25)), none⟩, ⟨(some 27), (.mv (.c (.int .i64 0))), none⟩]) (.block 0 (.loop (.seq (.reg [⟨(some 28), (.bin .lss .i64 (.t 27) (.t 26)), none⟩]) (.seq (.cond (.t 28) .skip (.exit 0)) (.seq (.block 1 (.seq (.reg [⟨(some 29), (.iaddr 2 (.t 25) (.t 27)), none⟩, ⟨(some 30), (.load (some 2) (.t 29)), none⟩, ⟨(some 10), (.alloc [(.int .u64 0), (.sl [] .nil)]), none⟩, ⟨none, (.store 2 (.t 10) (.t 30)), none⟩]) (.seq (.reg [⟨(some 32), (.load (some 2) (.t 10)), none⟩, ⟨(some 33), (.call 62 [(.t 32)]), none⟩, ⟨(some 31), (.mv (.t 33)), none⟩, ⟨(some 34), (.ext (.t 31) 0), none⟩, ⟨(some 35), (.ext (.t 31) 1), none⟩, ⟨(some 11), (.mv (.t 34)), none⟩, ⟨(some 12), (.mv (.t 35)), none⟩]) (.seq (.seq (.reg [⟨(some 36), (.mv (.t 12)), none⟩, ⟨(some 37), (.eqI true true [(31, .i64)] (.t 36) (.c .nili)), none⟩]) (.cond (.t 37) (.seq (.reg [⟨(some 38), (.mv (.t 12)), none⟩, ⟨(some 4), (.mv (.c (.sl [] .nil))), none⟩, ⟨(some 5), (.mv (.t 38)), none⟩]) .ret) .skip)) (.seq (.seq (.reg [⟨(some 39), (.mv (.t 7)), none⟩, ⟨(some 40), (.len (.t 39)), none⟩, ⟨(some 41), (.bin .gtr .i64 (.t 40) (.c (.int .i64 0))), none⟩, ⟨(some 42), (.mv (.t 41)), none⟩, ⟨(some 43), (.mv (.t 8)), (some (42, true))⟩, ⟨(some 44), (.mv (.t 11)), (some (42, true))⟩, ⟨(some 45), (.len (.t 44)), (some (42, true))⟩, ⟨(some 46), (.bin .add .i64 (.t 43) (.t 45)), (some (42, true))⟩, ⟨(some 47), (.mv (.t 1)), (some (42, true))⟩, ⟨(some 48), (.bin .gtr .i64 (.t 46) (.t 47)), (some (42, true))⟩, ⟨(some 49), (.mv (.t 48)), (some (42, true))⟩, ⟨(some 50), (.mv (.t 7)), (some (49, false))⟩, ⟨(some 51), (.len (.t 50)), (some (49, false))⟩, ⟨(some 52), (.bin .eql .i64 (.t 51) (.c (.int .i64 64))), (some (49, false))⟩, ⟨(some 53), (.pick (.t 49) (.c (.bool true)) (.t 52)), (some (42, true))⟩, ⟨(some 54), (.pick (.t 42) (.t 53) (.c (.bool false))), none⟩]) (.cond (.t 54) (.reg [⟨(some 55), (.mv (.t 6)), none⟩, ⟨(some 56), (.mv (.t 7)), none⟩, ⟨(some 57), (.bslice 1 .val [(.t 56)]), none⟩, ⟨(some 58), (.app 1 24 .tip (.t 55) (.t 57)), none⟩, ⟨(some 6), (.mv (.t 58)), none⟩, ⟨(some 7), (.mv (.c (.sl [] .nil))), none⟩, ⟨(some 8), (.mv (.c (.int .i64 6))), none⟩]) .skip)) (.reg [⟨(some 59), (.mv (.t 7)), none⟩, ⟨(some 60), (.faddr 0 (.t 10)), none⟩, ⟨(some 61), (.load none (.t 60)), none⟩, ⟨(some 62), (.load (some 2) (.t 10)), none⟩, ⟨(some 63), (.bslice 2 .val [(.t 62)]), none⟩, ⟨(some 64), (.qcall 63 [(.t 63)]), none⟩, ⟨(some 65), (.build [(.int .u64 0), (.sl [] .nil)] [(0, (1, (.t 61))), (1, (1, (.t 64)))]), none⟩, ⟨(some 66), (.bslice 2 .val [(.t 65)]), none⟩, ⟨(some 67), (.app 2 32 .tip (.t 59) (.t 66)), none⟩, ⟨(some 68), (.mv (.t 8)), none⟩, ⟨(some 69), (.mv (.t 11)), none⟩, ⟨(some 70), (.len (.t 69)), none⟩, ⟨(some 71), (.bin .add .i64 (.t 68) (.t 70)), none⟩, ⟨(some 7), (.mv (.t 67)), none⟩, ⟨(some 8), (.mv (.t 71)), none⟩])))))) (.reg [⟨(some 72), (.bin .add .i64 (.t 27) (.c (.int .i64 1))), none⟩, ⟨(some 27), (.mv (.t 72)), none⟩]))))))) (.seq (.seq (.reg [⟨(some 73), (.mv (.t 7)), none⟩, ⟨(some 74), (.len (.t 73)), none⟩, ⟨(some 75), (.bin .gtr .i64 (.t 74) (.c (.int .i64 0))), none⟩]) (.cond (.t 75) (.reg [⟨(some 76), (.mv (.t 6)), none⟩, ⟨(some 77), (.mv (.t 7)), none⟩, ⟨(some 78), (.bslice 1 .val [(.t 77)]), none⟩, ⟨(some 79), (.app 1 24 .tip (.t 76) (.t 78)), none⟩, ⟨(some 6), (.mv (.t 79)), none⟩]) .skip)) (.seq (.reg [⟨(some 80), (.mv (.t 6)), none⟩, ⟨(some 4), (.mv (.t 80)), none⟩, ⟨(some 5), (.mv (.c .nili)), none⟩]) .ret))))))))

set_option maxRecDepth 100000 in
theorem k_pgcut : compileC Try.prog ann (Try.f14.body.getD .skip) = some c_pgcut := by kernel_rfl

theorem s_pgcut {args : List AV} {σ : St} {K : AV → St → Prop} (h : WF σ → T Try.prog ann c_pgcut (Fin σ [(.t 4), (.t 5)] K) (args ++ List.replicate (81 - args.length) (.tup [])) σ) : ACalls Try.prog n_pgcut args σ K :=
  calls_ok Try.func14 (by kernel_rfl) (by kernel_rfl) k_pgcut (by kernel_rfl) (by kernel_rfl) h

abbrev n_tflat : Nat := 63

def c_tflat : C := (.seq (.reg [⟨(some 2), (.mv (.c (.sl [] .nil))), none⟩]) (.seq (.reg [⟨(some 3), (.mv (.c (.sl [] .nil))), none⟩]) (.seq (.seq (.reg [⟨(some 8), (.mv (.t 0)), none⟩, ⟨(some 9), (.len (.t 8)), none⟩, ⟨(some 10), (.mv (.c (.int .i64 0))), none⟩]) (.block 0 (.loop (.seq (.reg [⟨(some 11), (.bin .lss .i64 (.t 10) (.t 9)), none⟩]) (.seq (.cond (.t 11) .skip (.exit 0)) (.seq (.block 1 (.seq (.reg [⟨(some 12), (.iaddr 2 (.t 8) (.t 10)), none⟩, ⟨(some 13), (.load (some 2) (.t 12)), none⟩, ⟨(some 5), (.alloc [(.int .u64 0), (.sl [] .nil)]), none⟩, ⟨none, (.store 2 (.t 5) (.t 13)), none⟩]) (.seq (.reg [⟨(some 14), (.faddr 1 (.t 5)), none⟩, ⟨(some 15), (.load none (.t 14)), none⟩, ⟨(some 16), (.len (.t 15)), none⟩, ⟨(some 17), (.mv (.c (.int .i64 0))), none⟩]) (.block 2 (.loop (.seq (.reg [⟨(some 18), (.bin .lss .i64 (.t 17) (.t 16)), none⟩]) (.seq (.cond (.t 18) .skip (.exit 2)) (.seq (.block 3 (.seq (.reg [⟨(some 19), (.iaddr 5 (.t 15) (.t 17)), none⟩, ⟨(some 20), (.load (some 5) (.t 19)), none⟩, ⟨(some 7), (.alloc [(.int .u64 0), (.int .u64 0), (.int .i64 0), (.int .i64 0), (.sl [] .nil)]), none⟩, ⟨none, (.store 5 (.t 7) (.t 20)), none⟩]) (.seq (.reg [⟨(some 21), (.faddr 4 (.t 7)), none⟩, ⟨(some 22), (.load none (.t 21)), none⟩, ⟨(some 23), (.call 81 [(.t 22)]), none⟩, ⟨(some 24), (.faddr 4 (.t 7)), none⟩, ⟨none, (.store 1 (.t 24) (.t 23)), none⟩]) (.reg [⟨(some 25), (.mv (.t 3)), none⟩, ⟨(some 26), (.load (some 5) (.t 7)), none⟩, ⟨(some 27), (.bslice 5 .val [(.t 26)]), none⟩, ⟨(some 28), (.app 5 56 .tip (.t 25) (.t 27)), none⟩, ⟨(some 3), (.mv (.t 28)), none⟩])))) (.reg [⟨(some 29), (.bin .add .i64 (.t 17) (.c (.int .i64 1))), none⟩, ⟨(some 17), (.mv (.t 29)), none⟩]))))))))) (.reg [⟨(some 30), (.bin .add .i64 (.t 10) (.c (.int .i64 1))), none⟩, ⟨(some 10), (.mv (.t 30)), none⟩]))))))) (.seq (.reg [⟨(some 31), (.mv (.t 3)), none⟩, ⟨(some 2), (.mv (.t 31)), none⟩]) .ret))))

set_option maxRecDepth 100000 in
theorem k_tflat : compileC Try.prog ann (Try.f63.body.getD .skip) = some c_tflat := by kernel_rfl

theorem s_tflat {args : List AV} {σ : St} {K : AV → St → Prop} (h : WF σ → T Try.prog ann c_tflat (Fin σ [(.t 2)] K) (args ++ List.replicate (32 - args.length) (.tup [])) σ) : ACalls Try.prog n_tflat args σ K :=
  calls_ok Try.func63 (by kernel_rfl) (by kernel_rfl) k_tflat (by kernel_rfl) (by kernel_rfl) h

abbrev n_pageBack : Nat := 4

def c_pageBack : C := (.seq (.reg [⟨(some 8), (.mv (.c (.bool false))), none⟩]) (.seq (.reg [⟨(some 23), (.call 12 []), none⟩, ⟨(some 9), (.mv (.t 23)), none⟩]) (.seq (.reg [⟨(some 24), (.mv (.t 0)), none⟩, ⟨(some 25), (.call 13 [(.t 24), (.c (.int .i64 200))]), none⟩, ⟨(some 10), (.mv (.t 25)), none⟩]) (.seq (.seq (.reg [⟨(some 26), (.mv (.t 10)), none⟩, ⟨(some 27), (.not (.t 26)), none⟩]) (.cond (.t 27) (.seq (.reg [⟨(some 28), (.mv (.t 9)), none⟩, ⟨(some 8), (.mv (.t 28)), none⟩]) .ret) .skip)) (.seq (.reg [⟨(some 30), (.mv (.t 0)), none⟩, ⟨(some 31), (.call 18 [(.t 30)]), none⟩, ⟨(some 29), (.mv (.t 31)), none⟩, ⟨(some 32), (.ext (.t 29) 0), none⟩, ⟨(some 33), (.ext (.t 29) 1), none⟩, ⟨(some 11), (.mv (.t 32)), none⟩, ⟨(some 12), (.mv (.t 33)), none⟩]) (.seq (.seq (.reg [⟨(some 34), (.mv (.t 12)), none⟩, ⟨(some 35), (.eqI false true [(31, .i64)] (.t 34) (.c .nili)), none⟩]) (.cond (.t 35) (.seq (.reg [⟨(some 37), (.mv (.t 11)), none⟩, ⟨(some 38), (.call 19 [(.t 37)]), none⟩, ⟨(some 36), (.mv (.t 38)), none⟩, ⟨(some 39), (.ext (.t 36) 0), none⟩, ⟨(some 40), (.ext (.t 36) 1), none⟩, ⟨(some 13), (.mv (.t 39)), none⟩, ⟨(some 14), (.mv (.t 40)), none⟩]) (.seq (.seq (.reg [⟨(some 41), (.mv (.t 14)), none⟩, ⟨(some 42), (.eqI true true [(31, .i64)] (.t 41) (.c .nili)), none⟩, ⟨(some 43), (.mv (.t 42)), none⟩, ⟨(some 44), (.mv (.t 13)), (some (43, false))⟩, ⟨(some 45), (.mv (.t 0)), (some (43, false))⟩, ⟨(some 46), (.call 17 [(.t 44), (.t 45)]), (some (43, false))⟩, ⟨(some 47), (.not (.t 46)), (some (43, false))⟩, ⟨(some 48), (.pick (.t 43) (.c (.bool true)) (.t 47)), none⟩]) (.cond (.t 48) (.seq (.reg [⟨(some 8), (.mv (.c (.bool false))), none⟩]) .ret) .skip)) (.seq (.reg [⟨(some 49), (.mv (.t 2)), none⟩, ⟨(some 50), (.bin .geq .i64 (.t 49) (.c (.int .i64 0))), none⟩, ⟨(some 51), (.mv (.t 50)), none⟩, ⟨(some 52), (.mv (.t 2)), (some (51, true))⟩, ⟨(some 53), (.mv (.t 11)), (some (51, true))⟩, ⟨(some 54), (.len (.t 53)), (some (51, true))⟩, ⟨(some 55), (.bin .lss .i64 (.t 52) (.t 54)), (some (51, true))⟩, ⟨(some 56), (.pick (.t 51) (.t 55) (.c (.bool false))), none⟩, ⟨(some 57), (.mv (.t 56)), none⟩, ⟨(some 58), (.mv (.t 3)), (some (57, true))⟩, ⟨(some 59), (.bin .neq .u8 (.t 58) (.c (.int .u8 0))), (some (57, true))⟩, ⟨(some 60), (.pick (.t 57) (.t 59) (.c (.bool false))), none⟩]) (.cond (.t 60) (.seq (.reg [⟨(some 61), (.mv (.t 11)), none⟩, ⟨(some 62), (.mv (.t 2)), none⟩, ⟨(some 63), (.mv (.t 11)), none⟩, ⟨(some 64), (.mv (.t 2)), none⟩, ⟨(some 65), (.iaddr 1 (.t 63) (.t 64)), none⟩, ⟨(some 66), (.load none (.t 65)), none⟩, ⟨(some 67), (.mv (.t 3)), none⟩, ⟨(some 68), (.bin .xor .u8 (.t 66) (.t 67)), none⟩, ⟨(some 69), (.iaddr 1 (.t 61) (.t 62)), none⟩, ⟨none, (.store 1 (.t 69) (.t 68)), none⟩]) (.seq (.reg [⟨(some 71), (.mv (.t 11)), none⟩, ⟨(some 72), (.call 19 [(.t 71)]), none⟩, ⟨(some 70), (.mv (.t 72)), none⟩, ⟨(some 73), (.ext (.t 70) 0), none⟩, ⟨(some 74), (.ext (.t 70) 1), none⟩, ⟨(some 15), (.mv (.t 73)), none⟩, ⟨(some 16), (.mv (.t 74)), none⟩]) (.seq (.reg [⟨(some 75), (.mv (.t 16)), none⟩, ⟨(some 76), (.mkI 31 (.c (.int .i64 7))), none⟩, ⟨(some 77), (.eqI true false [(31, .i64)] (.t 75) (.t 76)), none⟩, ⟨(some 78), (.mv (.t 77)), none⟩, ⟨(some 79), (.mv (.t 15)), (some (78, false))⟩, ⟨(some 80), (.len (.t 79)), (some (78, false))⟩, ⟨(some 81), (.bin .neq .i64 (.t 80) (.c (.int .i64 0))), (some (78, false))⟩, ⟨(some 82), (.pick (.t 78) (.c (.bool true)) (.t 81)), none⟩]) (.cond (.t 82) (.seq (.reg [⟨(some 8), (.mv (.c (.bool false))), none⟩]) .ret) .skip)))) .skip)))) .skip)) (.seq (.reg [⟨(some 84), (.mv (.t 0)), none⟩, ⟨(some 85), (.mv (.t 1)), none⟩, ⟨(some 86), (.call 14 [(.t 84), (.t 85)]), none⟩, ⟨(some 83), (.mv (.t 86)), none⟩, ⟨(some 87), (.ext (.t 83) 0), none⟩, ⟨(some 88), (.ext (.t 83) 1), none⟩, ⟨(some 17), (.mv (.t 87)), none⟩, ⟨(some 18), (.mv (.t 88)), none⟩]) (.seq (.seq (.reg [⟨(some 89), (.mv (.t 18)), none⟩, ⟨(some 90), (.eqI true true [(31, .i64)] (.t 89) (.c .nili)), none⟩]) (.cond (.t 90) (.seq (.reg [⟨(some 91), (.mv (.t 9)), none⟩, ⟨(some 8), (.mv (.t 91)), none⟩]) .ret) .skip)) (.seq (.reg [⟨(some 19), (.mv (.c (.sl [] .nil))), none⟩]) (.seq (.seq (.reg [⟨(some 20), (.mv (.c (.int .i64 0))), none⟩]) (.block 0 (.loop (.seq (.seq (.reg [⟨(some 92), (.mv (.t 20)), none⟩, ⟨(some 93), (.mv (.t 17)), none⟩, ⟨(some 94), (.len (.t 93)), none⟩, ⟨(some 95), (.bin .lss .i64 (.t 92) (.t 94)), none⟩]) (.cond (.t 95) .skip (.exit 0))) (.seq (.block 1 (.seq (.reg [⟨(some 99), (.mv (.t 17)), none⟩, ⟨(some 100), (.mv (.t 20)), none⟩, ⟨(some 101), (.iaddr 1 (.t 99) (.t 100)), none⟩, ⟨(some 102), (.load none (.t 101)), none⟩, ⟨(some 103), (.call 18 [(.t 102)]), none⟩, ⟨(some 98), (.mv (.t 103)), none⟩, ⟨(some 104), (.ext (.t 98) 0), none⟩, ⟨(some 105), (.ext (.t 98) 1), none⟩, ⟨(some 21), (.mv (.t 104)), none⟩, ⟨(some 22), (.mv (.t 105)), none⟩]) (.seq (.seq (.reg [⟨(some 106), (.mv (.t 22)), none⟩, ⟨(some 107), (.eqI true true [(31, .i64)] (.t 106) (.c .nili)), none⟩, ⟨(some 108), (.mv (.t 107)), none⟩, ⟨(some 109), (.mv (.t 17)), (some (108, false))⟩, ⟨(some 110), (.mv (.t 20)), (some (108, false))⟩, ⟨(some 111), (.iaddr 1 (.t 109) (.t 110)), (some (108, false))⟩, ⟨(some 112), (.load none (.t 111)), (some (108, false))⟩, ⟨(some 113), (.len (.t 112)), (some (108, false))⟩, ⟨(some 114), (.bin .eql .i64 (.t 113) (.c (.int .i64 0))), (some (108, false))⟩, ⟨(some 115), (.pick (.t 108) (.c (.bool true)) (.t 114)), none⟩, ⟨(some 116), (.mv (.t 115)), none⟩, ⟨(some 117), (.mv (.t 21)), (some (116, false))⟩, ⟨(some 118), (.len (.t 117)), (some (116, false))⟩, ⟨(some 119), (.mv (.t 1)), (some (116, false))⟩, ⟨(some 120), (.bin .gtr .i64 (.t 118) (.t 119)), (some (116, false))⟩, ⟨(some 121), (.mv (.t 120)), (some (116, false))⟩, ⟨(some 122), (.mv (.t 17)), (some (121, true))⟩, ⟨(some 123), (.mv (.t 20)), (some (121, true))⟩, ⟨(some 124), (.iaddr 1 (.t 122) (.t 123)), (some (121, true))⟩, ⟨(some 125), (.load none (.t 124)), (some (121, true))⟩, ⟨(some 126), (.len (.t 125)), (some (121, true))⟩, ⟨(some 127), (.bin .gtr .i64 (.t 126) (.c (.int .i64 1))), (some (121, true))⟩, ⟨(some 128), (.pick (.t 121) (.t 127) (.c (.bool false))), (some (116, false))⟩, ⟨(some 129), (.pick (.t 116) (.c (.bool true)) (.t 128)), none⟩]) (.cond (.t 129) (.seq (.reg [⟨(some 8), (.mv (.c (.bool false))), none⟩]) .ret) .skip)) (.reg [⟨(some 130), (.mv (.t 19)), none⟩, ⟨(some 131), (.mv (.t 17)), none⟩, ⟨(some 132), (.mv (.t 20)), none⟩, ⟨(some 133), (.iaddr 1 (.t 131) (.t 132)), none⟩, ⟨(some 134), (.load none (.t 133)), none⟩, ⟨(some 135), (.app 2 32 .tip (.t 130) (.t 134)), none⟩, ⟨(some 19), (.mv (.t 135)), none⟩])))) (.reg [⟨(some 96), (.mv (.t 20)), none⟩, ⟨(some 97), (.bin .add .i64 (.t 96) (.c (.int .i64 1))), none⟩, ⟨(some 20), (.mv (.t 97)), none⟩])))))) (.seq (.reg [⟨(some 136), (.mv (.t 9)), none⟩, ⟨(some 137), (.mv (.t 136)), none⟩, ⟨(some 138), (.mv (.t 19)), (some (137, true))⟩, ⟨(some 139), (.mv (.t 0)), (some (137, true))⟩, ⟨(some 140), (.call 17 [(.t 138), (.t 139)]), (some (137, true))⟩, ⟨(some 141), (.pick (.t 137) (.t 140) (.c (.bool false))), none⟩, ⟨(some 8), (.mv (.t 141)), none⟩]) .ret)))))))))))

set_option maxRecDepth 100000 in
theorem k_pageBack : compileC Try.prog ann (Try.f4.body.getD .skip) = some c_pageBack := by kernel_rfl

theorem s_pageBack {args : List AV} {σ : St} {K : AV → St → Prop} (h : WF σ → T Try.prog ann c_pageBack (Fin σ [(.t 8)] K) (args ++ List.replicate (142 - args.length) (.tup [])) σ) : ACalls Try.prog n_pageBack args σ K :=
  calls_ok Try.func4 (by kernel_rfl) (by kernel_rfl) k_pageBack (by kernel_rfl) (by kernel_rfl) h

end Go.VL
