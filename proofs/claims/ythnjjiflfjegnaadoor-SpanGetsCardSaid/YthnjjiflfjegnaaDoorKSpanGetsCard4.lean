/- SpanGets (layer 3): whatever the bytes, the law returns true, and the argument reads as it did. Conditions: the package variable errors.errorType holds what the program's text lays (tied). -/
import Derived.Test.YthnjjiflfjegnaaDoorKSpanGetsCard3
import Derived.Test.YthnjjiflfjegnaaDoorRows
import Derived.Test.YthnjjiflfjegnaaDoorTie
import Derived.Test.YthnjjiflfjegnaaDoorCards
import Derived.Test.YthnjjiflfjegnaaDoorChecked

set_option linter.unusedSimpArgs false
set_option linter.unusedVariables false

namespace Go.VL

open Go.Proofs

/-- a reader (an owned thing nm), a row that grows, and names that nobody knows -/
structure Rk (σ t : St) (nm : Nat) (r : Res) (k : Nat) (v : Ver) : Prop where
  like : Like σ t
  lo : σ.next ≤ nm
  hi : nm < t.next
  at_ : t.res nm = some r
  ver : v = .nil ∨ ∃ g, v = .tip g ∧ g ≠ nm ∧ σ.next ≤ g ∧ g < t.next ∧ t.res g = some (.tip k)

theorem Rk.set {σ t : St} {nm k : Nat} {r : Res} {v : Ver} (h : Rk σ t nm r k v) (r' : Res) : Rk σ (t.set nm r') nm r' k v :=
  ⟨h.like.set _ h.lo, h.lo, h.hi, by simp, h.ver.imp id fun ⟨g, a1, a2, a3, a4, a5⟩ => ⟨g, a1, a2, a3, a4, by rw [St.set_other _ _ a2]; exact a5⟩⟩

theorem Rk.up {σ t : St} {nm k : Nat} {r : Res} {v : Ver} (h : Rk σ t nm r k v) (n : Nat) : Rk σ (t.up n) nm r k v :=
  ⟨h.like.up n, h.lo, Nat.lt_of_lt_of_le h.hi (Nat.le_add_right _ _), h.at_, h.ver.imp id fun ⟨g, a1, a2, a3, a4, a5⟩ => ⟨g, a1, a2, a3, Nat.lt_of_lt_of_le a4 (Nat.le_add_right _ _), a5⟩⟩

theorem Rk.new {σ t : St} {nm k : Nat} {r : Res} {v : Ver} (h : Rk σ t nm r k v) {a : Nat} (r' : Res) (ha : σ.next ≤ a) (hn : a ≠ nm) (hv : ∀ g, v = .tip g → a ≠ g) : Rk σ (t.set a r') nm r k v :=
  ⟨h.like.set _ ha, h.lo, h.hi, by rw [St.set_other _ _ (Ne.symm hn)]; exact h.at_, h.ver.imp id fun ⟨g, a1, a2, a3, a4, a5⟩ => ⟨g, a1, a2, a3, a4, by rw [St.set_other _ _ (Ne.symm (hv g a1))]; exact a5⟩⟩

theorem Rk.lt {σ t : St} {nm k : Nat} {r : Res} {v : Ver} (h : Rk σ t nm r k v) {g : Nat} (hv : v = .tip g) : g < t.next := by
  rcases h.ver with e | ⟨g', e, _, _, h4, _⟩
  · rw [hv] at e; cases e
  · rw [hv] at e; cases e; exact h4

theorem Rk.appNil {σ t : St} {nm k : Nat} {r : Res} (h : Rk σ t nm r k .nil) {g : Nat} (h0 : σ.next ≤ g) (h1 : g ≠ nm) (h2 : g < t.next) : Rk σ (t.set g (.tip k)) nm r k (.tip g) :=
  ⟨h.like.set _ h0, h.lo, h.hi, by rw [St.set_other _ _ (Ne.symm h1)]; exact h.at_, .inr ⟨g, rfl, h1, h0, h2, by simp⟩⟩

theorem Rk.appTip {σ t : St} {nm k g0 : Nat} {r : Res} (h : Rk σ t nm r k (.tip g0)) {g : Nat} (h0 : σ.next ≤ g) (h1 : g ≠ nm) (h2 : g < t.next) : Rk σ ((t.del g0).set g (.tip k)) nm r k (.tip g) := by
  obtain ⟨g', e, a1, a2, a3, a4⟩ := h.ver.resolve_left (by simp)
  cases e
  exact ⟨(h.like.del a2).set _ h0, h.lo, h.hi, by rw [St.set_other _ _ (Ne.symm h1)]; simp only [St.del, if_neg (Ne.symm a1)]; exact h.at_, .inr ⟨g, rfl, h1, h0, h2, by simp⟩⟩

/-- one span -/
def oneS (b : List UInt8) (s : Rs) : Sp :=
  ⟨rW b s 8, rW b (rN b s 8) 8, IntKind.i64.wrap (rW b (rN b (rN b s 8) 8) 8 : Int), IntKind.i64.wrap (rW b (rN b (rN b (rN b s 8) 8) 8) 8 : Int), rX b (rN b (rN b (rN b (rN b s 8) 8) 8) 8)⟩

def oneN (b : List UInt8) (s : Rs) : Rs := rXN b (rN b (rN b (rN b (rN b s 8) 8) 8) 8)

/-- spans, one by one: where they aren't (-1: they are), and they, and the reader -/
def goS (b : List UInt8) : Nat → Rs → List Sp → Int × List Sp × Rs
  | 0, s, acc => if 0 ≤ s.bad then (s.bad, [], s) else (-1, acc, s)
  | n + 1, s, acc => if 0 ≤ s.bad then (s.bad, [], s) else
    if 0 ≤ (oneN b s).bad then ((oneN b s).bad, [], oneN b s) else if mayS (oneS b s) then goS b n (oneN b s) (acc ++ [oneS b s]) else (s.at_, [], oneN b s)

def getS (b : List UInt8) : Int × List Sp :=
  let r := goS b (rW b r0 2) (rN b r0 2) []
  if 0 ≤ r.1 then (r.1, []) else if r.2.2.at_ < b.length then (r.2.2.at_, []) else (-1, r.2.1)

theorem sps_snoc' (a : List Sp) (x : Sp) : spsAV a ++ [.agg [.int .u64 (x.tr : Int), .int .u64 (x.id : Int), .int .i64 x.st, .int .i64 x.en, .sl (bytesAV x.da) .none]] = spsAV (a ++ [x]) := by simp [spsAV, Sp.av]

set_option maxRecDepth 10000 in
set_option maxHeartbeats 4000000 in
theorem spget_ok {b : List UInt8} {σ : St} (hb : b.length ≤ 1000000) :
    ACalls Tryd.prog n_spget [.sl (bytesAV b) .none] σ (fun v σ' => ((getS b).1 < 0 ∧ v = .tup [.sl (spsAV (getS b).2) .none, .nili] ∧ σ' = σ) ∨
      (0 ≤ (getS b).1 ∧ ∃ n, v = .tup [.sl [] .none, .iface tSpot (.ptr n 0)] ∧ σ'.res n = some (.obj [.int .i64 (getS b).1, .int .i64 2]) ∧ σ.next ≤ n ∧ n < σ'.next ∧ Like σ σ')) := by
  refine s_spget (fun wf => ?_)
  unfold c_spget
  have hget : getS b = (let r := goS b (rW b r0 2) (rN b r0 2) []; if 0 ≤ r.1 then (r.1, []) else if r.2.2.at_ < b.length then (r.2.2.at_, []) else (-1, r.2.1)) := rfl
  generalize getS b = G at hget ⊢
  have k0 : Rs.ok b r0 := Rs.ok_r0 (by omega)
  have k1 := rN_ok (w := 2) k0
  have hN := rW_lt (w := 2) k0
  refine T.seq_k (fun K_h0 h0 => ?_)
  refine T.regi hm ?_
  simp only [↓reduceIte, namesOf, List.any, I.names, aops, aopsI, aopsT, qstep, CPt, qget, Tbl.get, astep, ev, setd, List.set, List.getD, List.getElem?_cons_zero, List.getElem?_cons_succ, List.getElem?_nil, List.cons_append, List.nil_append, List.length_cons, List.length_nil, List.replicate, then_normal, inBlock_normal, Option.getD_some, Option.getD_none, Bool.or_false, Bool.or_true, Bool.true_or, Bool.false_or, Bool.false_eq_true, if_false, if_true, up_zero, Nat.reduceAdd, Nat.reduceSub, binv, ↓opt_def, AV.isAny, AV.cells, ldc, List.map_cons, List.map_nil, St.set_next, St.set_same, St.up_next, Int.natCast_nonneg, lt_len, le_len, Int.toNat_natCast, true_and, and_true, eq_self, reduceCtorEq, decide_true, List.length_singleton, er_int, er_bool, er_str]
  refine h0 _ _ ?_
  try clear h0 K_h0
  refine T.seq_k (fun K_h1 h1 => ?_)
  refine T.regi hm ?_
  simp only [↓reduceIte, namesOf, List.any, I.names, aops, aopsI, aopsT, qstep, CPt, qget, Tbl.get, astep, ev, setd, List.set, List.getD, List.getElem?_cons_zero, List.getElem?_cons_succ, List.getElem?_nil, List.cons_append, List.nil_append, List.length_cons, List.length_nil, List.replicate, then_normal, inBlock_normal, Option.getD_some, Option.getD_none, Bool.or_false, Bool.or_true, Bool.true_or, Bool.false_or, Bool.false_eq_true, if_false, if_true, up_zero, Nat.reduceAdd, Nat.reduceSub, binv, ↓opt_def, AV.isAny, AV.cells, ldc, List.map_cons, List.map_nil, St.set_next, St.set_same, St.up_next, Int.natCast_nonneg, lt_len, le_len, Int.toNat_natCast, true_and, and_true, eq_self, reduceCtorEq, decide_true, List.length_singleton, er_int, er_bool, er_str]
  refine wreadF.mono ?_
  rintro v σ1 ⟨nm, rfl, hr1, hn1, hn2, ho1⟩
  have R0 : Rk σ σ1 nm (rdS b .none r0) 5 .nil := ⟨⟨by omega, ho1⟩, hn1, hn2, hr1, .inl rfl⟩
  clear hr1 hn1 hn2 ho1
  try simp only [↓reduceIte, namesOf, List.any, I.names, aops, aopsI, aopsT, qstep, CPt, qget, Tbl.get, astep, ev, setd, List.set, List.getD, List.getElem?_cons_zero, List.getElem?_cons_succ, List.getElem?_nil, List.cons_append, List.nil_append, List.length_cons, List.length_nil, List.replicate, then_normal, inBlock_normal, Option.getD_some, Option.getD_none, Bool.or_false, Bool.or_true, Bool.true_or, Bool.false_or, Bool.false_eq_true, if_false, if_true, up_zero, Nat.reduceAdd, Nat.reduceSub, binv, ↓opt_def, AV.isAny, AV.cells, ldc, List.map_cons, List.map_nil, St.set_next, St.set_same, St.up_next, Int.natCast_nonneg, lt_len, le_len, Int.toNat_natCast, true_and, and_true, eq_self, reduceCtorEq, decide_true, List.length_singleton, er_int, er_bool, er_str, up_zero]
  refine h1 _ _ ?_
  try clear h1 K_h1
  refine T.seq_k (fun K_h1 h1 => ?_)
  refine T.regi hm ?_
  simp only [↓reduceIte, namesOf, List.any, I.names, aops, aopsI, aopsT, qstep, CPt, qget, Tbl.get, astep, ev, setd, List.set, List.getD, List.getElem?_cons_zero, List.getElem?_cons_succ, List.getElem?_nil, List.cons_append, List.nil_append, List.length_cons, List.length_nil, List.replicate, then_normal, inBlock_normal, Option.getD_some, Option.getD_none, Bool.or_false, Bool.or_true, Bool.true_or, Bool.false_or, Bool.false_eq_true, if_false, if_true, up_zero, Nat.reduceAdd, Nat.reduceSub, binv, ↓opt_def, AV.isAny, AV.cells, ldc, List.map_cons, List.map_nil, St.set_next, St.set_same, St.up_next, Int.natCast_nonneg, lt_len, le_len, Int.toNat_natCast, true_and, and_true, eq_self, reduceCtorEq, decide_true, List.length_singleton, er_int, er_bool, er_str]
  refine (wwordF k0 rfl R0.at_).mono ?_
  rintro v σ2 ⟨rfl, rfl⟩
  have R1 := R0.set (rdS b .none (rN b r0 2))
  generalize (σ1.set nm (rdS b .none (rN b r0 2))) = σ2 at R1 ⊢
  clear R0 σ1
  generalize rW b r0 2 = N at hN hget ⊢
  generalize rN b r0 2 = s0 at k1 R1 hget
  have eN : IntKind.i64.wrap (N : Int) = (N : Int) := wrap64 (by omega) (by omega)
  try simp only [↓reduceIte, namesOf, List.any, I.names, aops, aopsI, aopsT, qstep, CPt, qget, Tbl.get, astep, ev, setd, List.set, List.getD, List.getElem?_cons_zero, List.getElem?_cons_succ, List.getElem?_nil, List.cons_append, List.nil_append, List.length_cons, List.length_nil, List.replicate, then_normal, inBlock_normal, Option.getD_some, Option.getD_none, Bool.or_false, Bool.or_true, Bool.true_or, Bool.false_or, Bool.false_eq_true, if_false, if_true, up_zero, Nat.reduceAdd, Nat.reduceSub, binv, ↓opt_def, AV.isAny, AV.cells, ldc, List.map_cons, List.map_nil, St.set_next, St.set_same, St.up_next, Int.natCast_nonneg, lt_len, le_len, Int.toNat_natCast, true_and, and_true, eq_self, reduceCtorEq, decide_true, List.length_singleton, er_int, er_bool, er_str, up_zero, eN]
  refine h1 _ _ ?_
  try clear h1 K_h1
  refine T.seq_k (fun K_h0 h0 => ?_)
  refine T.regi hm ?_
  simp only [↓reduceIte, namesOf, List.any, I.names, aops, aopsI, aopsT, qstep, CPt, qget, Tbl.get, astep, ev, setd, List.set, List.getD, List.getElem?_cons_zero, List.getElem?_cons_succ, List.getElem?_nil, List.cons_append, List.nil_append, List.length_cons, List.length_nil, List.replicate, then_normal, inBlock_normal, Option.getD_some, Option.getD_none, Bool.or_false, Bool.or_true, Bool.true_or, Bool.false_or, Bool.false_eq_true, if_false, if_true, up_zero, Nat.reduceAdd, Nat.reduceSub, binv, ↓opt_def, AV.isAny, AV.cells, ldc, List.map_cons, List.map_nil, St.set_next, St.set_same, St.up_next, Int.natCast_nonneg, lt_len, le_len, Int.toNat_natCast, true_and, and_true, eq_self, reduceCtorEq, decide_true, List.length_singleton, er_int, er_bool, er_str]
  refine h0 _ _ ?_
  try clear h0 K_h0
  refine T.seq_k (fun K_h1 h1 => ?_)
  refine T.seq_k (fun K_h0 h0 => ?_)
  refine T.regi hm ?_
  simp only [↓reduceIte, namesOf, List.any, I.names, aops, aopsI, aopsT, qstep, CPt, qget, Tbl.get, astep, ev, setd, List.set, List.getD, List.getElem?_cons_zero, List.getElem?_cons_succ, List.getElem?_nil, List.cons_append, List.nil_append, List.length_cons, List.length_nil, List.replicate, then_normal, inBlock_normal, Option.getD_some, Option.getD_none, Bool.or_false, Bool.or_true, Bool.true_or, Bool.false_or, Bool.false_eq_true, if_false, if_true, up_zero, Nat.reduceAdd, Nat.reduceSub, binv, ↓opt_def, AV.isAny, AV.cells, ldc, List.map_cons, List.map_nil, St.set_next, St.set_same, St.up_next, Int.natCast_nonneg, lt_len, le_len, Int.toNat_natCast, true_and, and_true, eq_self, reduceCtorEq, decide_true, List.length_singleton, er_int, er_bool, er_str]
  refine h0 _ _ ?_
  try clear h0 K_h0
  refine T.block ?_
  refine T.gh (Gh.keep [0, 4, 5, 6, 7]) ?_
  refine T.loopi (fun i ρ t => ∃ (s : Rs) (acc : List Sp) (vv : Ver), s.ok b ∧ Rk σ t nm (rdS b .none s) 5 vv ∧ acc.length = i ∧ (vv = .nil → acc = []) ∧ goS b N s0 [] = (if 0 ≤ s.bad then (s.bad, [], s) else goS b (N - i) s acc) ∧
      ρ = [.sl (bytesAV b) .none, .any, .any, .any, .ptr nm 0, .int .i64 (N : Int), .sl (spsAV acc) vv, .int .i64 (i : Int)] ++ List.replicate 76 .any)
    N 0 (Nat.zero_le _) ⟨s0, [], .nil, k1, R1, rfl, fun _ => rfl, ?_, rfl⟩ ?_
  · split
    · rename_i hx
      cases N <;> (unfold goS; rw [if_pos hx])
    · rfl
  clear k1 R1 σ2 k0
  rintro i ρ t hi ⟨s, acc, vv, ks, R1, hacc, hvn, hgo, rfl⟩
  -- the end
  have fin : (N - i = 0 ∨ 0 ≤ s.bad) → ∀ ρ', keep [0, 4, 6] 0 ρ' = [.sl (bytesAV b) .none, .any, .any, .any, .ptr nm 0, .any, .sl (spsAV acc) vv] ++ List.replicate 77 .any → K_h1 ρ' t := by
    intro hx ρ' hρ
    refine h1 _ _ ?_
    try clear h1 K_h1
    refine T.gh (Gh.keep [0, 4, 6]) ?_
    rw [hρ]
    have hgo' : goS b N s0 [] = (if 0 ≤ s.bad then (s.bad, [], s) else (-1, acc, s)) := by
      rw [hgo]
      split
      · rfl
      · rename_i hb'
        rcases hx with hx | hx
        · rw [hx]; unfold goS; rw [if_neg hb']
        · exact absurd hx hb'
    have hb0 : G = (if 0 ≤ s.bad then (s.bad, []) else if s.at_ < b.length then (s.at_, []) else (-1, acc)) := by
      rw [hget]
      simp only [hgo']
      split
      · rename_i hx; simp only [hx, if_true]
      · simp
    have hkl := ks.1.len
    have hk0 := ks.1.lo
    have hk1 := ks.1.hi
    refine T.seq_k (fun K_h1 h1 => ?_)
    refine T.block ?_
    refine T.seq_k (fun K_h2 h2 => ?_)
    refine T.regi hm ?_
    simp only [↓reduceIte, namesOf, List.any, I.names, aops, aopsI, aopsT, qstep, CPt, qget, Tbl.get, astep, ev, setd, List.set, List.getD, List.getElem?_cons_zero, List.getElem?_cons_succ, List.getElem?_nil, List.cons_append, List.nil_append, List.length_cons, List.length_nil, List.replicate, then_normal, inBlock_normal, Option.getD_some, Option.getD_none, Bool.or_false, Bool.or_true, Bool.true_or, Bool.false_or, Bool.false_eq_true, if_false, if_true, up_zero, Nat.reduceAdd, Nat.reduceSub, binv, ↓opt_def, AV.isAny, AV.cells, ldc, List.map_cons, List.map_nil, St.set_next, St.set_same, St.up_next, Int.natCast_nonneg, lt_len, le_len, Int.toNat_natCast, true_and, and_true, eq_self, reduceCtorEq, decide_true, List.length_singleton, er_int, er_bool, er_str]
    refine (wbad_ok R1.at_).mono ?_
    rintro v t1 ⟨rfl, rfl⟩
    by_cases hbd : 0 ≤ s.bad
    · rw [if_pos hbd] at hb0
      have e1 : decide (s.bad ≥ 0) = true := decide_eq_true hbd
      try simp only [↓reduceIte, namesOf, List.any, I.names, aops, aopsI, aopsT, qstep, CPt, qget, Tbl.get, astep, ev, setd, List.set, List.getD, List.getElem?_cons_zero, List.getElem?_cons_succ, List.getElem?_nil, List.cons_append, List.nil_append, List.length_cons, List.length_nil, List.replicate, then_normal, inBlock_normal, Option.getD_some, Option.getD_none, Bool.or_false, Bool.or_true, Bool.true_or, Bool.false_or, Bool.false_eq_true, if_false, if_true, up_zero, Nat.reduceAdd, Nat.reduceSub, binv, ↓opt_def, AV.isAny, AV.cells, ldc, List.map_cons, List.map_nil, St.set_next, St.set_same, St.up_next, Int.natCast_nonneg, lt_len, le_len, Int.toNat_natCast, true_and, and_true, eq_self, reduceCtorEq, decide_true, List.length_singleton, er_int, er_bool, er_str, up_zero, e1]
      refine h2 _ _ ?_
      try clear h2 K_h2
      refine T.cond rfl (fun _ => ?_) (fun h => by cases h)
      refine T.seq_k (fun K_h2 h2 => ?_)
      refine T.regi hm ?_
      simp only [↓reduceIte, namesOf, List.any, I.names, aops, aopsI, aopsT, qstep, CPt, qget, Tbl.get, astep, ev, setd, List.set, List.getD, List.getElem?_cons_zero, List.getElem?_cons_succ, List.getElem?_nil, List.cons_append, List.nil_append, List.length_cons, List.length_nil, List.replicate, then_normal, inBlock_normal, Option.getD_some, Option.getD_none, Bool.or_false, Bool.or_true, Bool.true_or, Bool.false_or, Bool.false_eq_true, if_false, if_true, up_zero, Nat.reduceAdd, Nat.reduceSub, binv, ↓opt_def, AV.isAny, AV.cells, ldc, List.map_cons, List.map_nil, St.set_next, St.set_same, St.up_next, Int.natCast_nonneg, lt_len, le_len, Int.toNat_natCast, true_and, and_true, eq_self, reduceCtorEq, decide_true, List.length_singleton, er_int, er_bool, er_str]
      refine (wbad_ok (R1.up 7).at_).mono ?_
      rintro v t2 ⟨rfl, rfl⟩
      try simp only [↓reduceIte, namesOf, List.any, I.names, aops, aopsI, aopsT, qstep, CPt, qget, Tbl.get, astep, ev, setd, List.set, List.getD, List.getElem?_cons_zero, List.getElem?_cons_succ, List.getElem?_nil, List.cons_append, List.nil_append, List.length_cons, List.length_nil, List.replicate, then_normal, inBlock_normal, Option.getD_some, Option.getD_none, Bool.or_false, Bool.or_true, Bool.true_or, Bool.false_or, Bool.false_eq_true, if_false, if_true, up_zero, Nat.reduceAdd, Nat.reduceSub, binv, ↓opt_def, AV.isAny, AV.cells, ldc, List.map_cons, List.map_nil, St.set_next, St.set_same, St.up_next, Int.natCast_nonneg, lt_len, le_len, Int.toNat_natCast, true_and, and_true, eq_self, reduceCtorEq, decide_true, List.length_singleton, er_int, er_bool, er_str, fillA, Option.map, AV.fits, AV.one, List.all_cons, List.all_nil, Nat.reduceBEq, Bool.and_true, Bool.not_false, Bool.and_self, Nat.zero_add, splice, List.take, List.drop, Nat.reduceLeDiff]
      refine h2 _ _ ?_
      try clear h2 K_h2
      refine T.ret (Fin.retw rfl (Wk.tup2 (Wk.sl _ _)) (.inr ⟨by rw [hb0]; exact hbd, t1.next + 3, rfl, by rw [hb0]; simp, by have := R1.like.next; omega, by simp, (R1.like.up 7).set _ (by have := R1.like.next; omega)⟩))
    · rw [if_neg hbd] at hb0
      have e1 : decide (s.bad ≥ 0) = false := decide_eq_false hbd
      have e3 : IntKind.i64.wrap ((b.length : Int) - ((b.length : Int) - s.at_)) = s.at_ := by rw [wrap64 (by omega) (by omega)]; omega
      try simp only [↓reduceIte, namesOf, List.any, I.names, aops, aopsI, aopsT, qstep, CPt, qget, Tbl.get, astep, ev, setd, List.set, List.getD, List.getElem?_cons_zero, List.getElem?_cons_succ, List.getElem?_nil, List.cons_append, List.nil_append, List.length_cons, List.length_nil, List.replicate, then_normal, inBlock_normal, Option.getD_some, Option.getD_none, Bool.or_false, Bool.or_true, Bool.true_or, Bool.false_or, Bool.false_eq_true, if_false, if_true, up_zero, Nat.reduceAdd, Nat.reduceSub, binv, ↓opt_def, AV.isAny, AV.cells, ldc, List.map_cons, List.map_nil, St.set_next, St.set_same, St.up_next, Int.natCast_nonneg, lt_len, le_len, Int.toNat_natCast, true_and, and_true, eq_self, reduceCtorEq, decide_true, List.length_singleton, er_int, er_bool, er_str, up_zero, e1]
      refine h2 _ _ ?_
      try clear h2 K_h2
      refine T.cond rfl (fun h => by cases h) (fun _ => ?_)
      refine T.seq_k (fun K_h2 h2 => ?_)
      refine T.regi hm ?_
      simp only [↓reduceIte, namesOf, List.any, I.names, aops, aopsI, aopsT, qstep, CPt, qget, Tbl.get, astep, ev, setd, List.set, List.getD, List.getElem?_cons_zero, List.getElem?_cons_succ, List.getElem?_nil, List.cons_append, List.nil_append, List.length_cons, List.length_nil, List.replicate, then_normal, inBlock_normal, Option.getD_some, Option.getD_none, Bool.or_false, Bool.or_true, Bool.true_or, Bool.false_or, Bool.false_eq_true, if_false, if_true, up_zero, Nat.reduceAdd, Nat.reduceSub, binv, ↓opt_def, AV.isAny, AV.cells, ldc, List.map_cons, List.map_nil, St.set_next, St.set_same, St.up_next, Int.natCast_nonneg, lt_len, le_len, Int.toNat_natCast, true_and, and_true, eq_self, reduceCtorEq, decide_true, List.length_singleton, er_int, er_bool, er_str]
      refine (wleft_ok hkl hk0 hk1 R1.at_).mono ?_
      rintro v t2 ⟨rfl, rfl⟩
      by_cases hlt : s.at_ < b.length
      · rw [if_pos hlt] at hb0
        have e2 : decide ((b.length : Int) - s.at_ > 0) = true := decide_eq_true (by omega)
        try simp only [↓reduceIte, namesOf, List.any, I.names, aops, aopsI, aopsT, qstep, CPt, qget, Tbl.get, astep, ev, setd, List.set, List.getD, List.getElem?_cons_zero, List.getElem?_cons_succ, List.getElem?_nil, List.cons_append, List.nil_append, List.length_cons, List.length_nil, List.replicate, then_normal, inBlock_normal, Option.getD_some, Option.getD_none, Bool.or_false, Bool.or_true, Bool.true_or, Bool.false_or, Bool.false_eq_true, if_false, if_true, up_zero, Nat.reduceAdd, Nat.reduceSub, binv, ↓opt_def, AV.isAny, AV.cells, ldc, List.map_cons, List.map_nil, St.set_next, St.set_same, St.up_next, Int.natCast_nonneg, lt_len, le_len, Int.toNat_natCast, true_and, and_true, eq_self, reduceCtorEq, decide_true, List.length_singleton, er_int, er_bool, er_str, up_zero, e2]
        refine h2 _ _ ?_
        try clear h2 K_h2
        refine T.cond rfl (fun _ => ?_) (fun h => by cases h)
        refine T.seq_k (fun K_h2 h2 => ?_)
        refine T.regi hm ?_
        simp only [↓reduceIte, namesOf, List.any, I.names, aops, aopsI, aopsT, qstep, CPt, qget, Tbl.get, astep, ev, setd, List.set, List.getD, List.getElem?_cons_zero, List.getElem?_cons_succ, List.getElem?_nil, List.cons_append, List.nil_append, List.length_cons, List.length_nil, List.replicate, then_normal, inBlock_normal, Option.getD_some, Option.getD_none, Bool.or_false, Bool.or_true, Bool.true_or, Bool.false_or, Bool.false_eq_true, if_false, if_true, up_zero, Nat.reduceAdd, Nat.reduceSub, binv, ↓opt_def, AV.isAny, AV.cells, ldc, List.map_cons, List.map_nil, St.set_next, St.set_same, St.up_next, Int.natCast_nonneg, lt_len, le_len, Int.toNat_natCast, true_and, and_true, eq_self, reduceCtorEq, decide_true, List.length_singleton, er_int, er_bool, er_str, bytesAV_len]
        refine (wleft_ok hkl hk0 hk1 (R1.up 10).at_).mono ?_
        rintro v t3 ⟨rfl, rfl⟩
        try simp only [↓reduceIte, namesOf, List.any, I.names, aops, aopsI, aopsT, qstep, CPt, qget, Tbl.get, astep, ev, setd, List.set, List.getD, List.getElem?_cons_zero, List.getElem?_cons_succ, List.getElem?_nil, List.cons_append, List.nil_append, List.length_cons, List.length_nil, List.replicate, then_normal, inBlock_normal, Option.getD_some, Option.getD_none, Bool.or_false, Bool.or_true, Bool.true_or, Bool.false_or, Bool.false_eq_true, if_false, if_true, up_zero, Nat.reduceAdd, Nat.reduceSub, binv, ↓opt_def, AV.isAny, AV.cells, ldc, List.map_cons, List.map_nil, St.set_next, St.set_same, St.up_next, Int.natCast_nonneg, lt_len, le_len, Int.toNat_natCast, true_and, and_true, eq_self, reduceCtorEq, decide_true, List.length_singleton, er_int, er_bool, er_str, fillA, Option.map, AV.fits, AV.one, List.all_cons, List.all_nil, Nat.reduceBEq, Bool.and_true, Bool.not_false, Bool.and_self, Nat.zero_add, splice, List.take, List.drop, Nat.reduceLeDiff, e3]
        refine h2 _ _ ?_
        try clear h2 K_h2
        refine T.ret (Fin.retw rfl (Wk.tup2 (Wk.sl _ _)) (.inr ⟨by rw [hb0]; exact hk0, t2.next + 6, rfl, by rw [hb0]; simp, by have := R1.like.next; omega, by simp, (R1.like.up 10).set _ (by have := R1.like.next; omega)⟩))
      · rw [if_neg hlt] at hb0
        have e2 : decide ((b.length : Int) - s.at_ > 0) = false := decide_eq_false (by omega)
        try simp only [↓reduceIte, namesOf, List.any, I.names, aops, aopsI, aopsT, qstep, CPt, qget, Tbl.get, astep, ev, setd, List.set, List.getD, List.getElem?_cons_zero, List.getElem?_cons_succ, List.getElem?_nil, List.cons_append, List.nil_append, List.length_cons, List.length_nil, List.replicate, then_normal, inBlock_normal, Option.getD_some, Option.getD_none, Bool.or_false, Bool.or_true, Bool.true_or, Bool.false_or, Bool.false_eq_true, if_false, if_true, up_zero, Nat.reduceAdd, Nat.reduceSub, binv, ↓opt_def, AV.isAny, AV.cells, ldc, List.map_cons, List.map_nil, St.set_next, St.set_same, St.up_next, Int.natCast_nonneg, lt_len, le_len, Int.toNat_natCast, true_and, and_true, eq_self, reduceCtorEq, decide_true, List.length_singleton, er_int, er_bool, er_str, up_zero, e2]
        refine h2 _ _ ?_
        try clear h2 K_h2
        refine T.cond rfl (fun h => by cases h) (fun _ => T.skip ?_)
        try simp only [↓reduceIte, namesOf, List.any, I.names, aops, aopsI, aopsT, qstep, CPt, qget, Tbl.get, astep, ev, setd, List.set, List.getD, List.getElem?_cons_zero, List.getElem?_cons_succ, List.getElem?_nil, List.cons_append, List.nil_append, List.length_cons, List.length_nil, List.replicate, then_normal, inBlock_normal, Option.getD_some, Option.getD_none, Bool.or_false, Bool.or_true, Bool.true_or, Bool.false_or, Bool.false_eq_true, if_false, if_true, up_zero, Nat.reduceAdd, Nat.reduceSub, binv, ↓opt_def, AV.isAny, AV.cells, ldc, List.map_cons, List.map_nil, St.set_next, St.set_same, St.up_next, Int.natCast_nonneg, lt_len, le_len, Int.toNat_natCast, true_and, and_true, eq_self, reduceCtorEq, decide_true, List.length_singleton, er_int, er_bool, er_str, inBlock_normal]
        refine h1 _ _ ?_
        try clear h1 K_h1
        refine T.seq_k (fun K_h0 h0 => ?_)
        refine T.regi hm ?_
        simp only [↓reduceIte, namesOf, List.any, I.names, aops, aopsI, aopsT, qstep, CPt, qget, Tbl.get, astep, ev, setd, List.set, List.getD, List.getElem?_cons_zero, List.getElem?_cons_succ, List.getElem?_nil, List.cons_append, List.nil_append, List.length_cons, List.length_nil, List.replicate, then_normal, inBlock_normal, Option.getD_some, Option.getD_none, Bool.or_false, Bool.or_true, Bool.true_or, Bool.false_or, Bool.false_eq_true, if_false, if_true, up_zero, Nat.reduceAdd, Nat.reduceSub, binv, ↓opt_def, AV.isAny, AV.cells, ldc, List.map_cons, List.map_nil, St.set_next, St.set_same, St.up_next, Int.natCast_nonneg, lt_len, le_len, Int.toNat_natCast, true_and, and_true, eq_self, reduceCtorEq, decide_true, List.length_singleton, er_int, er_bool, er_str]
        refine h0 _ _ ?_
        try clear h0 K_h0
        exact T.ret (Fin.quietw rfl (Wk.tup2 (Wk.sl _ _)) ⟨⟨nbs_sps _ _, trivial⟩, trivial, trivial⟩ (R1.like.quiet wf) (.inl ⟨by rw [hb0]; simp, by rw [hb0]; rfl, rfl⟩))
  clear h1
  refine T.seq_k (fun K_h2 h2 => ?_)
  by_cases hil : i < N
  case neg =>
    have e1 : decide ((i : Int) < (N : Int)) = false := decide_eq_false (by omega)
    refine T.seq_k (fun K_h0 h0 => ?_)
    refine T.regi hm ?_
    simp only [↓reduceIte, namesOf, List.any, I.names, aops, aopsI, aopsT, qstep, CPt, qget, Tbl.get, astep, ev, setd, List.set, List.getD, List.getElem?_cons_zero, List.getElem?_cons_succ, List.getElem?_nil, List.cons_append, List.nil_append, List.length_cons, List.length_nil, List.replicate, then_normal, inBlock_normal, Option.getD_some, Option.getD_none, Bool.or_false, Bool.or_true, Bool.true_or, Bool.false_or, Bool.false_eq_true, if_false, if_true, up_zero, Nat.reduceAdd, Nat.reduceSub, binv, ↓opt_def, AV.isAny, AV.cells, ldc, List.map_cons, List.map_nil, St.set_next, St.set_same, St.up_next, Int.natCast_nonneg, lt_len, le_len, Int.toNat_natCast, true_and, and_true, eq_self, reduceCtorEq, decide_true, List.length_singleton, er_int, er_bool, er_str, e1]
    refine h0 _ _ ?_
    try clear h0 K_h0
    refine T.cond rfl (fun h => by cases h) (fun _ => T.exit ?_)
    try simp only [↓reduceIte, namesOf, List.any, I.names, aops, aopsI, aopsT, qstep, CPt, qget, Tbl.get, astep, ev, setd, List.set, List.getD, List.getElem?_cons_zero, List.getElem?_cons_succ, List.getElem?_nil, List.cons_append, List.nil_append, List.length_cons, List.length_nil, List.replicate, then_normal, inBlock_normal, Option.getD_some, Option.getD_none, Bool.or_false, Bool.or_true, Bool.true_or, Bool.false_or, Bool.false_eq_true, if_false, if_true, up_zero, Nat.reduceAdd, Nat.reduceSub, binv, ↓opt_def, AV.isAny, AV.cells, ldc, List.map_cons, List.map_nil, St.set_next, St.set_same, St.up_next, Int.natCast_nonneg, lt_len, le_len, Int.toNat_natCast, true_and, and_true, eq_self, reduceCtorEq, decide_true, List.length_singleton, er_int, er_bool, er_str, inBlock_exit, then_exit]
    exact fin (.inl (by omega)) _ rfl
  have e1 : decide ((i : Int) < (N : Int)) = true := decide_eq_true (by omega)
  refine T.seq_k (fun K_h3 h3 => ?_)
  refine T.regi hm ?_
  simp only [↓reduceIte, namesOf, List.any, I.names, aops, aopsI, aopsT, qstep, CPt, qget, Tbl.get, astep, ev, setd, List.set, List.getD, List.getElem?_cons_zero, List.getElem?_cons_succ, List.getElem?_nil, List.cons_append, List.nil_append, List.length_cons, List.length_nil, List.replicate, then_normal, inBlock_normal, Option.getD_some, Option.getD_none, Bool.or_false, Bool.or_true, Bool.true_or, Bool.false_or, Bool.false_eq_true, if_false, if_true, up_zero, Nat.reduceAdd, Nat.reduceSub, binv, ↓opt_def, AV.isAny, AV.cells, ldc, List.map_cons, List.map_nil, St.set_next, St.set_same, St.up_next, Int.natCast_nonneg, lt_len, le_len, Int.toNat_natCast, true_and, and_true, eq_self, reduceCtorEq, decide_true, List.length_singleton, er_int, er_bool, er_str, e1]
  refine (wbad_ok R1.at_).mono ?_
  rintro v t1 ⟨rfl, rfl⟩
  by_cases hbd : 0 ≤ s.bad
  · have e2 : decide (s.bad < 0) = false := decide_eq_false (by omega)
    try simp only [↓reduceIte, namesOf, List.any, I.names, aops, aopsI, aopsT, qstep, CPt, qget, Tbl.get, astep, ev, setd, List.set, List.getD, List.getElem?_cons_zero, List.getElem?_cons_succ, List.getElem?_nil, List.cons_append, List.nil_append, List.length_cons, List.length_nil, List.replicate, then_normal, inBlock_normal, Option.getD_some, Option.getD_none, Bool.or_false, Bool.or_true, Bool.true_or, Bool.false_or, Bool.false_eq_true, if_false, if_true, up_zero, Nat.reduceAdd, Nat.reduceSub, binv, ↓opt_def, AV.isAny, AV.cells, ldc, List.map_cons, List.map_nil, St.set_next, St.set_same, St.up_next, Int.natCast_nonneg, lt_len, le_len, Int.toNat_natCast, true_and, and_true, eq_self, reduceCtorEq, decide_true, List.length_singleton, er_int, er_bool, er_str, up_zero, e2]
    refine h3 _ _ ?_
    try clear h3 K_h3
    refine T.cond rfl (fun h => by cases h) (fun _ => T.exit ?_)
    try simp only [↓reduceIte, namesOf, List.any, I.names, aops, aopsI, aopsT, qstep, CPt, qget, Tbl.get, astep, ev, setd, List.set, List.getD, List.getElem?_cons_zero, List.getElem?_cons_succ, List.getElem?_nil, List.cons_append, List.nil_append, List.length_cons, List.length_nil, List.replicate, then_normal, inBlock_normal, Option.getD_some, Option.getD_none, Bool.or_false, Bool.or_true, Bool.true_or, Bool.false_or, Bool.false_eq_true, if_false, if_true, up_zero, Nat.reduceAdd, Nat.reduceSub, binv, ↓opt_def, AV.isAny, AV.cells, ldc, List.map_cons, List.map_nil, St.set_next, St.set_same, St.up_next, Int.natCast_nonneg, lt_len, le_len, Int.toNat_natCast, true_and, and_true, eq_self, reduceCtorEq, decide_true, List.length_singleton, er_int, er_bool, er_str, inBlock_exit, then_exit]
    exact fin (.inr hbd) _ rfl
  have e2 : decide (s.bad < 0) = true := decide_eq_true (by omega)
  try simp only [↓reduceIte, namesOf, List.any, I.names, aops, aopsI, aopsT, qstep, CPt, qget, Tbl.get, astep, ev, setd, List.set, List.getD, List.getElem?_cons_zero, List.getElem?_cons_succ, List.getElem?_nil, List.cons_append, List.nil_append, List.length_cons, List.length_nil, List.replicate, then_normal, inBlock_normal, Option.getD_some, Option.getD_none, Bool.or_false, Bool.or_true, Bool.true_or, Bool.false_or, Bool.false_eq_true, if_false, if_true, up_zero, Nat.reduceAdd, Nat.reduceSub, binv, ↓opt_def, AV.isAny, AV.cells, ldc, List.map_cons, List.map_nil, St.set_next, St.set_same, St.up_next, Int.natCast_nonneg, lt_len, le_len, Int.toNat_natCast, true_and, and_true, eq_self, reduceCtorEq, decide_true, List.length_singleton, er_int, er_bool, er_str, up_zero, e2]
  refine h3 _ _ ?_
  try clear h3 K_h3
  refine T.cond rfl (fun _ => T.skip ?_) (fun h => by cases h)
  refine h2 _ _ ?_
  try clear h2 K_h2
  clear fin
  rw [if_neg hbd] at hgo
  obtain ⟨n, hn⟩ : ∃ n, N - i = n + 1 := ⟨N - i - 1, by omega⟩
  have hn' : N - (i + 1) = n := by omega
  rw [hn] at hgo
  have hgo1 : goS b N s0 [] = (if 0 ≤ (oneN b s).bad then ((oneN b s).bad, [], oneN b s) else if mayS (oneS b s) then goS b n (oneN b s) (acc ++ [oneS b s]) else (s.at_, [], oneN b s)) := by
    rw [hgo]; conv => lhs; unfold goS
    rw [if_neg hbd]
  clear hgo
  have hkl := ks.1.len
  have hk0 := ks.1.lo
  have hk1 := ks.1.hi
  have e3 : IntKind.i64.wrap ((b.length : Int) - ((b.length : Int) - s.at_)) = s.at_ := by rw [wrap64 (by omega) (by omega)]; omega
  have hiw := inc64' hil (by omega)
  refine T.seq_k (fun K_h2 h2 => ?_)
  refine T.block ?_
  refine T.seq_k (fun K_h3 h3 => ?_)
  refine T.regi hm ?_
  simp only [↓reduceIte, namesOf, List.any, I.names, aops, aopsI, aopsT, qstep, CPt, qget, Tbl.get, astep, ev, setd, List.set, List.getD, List.getElem?_cons_zero, List.getElem?_cons_succ, List.getElem?_nil, List.cons_append, List.nil_append, List.length_cons, List.length_nil, List.replicate, then_normal, inBlock_normal, Option.getD_some, Option.getD_none, Bool.or_false, Bool.or_true, Bool.true_or, Bool.false_or, Bool.false_eq_true, if_false, if_true, up_zero, Nat.reduceAdd, Nat.reduceSub, binv, ↓opt_def, AV.isAny, AV.cells, ldc, List.map_cons, List.map_nil, St.set_next, St.set_same, St.up_next, Int.natCast_nonneg, lt_len, le_len, Int.toNat_natCast, true_and, and_true, eq_self, reduceCtorEq, decide_true, List.length_singleton, er_int, er_bool, er_str, bytesAV_len]
  refine (wleft_ok hkl hk0 hk1 R1.at_).mono ?_
  rintro v t2 ⟨rfl, rfl⟩
  try simp only [↓reduceIte, namesOf, List.any, I.names, aops, aopsI, aopsT, qstep, CPt, qget, Tbl.get, astep, ev, setd, List.set, List.getD, List.getElem?_cons_zero, List.getElem?_cons_succ, List.getElem?_nil, List.cons_append, List.nil_append, List.length_cons, List.length_nil, List.replicate, then_normal, inBlock_normal, Option.getD_some, Option.getD_none, Bool.or_false, Bool.or_true, Bool.true_or, Bool.false_or, Bool.false_eq_true, if_false, if_true, up_zero, Nat.reduceAdd, Nat.reduceSub, binv, ↓opt_def, AV.isAny, AV.cells, ldc, List.map_cons, List.map_nil, St.set_next, St.set_same, St.up_next, Int.natCast_nonneg, lt_len, le_len, Int.toNat_natCast, true_and, and_true, eq_self, reduceCtorEq, decide_true, List.length_singleton, er_int, er_bool, er_str, up_zero, e3]
  refine h3 _ _ ?_
  try clear h3 K_h3
  have ks1 := rN_ok (w := 8) ks
  have ks2 := rN_ok (w := 8) ks1
  have ks3 := rN_ok (w := 8) ks2
  have ks4 := rN_ok (w := 8) ks3
  have ks5 := rXN_ok ks4
  have hS : oneS b s = ⟨rW b s 8, rW b (rN b s 8) 8, IntKind.i64.wrap (rW b (rN b (rN b s 8) 8) 8 : Int), IntKind.i64.wrap (rW b (rN b (rN b (rN b s 8) 8) 8) 8 : Int), rX b (rN b (rN b (rN b (rN b s 8) 8) 8) 8)⟩ := rfl
  have hNn : oneN b s = rXN b (rN b (rN b (rN b (rN b s 8) 8) 8) 8) := rfl
  generalize oneS b s = X at hS hgo1
  generalize oneN b s = s' at hNn hgo1
  have hxl := rX_len ks4
  -- the Trace and the Id
  refine T.seq_k (fun K_h3 h3 => ?_)
  refine T.regi hm ?_
  simp only [↓reduceIte, namesOf, List.any, I.names, aops, aopsI, aopsT, qstep, CPt, qget, Tbl.get, astep, ev, setd, List.set, List.getD, List.getElem?_cons_zero, List.getElem?_cons_succ, List.getElem?_nil, List.cons_append, List.nil_append, List.length_cons, List.length_nil, List.replicate, then_normal, inBlock_normal, Option.getD_some, Option.getD_none, Bool.or_false, Bool.or_true, Bool.true_or, Bool.false_or, Bool.false_eq_true, if_false, if_true, up_zero, Nat.reduceAdd, Nat.reduceSub, binv, ↓opt_def, AV.isAny, AV.cells, ldc, List.map_cons, List.map_nil, St.set_next, St.set_same, St.up_next, Int.natCast_nonneg, lt_len, le_len, Int.toNat_natCast, true_and, and_true, eq_self, reduceCtorEq, decide_true, List.length_singleton, er_int, er_bool, er_str]
  refine (wwordF ks rfl (R1.up 7).at_).mono ?_
  rintro v u ⟨rfl, rfl⟩
  try simp only [↓reduceIte, namesOf, List.any, I.names, aops, aopsI, aopsT, qstep, CPt, qget, Tbl.get, astep, ev, setd, List.set, List.getD, List.getElem?_cons_zero, List.getElem?_cons_succ, List.getElem?_nil, List.cons_append, List.nil_append, List.length_cons, List.length_nil, List.replicate, then_normal, inBlock_normal, Option.getD_some, Option.getD_none, Bool.or_false, Bool.or_true, Bool.true_or, Bool.false_or, Bool.false_eq_true, if_false, if_true, up_zero, Nat.reduceAdd, Nat.reduceSub, binv, ↓opt_def, AV.isAny, AV.cells, ldc, List.map_cons, List.map_nil, St.set_next, St.set_same, St.up_next, Int.natCast_nonneg, lt_len, le_len, Int.toNat_natCast, true_and, and_true, eq_self, reduceCtorEq, decide_true, List.length_singleton, er_int, er_bool, er_str, ]
  refine (wwordF ks1 rfl (St.set_same _ _ _)).mono ?_
  rintro v u ⟨rfl, rfl⟩
  rw [St.set_set]
  try simp only [↓reduceIte, namesOf, List.any, I.names, aops, aopsI, aopsT, qstep, CPt, qget, Tbl.get, astep, ev, setd, List.set, List.getD, List.getElem?_cons_zero, List.getElem?_cons_succ, List.getElem?_nil, List.cons_append, List.nil_append, List.length_cons, List.length_nil, List.replicate, then_normal, inBlock_normal, Option.getD_some, Option.getD_none, Bool.or_false, Bool.or_true, Bool.true_or, Bool.false_or, Bool.false_eq_true, if_false, if_true, up_zero, Nat.reduceAdd, Nat.reduceSub, binv, ↓opt_def, AV.isAny, AV.cells, ldc, List.map_cons, List.map_nil, St.set_next, St.set_same, St.up_next, Int.natCast_nonneg, lt_len, le_len, Int.toNat_natCast, true_and, and_true, eq_self, reduceCtorEq, decide_true, List.length_singleton, er_int, er_bool, er_str, fillA, Option.map, AV.fits, AV.one, List.all_cons, List.all_nil, Nat.reduceBEq, Bool.and_true, Bool.not_false, Bool.and_self, Nat.zero_add, splice, List.take, List.drop, Nat.reduceLeDiff, St.set_set]
  have hsn := R1.like.next
  have hnmt := R1.hi
  have RA := ((R1.up 7).set (rdS b .none (rN b (rN b s 8) 8))).new (a := t2.next + 5) (.obj [.int .u64 (rW b s 8 : Int), .int .u64 (rW b (rN b s 8) 8 : Int), .int .i64 0, .int .i64 0, .sl [] .nil]) (by omega) (by omega) (fun g hg => by have := R1.lt hg; omega)
  have hA : (((t2.up 7).set nm (rdS b .none (rN b (rN b s 8) 8))).set (t2.next + 5) (.obj [.int .u64 (rW b s 8 : Int), .int .u64 (rW b (rN b s 8) 8 : Int), .int .i64 0, .int .i64 0, .sl [] .nil])).res (t2.next + 5) = some (.obj [.int .u64 (rW b s 8 : Int), .int .u64 (rW b (rN b s 8) 8 : Int), .int .i64 0, .int .i64 0, .sl [] .nil]) := by simp
  have ha0 : σ.next ≤ t2.next + 5 := by omega
  have ha1 : t2.next + 5 < (((t2.up 7).set nm (rdS b .none (rN b (rN b s 8) 8))).set (t2.next + 5) (.obj [.int .u64 (rW b s 8 : Int), .int .u64 (rW b (rN b s 8) 8 : Int), .int .i64 0, .int .i64 0, .sl [] .nil])).next := by simp
  have ha2 : t2.next + 5 ≠ nm := by omega
  have ha3 : ∀ g, vv = .tip g → t2.next + 5 ≠ g := fun g hg => by have := R1.lt hg; omega
  generalize (((t2.up 7).set nm (rdS b .none (rN b (rN b s 8) 8))).set (t2.next + 5) (.obj [.int .u64 (rW b s 8 : Int), .int .u64 (rW b (rN b s 8) 8 : Int), .int .i64 0, .int .i64 0, .sl [] .nil])) = uA at RA hA ha1 ⊢
  generalize t2.next + 5 = a at hA ha0 ha1 ha2 ha3 ⊢
  clear R1 hsn hnmt
  refine h3 _ _ ?_
  try clear h3 K_h3
  -- the Start
  refine T.seq_k (fun K_h3 h3 => ?_)
  refine T.regi hm ?_
  simp only [↓reduceIte, namesOf, List.any, I.names, aops, aopsI, aopsT, qstep, CPt, qget, Tbl.get, astep, ev, setd, List.set, List.getD, List.getElem?_cons_zero, List.getElem?_cons_succ, List.getElem?_nil, List.cons_append, List.nil_append, List.length_cons, List.length_nil, List.replicate, then_normal, inBlock_normal, Option.getD_some, Option.getD_none, Bool.or_false, Bool.or_true, Bool.true_or, Bool.false_or, Bool.false_eq_true, if_false, if_true, up_zero, Nat.reduceAdd, Nat.reduceSub, binv, ↓opt_def, AV.isAny, AV.cells, ldc, List.map_cons, List.map_nil, St.set_next, St.set_same, St.up_next, Int.natCast_nonneg, lt_len, le_len, Int.toNat_natCast, true_and, and_true, eq_self, reduceCtorEq, decide_true, List.length_singleton, er_int, er_bool, er_str]
  refine (wwordF ks2 rfl RA.at_).mono ?_
  rintro v u ⟨rfl, rfl⟩
  have RB0 := RA.set (rdS b .none (rN b (rN b (rN b s 8) 8) 8))
  have hB0 : (uA.set nm (rdS b .none (rN b (rN b (rN b s 8) 8) 8))).res a = _ := (St.set_other _ _ ha2).trans hA
  have hBn : a < (uA.set nm (rdS b .none (rN b (rN b (rN b s 8) 8) 8))).next := ha1
  generalize (uA.set nm (rdS b .none (rN b (rN b (rN b s 8) 8) 8))) = uB at RB0 hB0 hBn ⊢
  try simp only [↓reduceIte, namesOf, List.any, I.names, aops, aopsI, aopsT, qstep, CPt, qget, Tbl.get, astep, ev, setd, List.set, List.getD, List.getElem?_cons_zero, List.getElem?_cons_succ, List.getElem?_nil, List.cons_append, List.nil_append, List.length_cons, List.length_nil, List.replicate, then_normal, inBlock_normal, Option.getD_some, Option.getD_none, Bool.or_false, Bool.or_true, Bool.true_or, Bool.false_or, Bool.false_eq_true, if_false, if_true, up_zero, Nat.reduceAdd, Nat.reduceSub, binv, ↓opt_def, AV.isAny, AV.cells, ldc, List.map_cons, List.map_nil, St.set_next, St.set_same, St.up_next, Int.natCast_nonneg, lt_len, le_len, Int.toNat_natCast, true_and, and_true, eq_self, reduceCtorEq, decide_true, List.length_singleton, er_int, er_bool, er_str, hB0, AV.fits, AV.one, List.all_cons, List.all_nil, Nat.reduceBEq, Bool.and_true, Bool.not_false, Bool.and_self, Nat.zero_add, splice, List.take, List.drop, Nat.reduceLeDiff]
  have RB := RB0.new (a := a) (.obj [.int .u64 (rW b s 8 : Int), .int .u64 (rW b (rN b s 8) 8 : Int), .int .i64 (IntKind.i64.wrap (rW b (rN b (rN b s 8) 8) 8 : Int)), .int .i64 0, .sl [] .nil]) ha0 ha2 ha3
  have hB : (uB.set a (.obj [.int .u64 (rW b s 8 : Int), .int .u64 (rW b (rN b s 8) 8 : Int), .int .i64 (IntKind.i64.wrap (rW b (rN b (rN b s 8) 8) 8 : Int)), .int .i64 0, .sl [] .nil])).res a = _ := St.set_same _ _ _
  have hBn' : a < (uB.set a (.obj [.int .u64 (rW b s 8 : Int), .int .u64 (rW b (rN b s 8) 8 : Int), .int .i64 (IntKind.i64.wrap (rW b (rN b (rN b s 8) 8) 8 : Int)), .int .i64 0, .sl [] .nil])).next := hBn
  generalize (uB.set a (.obj [.int .u64 (rW b s 8 : Int), .int .u64 (rW b (rN b s 8) 8 : Int), .int .i64 (IntKind.i64.wrap (rW b (rN b (rN b s 8) 8) 8 : Int)), .int .i64 0, .sl [] .nil])) = uB2 at RB hB hBn' ⊢
  clear RA hA ha1 RB0 hB0 hBn
  refine h3 _ _ ?_
  try clear h3 K_h3
  -- the End
  refine T.seq_k (fun K_h3 h3 => ?_)
  refine T.regi hm ?_
  simp only [↓reduceIte, namesOf, List.any, I.names, aops, aopsI, aopsT, qstep, CPt, qget, Tbl.get, astep, ev, setd, List.set, List.getD, List.getElem?_cons_zero, List.getElem?_cons_succ, List.getElem?_nil, List.cons_append, List.nil_append, List.length_cons, List.length_nil, List.replicate, then_normal, inBlock_normal, Option.getD_some, Option.getD_none, Bool.or_false, Bool.or_true, Bool.true_or, Bool.false_or, Bool.false_eq_true, if_false, if_true, up_zero, Nat.reduceAdd, Nat.reduceSub, binv, ↓opt_def, AV.isAny, AV.cells, ldc, List.map_cons, List.map_nil, St.set_next, St.set_same, St.up_next, Int.natCast_nonneg, lt_len, le_len, Int.toNat_natCast, true_and, and_true, eq_self, reduceCtorEq, decide_true, List.length_singleton, er_int, er_bool, er_str]
  refine (wwordF ks3 rfl RB.at_).mono ?_
  rintro v u ⟨rfl, rfl⟩
  have RC0 := RB.set (rdS b .none (rN b (rN b (rN b (rN b s 8) 8) 8) 8))
  have hC0 : (uB2.set nm (rdS b .none (rN b (rN b (rN b (rN b s 8) 8) 8) 8))).res a = _ := (St.set_other _ _ ha2).trans hB
  have hCn : a < (uB2.set nm (rdS b .none (rN b (rN b (rN b (rN b s 8) 8) 8) 8))).next := hBn'
  generalize (uB2.set nm (rdS b .none (rN b (rN b (rN b (rN b s 8) 8) 8) 8))) = uC at RC0 hC0 hCn ⊢
  try simp only [↓reduceIte, namesOf, List.any, I.names, aops, aopsI, aopsT, qstep, CPt, qget, Tbl.get, astep, ev, setd, List.set, List.getD, List.getElem?_cons_zero, List.getElem?_cons_succ, List.getElem?_nil, List.cons_append, List.nil_append, List.length_cons, List.length_nil, List.replicate, then_normal, inBlock_normal, Option.getD_some, Option.getD_none, Bool.or_false, Bool.or_true, Bool.true_or, Bool.false_or, Bool.false_eq_true, if_false, if_true, up_zero, Nat.reduceAdd, Nat.reduceSub, binv, ↓opt_def, AV.isAny, AV.cells, ldc, List.map_cons, List.map_nil, St.set_next, St.set_same, St.up_next, Int.natCast_nonneg, lt_len, le_len, Int.toNat_natCast, true_and, and_true, eq_self, reduceCtorEq, decide_true, List.length_singleton, er_int, er_bool, er_str, hC0, AV.fits, AV.one, List.all_cons, List.all_nil, Nat.reduceBEq, Bool.and_true, Bool.not_false, Bool.and_self, Nat.zero_add, splice, List.take, List.drop, Nat.reduceLeDiff]
  have RC := RC0.new (a := a) (.obj [.int .u64 (rW b s 8 : Int), .int .u64 (rW b (rN b s 8) 8 : Int), .int .i64 (IntKind.i64.wrap (rW b (rN b (rN b s 8) 8) 8 : Int)), .int .i64 (IntKind.i64.wrap (rW b (rN b (rN b (rN b s 8) 8) 8) 8 : Int)), .sl [] .nil]) ha0 ha2 ha3
  have hC : (uC.set a (.obj [.int .u64 (rW b s 8 : Int), .int .u64 (rW b (rN b s 8) 8 : Int), .int .i64 (IntKind.i64.wrap (rW b (rN b (rN b s 8) 8) 8 : Int)), .int .i64 (IntKind.i64.wrap (rW b (rN b (rN b (rN b s 8) 8) 8) 8 : Int)), .sl [] .nil])).res a = _ := St.set_same _ _ _
  have hCn' : a < (uC.set a (.obj [.int .u64 (rW b s 8 : Int), .int .u64 (rW b (rN b s 8) 8 : Int), .int .i64 (IntKind.i64.wrap (rW b (rN b (rN b s 8) 8) 8 : Int)), .int .i64 (IntKind.i64.wrap (rW b (rN b (rN b (rN b s 8) 8) 8) 8 : Int)), .sl [] .nil])).next := hCn
  generalize (uC.set a (.obj [.int .u64 (rW b s 8 : Int), .int .u64 (rW b (rN b s 8) 8 : Int), .int .i64 (IntKind.i64.wrap (rW b (rN b (rN b s 8) 8) 8 : Int)), .int .i64 (IntKind.i64.wrap (rW b (rN b (rN b (rN b s 8) 8) 8) 8 : Int)), .sl [] .nil])) = uC2 at RC hC hCn' ⊢
  clear RB hB hBn' RC0 hC0 hCn
  refine h3 _ _ ?_
  try clear h3 K_h3
  -- the Data
  refine T.seq_k (fun K_h3 h3 => ?_)
  refine T.regi hm ?_
  simp only [↓reduceIte, namesOf, List.any, I.names, aops, aopsI, aopsT, qstep, CPt, qget, Tbl.get, astep, ev, setd, List.set, List.getD, List.getElem?_cons_zero, List.getElem?_cons_succ, List.getElem?_nil, List.cons_append, List.nil_append, List.length_cons, List.length_nil, List.replicate, then_normal, inBlock_normal, Option.getD_some, Option.getD_none, Bool.or_false, Bool.or_true, Bool.true_or, Bool.false_or, Bool.false_eq_true, if_false, if_true, up_zero, Nat.reduceAdd, Nat.reduceSub, binv, ↓opt_def, AV.isAny, AV.cells, ldc, List.map_cons, List.map_nil, St.set_next, St.set_same, St.up_next, Int.natCast_nonneg, lt_len, le_len, Int.toNat_natCast, true_and, and_true, eq_self, reduceCtorEq, decide_true, List.length_singleton, er_int, er_bool, er_str]
  refine (wtextR_ok ks4 RC.at_).mono ?_
  rintro v u ⟨rfl, rfl⟩
  rw [← hNn] at ks5 ⊢
  have RD0 := RC.set (rdS b .none s')
  have hD0 : (uC2.set nm (rdS b .none s')).res a = _ := (St.set_other _ _ ha2).trans hC
  have hDn : a < (uC2.set nm (rdS b .none s')).next := hCn'
  generalize (uC2.set nm (rdS b .none s')) = uD at RD0 hD0 hDn ⊢
  try simp only [↓reduceIte, namesOf, List.any, I.names, aops, aopsI, aopsT, qstep, CPt, qget, Tbl.get, astep, ev, setd, List.set, List.getD, List.getElem?_cons_zero, List.getElem?_cons_succ, List.getElem?_nil, List.cons_append, List.nil_append, List.length_cons, List.length_nil, List.replicate, then_normal, inBlock_normal, Option.getD_some, Option.getD_none, Bool.or_false, Bool.or_true, Bool.true_or, Bool.false_or, Bool.false_eq_true, if_false, if_true, up_zero, Nat.reduceAdd, Nat.reduceSub, binv, ↓opt_def, AV.isAny, AV.cells, ldc, List.map_cons, List.map_nil, St.set_next, St.set_same, St.up_next, Int.natCast_nonneg, lt_len, le_len, Int.toNat_natCast, true_and, and_true, eq_self, reduceCtorEq, decide_true, List.length_singleton, er_int, er_bool, er_str, hD0, AV.fits, AV.one, List.all_cons, List.all_nil, Nat.reduceBEq, Bool.and_true, Bool.not_false, Bool.and_self, Nat.zero_add, splice, List.take, List.drop, Nat.reduceLeDiff]
  have hcells : [AV.int .u64 (rW b s 8 : Int), .int .u64 (rW b (rN b s 8) 8 : Int), .int .i64 (IntKind.i64.wrap (rW b (rN b (rN b s 8) 8) 8 : Int)), .int .i64 (IntKind.i64.wrap (rW b (rN b (rN b (rN b s 8) 8) 8) 8 : Int)), .sl (bytesAV (rX b (rN b (rN b (rN b (rN b s 8) 8) 8) 8))) .none] =
      [.int .u64 (X.tr : Int), .int .u64 (X.id : Int), .int .i64 X.st, .int .i64 X.en, .sl (bytesAV X.da) .none] := by rw [hS]
  have hXl : X.da.length ≤ 65535 := by rw [hS]; exact hxl
  rw [hcells]
  clear hcells hS hxl
  have RE := RD0.new (a := a) (.obj [.int .u64 (X.tr : Int), .int .u64 (X.id : Int), .int .i64 X.st, .int .i64 X.en, .sl (bytesAV X.da) .none]) ha0 ha2 ha3
  have hE : (uD.set a (.obj [.int .u64 (X.tr : Int), .int .u64 (X.id : Int), .int .i64 X.st, .int .i64 X.en, .sl (bytesAV X.da) .none])).res a = _ := St.set_same _ _ _
  generalize (uD.set a (.obj [.int .u64 (X.tr : Int), .int .u64 (X.id : Int), .int .i64 X.st, .int .i64 X.en, .sl (bytesAV X.da) .none])) = uE at RE hE ⊢
  clear RC hC hCn' RD0 hD0 hDn
  refine h3 _ _ ?_
  try clear h3 K_h3
  -- may it be?
  have hms : mayI X.st X.en (((bytesAV X.da).length : Nat) : Int) = mayS X := by rw [bytesAV_len]; rfl
  refine T.seq_k (fun K_h3 h3 => ?_)
  have out : (0 ≤ s'.bad ∨ mayS X = true) → ∀ ρ', keep [0, 4, 5, 6, 7, 9] 0 ρ' = [.sl (bytesAV b) .none, .any, .any, .any, .ptr nm 0, .int .i64 (N : Int), .sl (spsAV acc) vv, .int .i64 (i : Int), .any, .ptr a 0] ++ List.replicate 74 .any → K_h3 ρ' uE := by
    intro hor ρ' hρ
    refine h3 _ _ ?_
    try clear h3 K_h3
    refine T.gh (Gh.keep [0, 4, 5, 6, 7, 9]) ?_
    rw [hρ]
    have hgo2 : goS b N s0 [] = (if 0 ≤ s'.bad then (s'.bad, [], s') else goS b (N - (i + 1)) s' (acc ++ [X])) := by
      rw [hgo1, hn']
      split
      · rfl
      · rename_i hx
        rcases hor with h | h
        · exact absurd h hx
        · rw [if_pos h]
    have hEn : ∀ k, (uE.up k).res a = some (.obj [.int .u64 (X.tr : Int), .int .u64 (X.id : Int), .int .i64 X.st, .int .i64 X.en, .sl (bytesAV X.da) .none]) := fun _ => hE
    have hsn := RE.like.next
    have hnm := RE.hi
    have hfit : (spsAV (acc ++ [X])).all (AV.fits 5) = true := sps_fits _
    have hfit1 : AV.fits 5 (.agg [.int .u64 (X.tr : Int), .int .u64 (X.id : Int), .int .i64 X.st, .int .i64 X.en, .sl (bytesAV X.da) .none]) = true := rfl
    have her : (AV.agg [.int .u64 (X.tr : Int), .int .u64 (X.id : Int), .int .i64 X.st, .int .i64 X.en, .sl (bytesAV X.da) .none]).er = .agg [.int .u64 (X.tr : Int), .int .u64 (X.id : Int), .int .i64 X.st, .int .i64 X.en, .sl (bytesAV X.da) .none] := rfl
    have hle : decide ((acc.length + 1) * 56 ≤ 70368744177664 ∧ acc.length + 1 ≤ 4611686018427387904) = true := decide_eq_true (by omega)
    have hlen5 : ∀ x y z w q : AV, [x, y, z, w, q].length = 5 := fun _ _ _ _ _ => rfl
    have htake : ∀ x y z w q : AV, List.take 5 (List.drop 0 [x, y, z, w, q]) = [x, y, z, w, q] := fun _ _ _ _ _ => rfl
    have h05 : 0 + 5 ≤ 5 := Nat.le_refl _
    rcases RE.ver with rfl | ⟨g, rfl, _, _, _, hg⟩
    · have hac := hvn rfl
      subst hac
      have hX1 : [AV.agg [.int .u64 (X.tr : Int), .int .u64 (X.id : Int), .int .i64 X.st, .int .i64 X.en, .sl (bytesAV X.da) .none]] = spsAV [X] := rfl
      have hX0 : spsAV ([] : List Sp) = [] := rfl
      have hX2 : (spsAV [X]).isEmpty = false := rfl
      have hX3 : (spsAV [X]).all (AV.fits 5) = true := sps_fits _
      refine T.regi hm ?_
      simp only [↓reduceIte, namesOf, List.any, I.names, aops, aopsI, aopsT, qstep, CPt, qget, Tbl.get, astep, ev, setd, List.set, List.getD, List.getElem?_cons_zero, List.getElem?_cons_succ, List.getElem?_nil, List.cons_append, List.nil_append, List.length_cons, List.length_nil, List.replicate, then_normal, inBlock_normal, Option.getD_some, Option.getD_none, Bool.or_false, Bool.or_true, Bool.true_or, Bool.false_or, Bool.false_eq_true, if_false, if_true, up_zero, Nat.reduceAdd, Nat.reduceSub, binv, ↓opt_def, AV.isAny, AV.cells, ldc, List.map_cons, List.map_nil, St.set_next, St.set_same, St.up_next, Int.natCast_nonneg, lt_len, le_len, Int.toNat_natCast, true_and, and_true, eq_self, reduceCtorEq, decide_true, List.length_singleton, er_int, er_bool, er_str, hEn, hX0, held, hfit1, her, List.all_cons, List.all_nil, Bool.and_self, srcOf, List.nil_append, hX1, hX3, sps_er, sps_len, hX2, List.length_append, List.length_singleton, htake, h05, hlen5, Nat.reduceMul, Nat.reduceLeDiff, and_self, Nat.zero_add, St.up_res]
      refine h2 _ _ ?_
      try clear h2 K_h2
      refine T.regi hm ?_
      simp only [↓reduceIte, namesOf, List.any, I.names, aops, aopsI, aopsT, qstep, CPt, qget, Tbl.get, astep, ev, setd, List.set, List.getD, List.getElem?_cons_zero, List.getElem?_cons_succ, List.getElem?_nil, List.cons_append, List.nil_append, List.length_cons, List.length_nil, List.replicate, then_normal, inBlock_normal, Option.getD_some, Option.getD_none, Bool.or_false, Bool.or_true, Bool.true_or, Bool.false_or, Bool.false_eq_true, if_false, if_true, up_zero, Nat.reduceAdd, Nat.reduceSub, binv, ↓opt_def, AV.isAny, AV.cells, ldc, List.map_cons, List.map_nil, St.set_next, St.set_same, St.up_next, Int.natCast_nonneg, lt_len, le_len, Int.toNat_natCast, true_and, and_true, eq_self, reduceCtorEq, decide_true, List.length_singleton, er_int, er_bool, er_str, hiw]
      exact ⟨hil, _, _, Gh.keep [0, 4, 5, 6, 7], s', [X], _, ks5, (RE.up 5).appNil (g := uE.next + 3) (by omega) (by omega) (by simp), by rw [← hacc]; rfl, (fun h => by cases h), hgo2, rfl⟩
    · have hgn : ∀ k, (uE.up k).res g = some (.tip 5) := fun _ => hg
      have hle' : decide ((acc.length + 1) * 56 ≤ 70368744177664 ∧ acc.length ≤ 4611686018427387903) = true := decide_eq_true (by omega)
      refine T.regi hm ?_
      simp only [↓reduceIte, namesOf, List.any, I.names, aops, aopsI, aopsT, qstep, CPt, qget, Tbl.get, astep, ev, setd, List.set, List.getD, List.getElem?_cons_zero, List.getElem?_cons_succ, List.getElem?_nil, List.cons_append, List.nil_append, List.length_cons, List.length_nil, List.replicate, then_normal, inBlock_normal, Option.getD_some, Option.getD_none, Bool.or_false, Bool.or_true, Bool.true_or, Bool.false_or, Bool.false_eq_true, if_false, if_true, up_zero, Nat.reduceAdd, Nat.reduceSub, binv, ↓opt_def, AV.isAny, AV.cells, ldc, List.map_cons, List.map_nil, St.set_next, St.set_same, St.up_next, Int.natCast_nonneg, lt_len, le_len, Int.toNat_natCast, true_and, and_true, eq_self, reduceCtorEq, decide_true, List.length_singleton, er_int, er_bool, er_str, hEn, held, hfit1, her, List.all_cons, List.all_nil, Bool.and_self, srcOf, sps_snoc', hfit, sps_len, List.length_singleton, htake, h05, hlen5, hle, hle', hgn]
      refine h2 _ _ ?_
      try clear h2 K_h2
      refine T.regi hm ?_
      simp only [↓reduceIte, namesOf, List.any, I.names, aops, aopsI, aopsT, qstep, CPt, qget, Tbl.get, astep, ev, setd, List.set, List.getD, List.getElem?_cons_zero, List.getElem?_cons_succ, List.getElem?_nil, List.cons_append, List.nil_append, List.length_cons, List.length_nil, List.replicate, then_normal, inBlock_normal, Option.getD_some, Option.getD_none, Bool.or_false, Bool.or_true, Bool.true_or, Bool.false_or, Bool.false_eq_true, if_false, if_true, up_zero, Nat.reduceAdd, Nat.reduceSub, binv, ↓opt_def, AV.isAny, AV.cells, ldc, List.map_cons, List.map_nil, St.set_next, St.set_same, St.up_next, Int.natCast_nonneg, lt_len, le_len, Int.toNat_natCast, true_and, and_true, eq_self, reduceCtorEq, decide_true, List.length_singleton, er_int, er_bool, er_str, hiw]
      exact ⟨hil, _, _, Gh.keep [0, 4, 5, 6, 7], s', acc ++ [X], _, ks5, (RE.up 5).appTip (g := uE.next + 3) (by omega) (by omega) (by simp), by simp [hacc], (fun h => by cases h), hgo2, rfl⟩
  clear h2
  refine T.seq_k (fun K_h4 h4 => ?_)
  refine T.regi hm ?_
  simp only [↓reduceIte, namesOf, List.any, I.names, aops, aopsI, aopsT, qstep, CPt, qget, Tbl.get, astep, ev, setd, List.set, List.getD, List.getElem?_cons_zero, List.getElem?_cons_succ, List.getElem?_nil, List.cons_append, List.nil_append, List.length_cons, List.length_nil, List.replicate, then_normal, inBlock_normal, Option.getD_some, Option.getD_none, Bool.or_false, Bool.or_true, Bool.true_or, Bool.false_or, Bool.false_eq_true, if_false, if_true, up_zero, Nat.reduceAdd, Nat.reduceSub, binv, ↓opt_def, AV.isAny, AV.cells, ldc, List.map_cons, List.map_nil, St.set_next, St.set_same, St.up_next, Int.natCast_nonneg, lt_len, le_len, Int.toNat_natCast, true_and, and_true, eq_self, reduceCtorEq, decide_true, List.length_singleton, er_int, er_bool, er_str]
  refine (wbad_ok RE.at_).mono ?_
  rintro v u ⟨rfl, rfl⟩
  by_cases hsb : 0 ≤ s'.bad
  · have e4 : decide (s'.bad < 0) = false := decide_eq_false (by omega)
    try simp only [↓reduceIte, namesOf, List.any, I.names, aops, aopsI, aopsT, qstep, CPt, qget, Tbl.get, astep, ev, setd, List.set, List.getD, List.getElem?_cons_zero, List.getElem?_cons_succ, List.getElem?_nil, List.cons_append, List.nil_append, List.length_cons, List.length_nil, List.replicate, then_normal, inBlock_normal, Option.getD_some, Option.getD_none, Bool.or_false, Bool.or_true, Bool.true_or, Bool.false_or, Bool.false_eq_true, if_false, if_true, up_zero, Nat.reduceAdd, Nat.reduceSub, binv, ↓opt_def, AV.isAny, AV.cells, ldc, List.map_cons, List.map_nil, St.set_next, St.set_same, St.up_next, Int.natCast_nonneg, lt_len, le_len, Int.toNat_natCast, true_and, and_true, eq_self, reduceCtorEq, decide_true, List.length_singleton, er_int, er_bool, er_str, up_zero, e4]
    refine h4 _ _ ?_
    try clear h4 K_h4
    refine T.cond rfl (fun h => by cases h) (fun _ => T.skip ?_)
    exact out (.inl hsb) _ rfl
  have e4 : decide (s'.bad < 0) = true := decide_eq_true (by omega)
  have hlen5 : ∀ x y z w q : AV, [x, y, z, w, q].length = 5 := fun _ _ _ _ _ => rfl
  have htake : ∀ x y z w q : AV, List.take 5 (List.drop 0 [x, y, z, w, q]) = [x, y, z, w, q] := fun _ _ _ _ _ => rfl
  have h05 : 0 + 5 ≤ 5 := Nat.le_refl _
  try simp only [↓reduceIte, namesOf, List.any, I.names, aops, aopsI, aopsT, qstep, CPt, qget, Tbl.get, astep, ev, setd, List.set, List.getD, List.getElem?_cons_zero, List.getElem?_cons_succ, List.getElem?_nil, List.cons_append, List.nil_append, List.length_cons, List.length_nil, List.replicate, then_normal, inBlock_normal, Option.getD_some, Option.getD_none, Bool.or_false, Bool.or_true, Bool.true_or, Bool.false_or, Bool.false_eq_true, if_false, if_true, up_zero, Nat.reduceAdd, Nat.reduceSub, binv, ↓opt_def, AV.isAny, AV.cells, ldc, List.map_cons, List.map_nil, St.set_next, St.set_same, St.up_next, Int.natCast_nonneg, lt_len, le_len, Int.toNat_natCast, true_and, and_true, eq_self, reduceCtorEq, decide_true, List.length_singleton, er_int, er_bool, er_str, up_zero, e4, hE, hlen5, htake, h05]
  refine may_ok.mono ?_
  rintro v u2 ⟨rfl, rfl⟩
  rw [hms]
  cases hmay : mayS X with
  | true =>
    try simp only [↓reduceIte, namesOf, List.any, I.names, aops, aopsI, aopsT, qstep, CPt, qget, Tbl.get, astep, ev, setd, List.set, List.getD, List.getElem?_cons_zero, List.getElem?_cons_succ, List.getElem?_nil, List.cons_append, List.nil_append, List.length_cons, List.length_nil, List.replicate, then_normal, inBlock_normal, Option.getD_some, Option.getD_none, Bool.or_false, Bool.or_true, Bool.true_or, Bool.false_or, Bool.false_eq_true, if_false, if_true, up_zero, Nat.reduceAdd, Nat.reduceSub, binv, ↓opt_def, AV.isAny, AV.cells, ldc, List.map_cons, List.map_nil, St.set_next, St.set_same, St.up_next, Int.natCast_nonneg, lt_len, le_len, Int.toNat_natCast, true_and, and_true, eq_self, reduceCtorEq, decide_true, List.length_singleton, er_int, er_bool, er_str, up_zero, Bool.not_true]
    refine h4 _ _ ?_
    try clear h4 K_h4
    refine T.cond rfl (fun h => by cases h) (fun _ => T.skip ?_)
    exact out (.inr hmay) _ rfl
  | false =>
    try simp only [↓reduceIte, namesOf, List.any, I.names, aops, aopsI, aopsT, qstep, CPt, qget, Tbl.get, astep, ev, setd, List.set, List.getD, List.getElem?_cons_zero, List.getElem?_cons_succ, List.getElem?_nil, List.cons_append, List.nil_append, List.length_cons, List.length_nil, List.replicate, then_normal, inBlock_normal, Option.getD_some, Option.getD_none, Bool.or_false, Bool.or_true, Bool.true_or, Bool.false_or, Bool.false_eq_true, if_false, if_true, up_zero, Nat.reduceAdd, Nat.reduceSub, binv, ↓opt_def, AV.isAny, AV.cells, ldc, List.map_cons, List.map_nil, St.set_next, St.set_same, St.up_next, Int.natCast_nonneg, lt_len, le_len, Int.toNat_natCast, true_and, and_true, eq_self, reduceCtorEq, decide_true, List.length_singleton, er_int, er_bool, er_str, up_zero, Bool.not_false]
    refine h4 _ _ ?_
    try clear h4 K_h4
    clear out
    refine T.cond rfl (fun _ => ?_) (fun h => by cases h)
    refine T.seq_k (fun K_h3 h3 => ?_)
    refine T.regi hm ?_
    simp only [↓reduceIte, namesOf, List.any, I.names, aops, aopsI, aopsT, qstep, CPt, qget, Tbl.get, astep, ev, setd, List.set, List.getD, List.getElem?_cons_zero, List.getElem?_cons_succ, List.getElem?_nil, List.cons_append, List.nil_append, List.length_cons, List.length_nil, List.replicate, then_normal, inBlock_normal, Option.getD_some, Option.getD_none, Bool.or_false, Bool.or_true, Bool.true_or, Bool.false_or, Bool.false_eq_true, if_false, if_true, up_zero, Nat.reduceAdd, Nat.reduceSub, binv, ↓opt_def, AV.isAny, AV.cells, ldc, List.map_cons, List.map_nil, St.set_next, St.set_same, St.up_next, Int.natCast_nonneg, lt_len, le_len, Int.toNat_natCast, true_and, and_true, eq_self, reduceCtorEq, decide_true, List.length_singleton, er_int, er_bool, er_str, fillA, Option.map, AV.fits, AV.one, List.all_cons, List.all_nil, Nat.reduceBEq, Bool.and_true, Bool.not_false, Bool.and_self, Nat.zero_add, splice, List.take, List.drop, Nat.reduceLeDiff]
    refine h3 _ _ ?_
    try clear h3 K_h3
    rw [if_neg hsb, hmay, if_neg (by simp)] at hgo1
    have hG : G = (s.at_, []) := by rw [hget, hgo1]; simp [hk0]
    exact T.ret (Fin.retw rfl (Wk.tup2 (Wk.sl _ _)) (.inr ⟨by rw [hG]; exact hk0, u2.next + 2, rfl, by rw [hG]; simp, by have := RE.like.next; omega, by simp, (RE.like.up 6).set _ (by have := RE.like.next; omega)⟩))

end Go.VL

namespace Go.VL

open Go.Proofs

theorem rW_bad {l : List UInt8} {s : Rs} {w : Nat} (hs : s.bad = -1) (h : 0 ≤ (rN l s w).bad) : rW l s w = 0 := by
  unfold rN at h
  unfold rW
  split at h
  · rw [show (Rs.mk (s.at_ + w) s.bad).bad = -1 from hs] at h; omega
  · rename_i ht; rw [if_neg ht]

theorem rread_reg {Q : Ex → List AV → St → Prop} {σ : St} {z1 z2 z3 z4 y3 y4 : Int} {xd : List UInt8} {q0 q1 q2 q3 q4 q5 q6 q7 q8 q14 q15 q16 q17 q18 q19 q20 q21 q22 q23 q24 q25 q26 q27 q28 q29 q30 q31 q32 q33 q34 q35 q36 q37 q38 q39 q40 q41 q42 q43 q44 q45 q46 q47 q48 q49 : AV} (hy3 : IntKind.i64.wrap z3 = y3) (hy4 : IntKind.i64.wrap z4 = y4)
    (h : Q .normal [q0, q1, q2, q3, q4, q5, q6, q7, q8, AV.int IntKind.u64 z1, AV.int IntKind.u64 z2, AV.int IntKind.u64 z3, AV.int IntKind.u64 z4, AV.sl (bytesAV xd) Ver.none, AV.ptr (σ.next + 8) 0, q15, q16, q17, q18, q19, q20, q21, q22, q23, q24, q25, q26, q27, q28, q29, q30, q31, q32, q33, q34, q35, q36, q37, q38, q39, q40, q41, q42, q43, q44, q45, q46, q47, q48, q49, AV.int IntKind.u64 z1, AV.int IntKind.u64 z2, AV.int IntKind.u64 z3, AV.int IntKind.i64 y3, AV.int IntKind.u64 z4, AV.int IntKind.i64 y4, AV.sl (bytesAV xd) Ver.none, AV.agg [AV.int IntKind.u64 z1, AV.int IntKind.u64 z2, AV.int IntKind.i64 y3, AV.int IntKind.i64 y4, AV.sl (bytesAV xd) Ver.none], AV.any, AV.any, AV.any, AV.any, AV.any, AV.any, AV.any, AV.any, AV.any, AV.any, AV.any, AV.any, AV.any, AV.any, AV.any, AV.any, AV.any, AV.any, AV.any, AV.any, AV.any, AV.any, AV.any, AV.any, AV.any, AV.any, AV.any, AV.any, AV.any, AV.any] ((σ.up 10).set (σ.next + 8) (.obj [AV.int IntKind.u64 z1, AV.int IntKind.u64 z2, AV.int IntKind.i64 y3, AV.int IntKind.i64 y4, AV.sl (bytesAV xd) Ver.none]))) :
    T Tryd.prog ann (.reg [⟨some 50, I.mv (VL.X.t 9), none⟩, ⟨some 51, I.mv (VL.X.t 10), none⟩, ⟨some 52, I.mv (VL.X.t 11), none⟩, ⟨some 53, I.conv IntKind.i64 (VL.X.t 52), none⟩, ⟨some 54, I.mv (VL.X.t 12), none⟩, ⟨some 55, I.conv IntKind.i64 (VL.X.t 54), none⟩, ⟨some 56, I.mv (VL.X.t 13), none⟩, ⟨some 57, I.build [AV.int IntKind.u64 0, AV.int IntKind.u64 0, AV.int IntKind.i64 0, AV.int IntKind.i64 0, AV.sl [] Ver.nil] [(0, 1, VL.X.t 50), (1, 1, VL.X.t 51), (2, 1, VL.X.t 53), (3, 1, VL.X.t 55), (4, 1, VL.X.t 56)], none⟩, ⟨some 14, I.alloc [AV.int IntKind.u64 0, AV.int IntKind.u64 0, AV.int IntKind.i64 0, AV.int IntKind.i64 0, AV.sl [] Ver.nil], none⟩, ⟨none, I.store 5 (VL.X.t 14) (VL.X.t 57), none⟩]) Q [q0, q1, q2, q3, q4, q5, q6, q7, q8, AV.int IntKind.u64 z1, AV.int IntKind.u64 z2, AV.int IntKind.u64 z3, AV.int IntKind.u64 z4, AV.sl (bytesAV xd) Ver.none, q14, q15, q16, q17, q18, q19, q20, q21, q22, q23, q24, q25, q26, q27, q28, q29, q30, q31, q32, q33, q34, q35, q36, q37, q38, q39, q40, q41, q42, q43, q44, q45, q46, q47, q48, q49, AV.any, AV.any, AV.any, AV.any, AV.any, AV.any, AV.any, AV.any, AV.any, AV.any, AV.any, AV.any, AV.any, AV.any, AV.any, AV.any, AV.any, AV.any, AV.any, AV.any, AV.any, AV.any, AV.any, AV.any, AV.any, AV.any, AV.any, AV.any, AV.any, AV.any, AV.any, AV.any, AV.any, AV.any, AV.any, AV.any, AV.any, AV.any] σ := by
  refine T.regi hm ?_
  simp only [↓reduceIte, namesOf, List.any, I.names, aops, aopsI, aopsT, qstep, CPt, qget, Tbl.get, astep, ev, setd, List.set, List.getD, List.getElem?_cons_zero, List.getElem?_cons_succ, List.getElem?_nil, List.cons_append, List.nil_append, List.length_cons, List.length_nil, List.replicate, then_normal, inBlock_normal, Option.getD_some, Option.getD_none, Bool.or_false, Bool.or_true, Bool.true_or, Bool.false_or, Bool.false_eq_true, if_false, if_true, up_zero, Nat.reduceAdd, Nat.reduceSub, binv, ↓opt_def, AV.isAny, AV.cells, ldc, List.map_cons, List.map_nil, St.set_next, St.set_same, St.up_next, Int.natCast_nonneg, lt_len, le_len, Int.toNat_natCast, true_and, and_true, eq_self, reduceCtorEq, decide_true, List.length_singleton, er_int, er_bool, er_str, fillA, Option.map, AV.fits, AV.one, List.all_cons, List.all_nil, Nat.reduceBEq, Bool.and_true, Bool.not_false, Bool.and_self, Nat.zero_add, splice, List.take, List.drop, Nat.reduceLeDiff, St.set_set, hy3, hy4]
  exact h

set_option maxRecDepth 10000 in
set_option maxHeartbeats 4000000 in
theorem rread_ok {b : List UInt8} {σ : St} (hb : b.length ≤ 1000000) :
    ACalls Tryd.prog n_rread [.sl (bytesAV b) .none] σ (fun v σ' => v = .tup [.sl (spsAV (getS b).2) .none, .int .i64 (getS b).1] ∧ σ' = σ) := by
  refine s_rread (fun wf => ?_)
  unfold c_rread
  have k0 : Rs.ok b r0 := Rs.ok_r0 (by omega)
  have k1 := rN_ok (w := 2) k0
  have hN := rW_lt (w := 2) k0
  have hget : getS b = (let r := goS b (rW b r0 2) (rN b r0 2) []; if 0 ≤ r.1 then (r.1, []) else if r.2.2.at_ < b.length then (r.2.2.at_, []) else (-1, r.2.1)) := rfl
  generalize getS b = G at hget ⊢
  refine T.seq_k (fun K_h0 h0 => ?_)
  refine T.regi hm ?_
  simp only [↓reduceIte, namesOf, List.any, I.names, aops, aopsI, aopsT, qstep, CPt, qget, Tbl.get, astep, ev, setd, List.set, List.getD, List.getElem?_cons_zero, List.getElem?_cons_succ, List.getElem?_nil, List.cons_append, List.nil_append, List.length_cons, List.length_nil, List.replicate, then_normal, inBlock_normal, Option.getD_some, Option.getD_none, Bool.or_false, Bool.or_true, Bool.true_or, Bool.false_or, Bool.false_eq_true, if_false, if_true, up_zero, Nat.reduceAdd, Nat.reduceSub, binv, ↓opt_def, AV.isAny, AV.cells, ldc, List.map_cons, List.map_nil, St.set_next, St.set_same, St.up_next, Int.natCast_nonneg, lt_len, le_len, Int.toNat_natCast, true_and, and_true, eq_self, reduceCtorEq, decide_true, List.length_singleton, er_int, er_bool, er_str]
  refine h0 _ _ ?_
  try clear h0 K_h0
  refine T.seq_k (fun K_h1 h1 => ?_)
  refine T.regi hm ?_
  simp only [↓reduceIte, namesOf, List.any, I.names, aops, aopsI, aopsT, qstep, CPt, qget, Tbl.get, astep, ev, setd, List.set, List.getD, List.getElem?_cons_zero, List.getElem?_cons_succ, List.getElem?_nil, List.cons_append, List.nil_append, List.length_cons, List.length_nil, List.replicate, then_normal, inBlock_normal, Option.getD_some, Option.getD_none, Bool.or_false, Bool.or_true, Bool.true_or, Bool.false_or, Bool.false_eq_true, if_false, if_true, up_zero, Nat.reduceAdd, Nat.reduceSub, binv, ↓opt_def, AV.isAny, AV.cells, ldc, List.map_cons, List.map_nil, St.set_next, St.set_same, St.up_next, Int.natCast_nonneg, lt_len, le_len, Int.toNat_natCast, true_and, and_true, eq_self, reduceCtorEq, decide_true, List.length_singleton, er_int, er_bool, er_str, fillA, Option.map, AV.fits, AV.one, List.all_cons, List.all_nil, Nat.reduceBEq, Bool.and_true, Bool.not_false, Bool.and_self, Nat.zero_add, splice, List.take, List.drop, Nat.reduceLeDiff]
  have R0 : Rk σ ((σ.up 4).set (σ.next + 2) (rdS b .none r0)) (σ.next + 2) (rdS b .none r0) 5 .nil := ⟨(Like.refl σ).box _, by omega, by simp, by simp, .inl rfl⟩
  have hst : ((σ.up 4).set (σ.next + 2) (.obj [.sl (bytesAV b) .none, .int .i64 0, .int .i64 (-1)])) = ((σ.up 4).set (σ.next + 2) (rdS b .none r0)) := rfl
  rw [hst]
  generalize ((σ.up 4).set (σ.next + 2) (rdS b .none r0)) = σ1 at R0 ⊢
  generalize σ.next + 2 = nm at R0 ⊢
  clear hst
  refine h1 _ _ ?_
  try clear h1 K_h1
  refine T.seq_k (fun K_h1 h1 => ?_)
  refine T.regi hm ?_
  simp only [↓reduceIte, namesOf, List.any, I.names, aops, aopsI, aopsT, qstep, CPt, qget, Tbl.get, astep, ev, setd, List.set, List.getD, List.getElem?_cons_zero, List.getElem?_cons_succ, List.getElem?_nil, List.cons_append, List.nil_append, List.length_cons, List.length_nil, List.replicate, then_normal, inBlock_normal, Option.getD_some, Option.getD_none, Bool.or_false, Bool.or_true, Bool.true_or, Bool.false_or, Bool.false_eq_true, if_false, if_true, up_zero, Nat.reduceAdd, Nat.reduceSub, binv, ↓opt_def, AV.isAny, AV.cells, ldc, List.map_cons, List.map_nil, St.set_next, St.set_same, St.up_next, Int.natCast_nonneg, lt_len, le_len, Int.toNat_natCast, true_and, and_true, eq_self, reduceCtorEq, decide_true, List.length_singleton, er_int, er_bool, er_str]
  refine (rwordF k0 rfl R0.at_).mono ?_
  rintro v σ2 ⟨rfl, rfl⟩
  have R1 := R0.set (rdS b .none (rN b r0 2))
  generalize (σ1.set nm (rdS b .none (rN b r0 2))) = σ2 at R1 ⊢
  clear R0 σ1
  have hN0 : 0 ≤ (rN b r0 2).bad → rW b r0 2 = 0 := fun h => rW_bad rfl h
  generalize rW b r0 2 = N at hN hget hN0 ⊢
  generalize rN b r0 2 = s0 at k1 R1 hget hN0
  have eN : IntKind.i64.wrap (N : Int) = (N : Int) := wrap64 (by omega) (by omega)
  try simp only [↓reduceIte, namesOf, List.any, I.names, aops, aopsI, aopsT, qstep, CPt, qget, Tbl.get, astep, ev, setd, List.set, List.getD, List.getElem?_cons_zero, List.getElem?_cons_succ, List.getElem?_nil, List.cons_append, List.nil_append, List.length_cons, List.length_nil, List.replicate, then_normal, inBlock_normal, Option.getD_some, Option.getD_none, Bool.or_false, Bool.or_true, Bool.true_or, Bool.false_or, Bool.false_eq_true, if_false, if_true, up_zero, Nat.reduceAdd, Nat.reduceSub, binv, ↓opt_def, AV.isAny, AV.cells, ldc, List.map_cons, List.map_nil, St.set_next, St.set_same, St.up_next, Int.natCast_nonneg, lt_len, le_len, Int.toNat_natCast, true_and, and_true, eq_self, reduceCtorEq, decide_true, List.length_singleton, er_int, er_bool, er_str, up_zero, eN]
  refine h1 _ _ ?_
  try clear h1 K_h1
  refine T.seq_k (fun K_h0 h0 => ?_)
  refine T.regi hm ?_
  simp only [↓reduceIte, namesOf, List.any, I.names, aops, aopsI, aopsT, qstep, CPt, qget, Tbl.get, astep, ev, setd, List.set, List.getD, List.getElem?_cons_zero, List.getElem?_cons_succ, List.getElem?_nil, List.cons_append, List.nil_append, List.length_cons, List.length_nil, List.replicate, then_normal, inBlock_normal, Option.getD_some, Option.getD_none, Bool.or_false, Bool.or_true, Bool.true_or, Bool.false_or, Bool.false_eq_true, if_false, if_true, up_zero, Nat.reduceAdd, Nat.reduceSub, binv, ↓opt_def, AV.isAny, AV.cells, ldc, List.map_cons, List.map_nil, St.set_next, St.set_same, St.up_next, Int.natCast_nonneg, lt_len, le_len, Int.toNat_natCast, true_and, and_true, eq_self, reduceCtorEq, decide_true, List.length_singleton, er_int, er_bool, er_str]
  refine h0 _ _ ?_
  try clear h0 K_h0
  refine T.seq_k (fun K_h1 h1 => ?_)
  refine T.seq_k (fun K_h0 h0 => ?_)
  refine T.regi hm ?_
  simp only [↓reduceIte, namesOf, List.any, I.names, aops, aopsI, aopsT, qstep, CPt, qget, Tbl.get, astep, ev, setd, List.set, List.getD, List.getElem?_cons_zero, List.getElem?_cons_succ, List.getElem?_nil, List.cons_append, List.nil_append, List.length_cons, List.length_nil, List.replicate, then_normal, inBlock_normal, Option.getD_some, Option.getD_none, Bool.or_false, Bool.or_true, Bool.true_or, Bool.false_or, Bool.false_eq_true, if_false, if_true, up_zero, Nat.reduceAdd, Nat.reduceSub, binv, ↓opt_def, AV.isAny, AV.cells, ldc, List.map_cons, List.map_nil, St.set_next, St.set_same, St.up_next, Int.natCast_nonneg, lt_len, le_len, Int.toNat_natCast, true_and, and_true, eq_self, reduceCtorEq, decide_true, List.length_singleton, er_int, er_bool, er_str]
  refine h0 _ _ ?_
  try clear h0 K_h0
  refine T.block ?_
  refine T.gh (Gh.keep [0, 4, 5, 6, 7]) ?_
  refine T.loopi (fun i ρ t => ∃ (s : Rs) (acc : List Sp) (vv : Ver), s.ok b ∧ Rk σ t nm (rdS b .none s) 5 vv ∧ acc.length = i ∧ (vv = .nil → acc = []) ∧ (0 ≤ s.bad → N = 0) ∧ goS b N s0 [] = goS b (N - i) s acc ∧
      ρ = [.sl (bytesAV b) .none, .any, .any, .any, .ptr nm 0, .int .i64 (N : Int), .sl (spsAV acc) vv, .int .i64 (i : Int)] ++ List.replicate 80 .any)
    N 0 (Nat.zero_le _) ⟨s0, [], .nil, k1, R1, rfl, fun _ => rfl, hN0, rfl, rfl⟩ ?_
  clear R1 σ2 k0
  rintro i ρ t hi ⟨s, acc, vv, ks, R1, hacc, hvn, hs2, hgo, rfl⟩
  have hkl := ks.1.len
  have hk0 := ks.1.lo
  have hk1' := ks.1.hi
  have hrd : t.res nm = some (.obj [.sl (bytesAV b) .none, .int .i64 s.at_, .int .i64 s.bad]) := R1.at_
  refine T.seq_k (fun K_h2 h2 => ?_)
  by_cases hil : i < N
  case neg =>
    have e1 : decide ((i : Int) < (N : Int)) = false := decide_eq_false (by omega)
    refine T.seq_k (fun K_h0 h0 => ?_)
    refine T.regi hm ?_
    simp only [↓reduceIte, namesOf, List.any, I.names, aops, aopsI, aopsT, qstep, CPt, qget, Tbl.get, astep, ev, setd, List.set, List.getD, List.getElem?_cons_zero, List.getElem?_cons_succ, List.getElem?_nil, List.cons_append, List.nil_append, List.length_cons, List.length_nil, List.replicate, then_normal, inBlock_normal, Option.getD_some, Option.getD_none, Bool.or_false, Bool.or_true, Bool.true_or, Bool.false_or, Bool.false_eq_true, if_false, if_true, up_zero, Nat.reduceAdd, Nat.reduceSub, binv, ↓opt_def, AV.isAny, AV.cells, ldc, List.map_cons, List.map_nil, St.set_next, St.set_same, St.up_next, Int.natCast_nonneg, lt_len, le_len, Int.toNat_natCast, true_and, and_true, eq_self, reduceCtorEq, decide_true, List.length_singleton, er_int, er_bool, er_str, e1]
    refine h0 _ _ ?_
    try clear h0 K_h0
    refine T.cond rfl (fun h => by cases h) (fun _ => T.exit ?_)
    try simp only [↓reduceIte, namesOf, List.any, I.names, aops, aopsI, aopsT, qstep, CPt, qget, Tbl.get, astep, ev, setd, List.set, List.getD, List.getElem?_cons_zero, List.getElem?_cons_succ, List.getElem?_nil, List.cons_append, List.nil_append, List.length_cons, List.length_nil, List.replicate, then_normal, inBlock_normal, Option.getD_some, Option.getD_none, Bool.or_false, Bool.or_true, Bool.true_or, Bool.false_or, Bool.false_eq_true, if_false, if_true, up_zero, Nat.reduceAdd, Nat.reduceSub, binv, ↓opt_def, AV.isAny, AV.cells, ldc, List.map_cons, List.map_nil, St.set_next, St.set_same, St.up_next, Int.natCast_nonneg, lt_len, le_len, Int.toNat_natCast, true_and, and_true, eq_self, reduceCtorEq, decide_true, List.length_singleton, er_int, er_bool, er_str, inBlock_exit, then_exit]
    have hiN : N - i = 0 := by omega
    rw [hiN] at hgo
    have hgz : goS b 0 s acc = (if 0 ≤ s.bad then (s.bad, [], s) else (-1, acc, s)) := by unfold goS; rfl
    rw [hgz] at hgo
    have hb0 : G = (if 0 ≤ s.bad then (s.bad, []) else if s.at_ < b.length then (s.at_, []) else (-1, acc)) := by
      rw [hget]
      simp only [hgo]
      split
      · rename_i hx; simp only [hx, if_true]
      · simp
    refine h1 _ _ ?_
    try clear h1 K_h1
    refine T.seq_k (fun K_h1 h1 => ?_)
    by_cases hbd : 0 ≤ s.bad
    · rw [if_pos hbd] at hb0
      have e2 : decide (s.bad ≥ 0) = true := decide_eq_true hbd
      refine T.seq_k (fun K_h0 h0 => ?_)
      refine T.regi hm ?_
      simp only [↓reduceIte, namesOf, List.any, I.names, aops, aopsI, aopsT, qstep, CPt, qget, Tbl.get, astep, ev, setd, List.set, List.getD, List.getElem?_cons_zero, List.getElem?_cons_succ, List.getElem?_nil, List.cons_append, List.nil_append, List.length_cons, List.length_nil, List.replicate, then_normal, inBlock_normal, Option.getD_some, Option.getD_none, Bool.or_false, Bool.or_true, Bool.true_or, Bool.false_or, Bool.false_eq_true, if_false, if_true, up_zero, Nat.reduceAdd, Nat.reduceSub, binv, ↓opt_def, AV.isAny, AV.cells, ldc, List.map_cons, List.map_nil, St.set_next, St.set_same, St.up_next, Int.natCast_nonneg, lt_len, le_len, Int.toNat_natCast, true_and, and_true, eq_self, reduceCtorEq, decide_true, List.length_singleton, er_int, er_bool, er_str, hrd, e2]
      refine h0 _ _ ?_
      try clear h0 K_h0
      refine T.cond rfl (fun _ => ?_) (fun h => by cases h)
      refine T.seq_k (fun K_h0 h0 => ?_)
      refine T.regi hm ?_
      simp only [↓reduceIte, namesOf, List.any, I.names, aops, aopsI, aopsT, qstep, CPt, qget, Tbl.get, astep, ev, setd, List.set, List.getD, List.getElem?_cons_zero, List.getElem?_cons_succ, List.getElem?_nil, List.cons_append, List.nil_append, List.length_cons, List.length_nil, List.replicate, then_normal, inBlock_normal, Option.getD_some, Option.getD_none, Bool.or_false, Bool.or_true, Bool.true_or, Bool.false_or, Bool.false_eq_true, if_false, if_true, up_zero, Nat.reduceAdd, Nat.reduceSub, binv, ↓opt_def, AV.isAny, AV.cells, ldc, List.map_cons, List.map_nil, St.set_next, St.set_same, St.up_next, Int.natCast_nonneg, lt_len, le_len, Int.toNat_natCast, true_and, and_true, eq_self, reduceCtorEq, decide_true, List.length_singleton, er_int, er_bool, er_str, hrd]
      refine h0 _ _ ?_
      try clear h0 K_h0
      exact T.ret (Fin.quietw rfl (Wk.tup2 (Wk.sl _ _)) ⟨⟨trivial, trivial⟩, trivial, trivial⟩ (R1.like.quiet wf) ⟨by rw [hb0]; rfl, rfl⟩)
    · rw [if_neg hbd] at hb0
      have e2 : decide (s.bad ≥ 0) = false := decide_eq_false hbd
      refine T.seq_k (fun K_h0 h0 => ?_)
      refine T.regi hm ?_
      simp only [↓reduceIte, namesOf, List.any, I.names, aops, aopsI, aopsT, qstep, CPt, qget, Tbl.get, astep, ev, setd, List.set, List.getD, List.getElem?_cons_zero, List.getElem?_cons_succ, List.getElem?_nil, List.cons_append, List.nil_append, List.length_cons, List.length_nil, List.replicate, then_normal, inBlock_normal, Option.getD_some, Option.getD_none, Bool.or_false, Bool.or_true, Bool.true_or, Bool.false_or, Bool.false_eq_true, if_false, if_true, up_zero, Nat.reduceAdd, Nat.reduceSub, binv, ↓opt_def, AV.isAny, AV.cells, ldc, List.map_cons, List.map_nil, St.set_next, St.set_same, St.up_next, Int.natCast_nonneg, lt_len, le_len, Int.toNat_natCast, true_and, and_true, eq_self, reduceCtorEq, decide_true, List.length_singleton, er_int, er_bool, er_str, hrd, e2]
      refine h0 _ _ ?_
      try clear h0 K_h0
      refine T.cond rfl (fun h => by cases h) (fun _ => T.skip ?_)
      refine h1 _ _ ?_
      try clear h1 K_h1
      refine T.seq_k (fun K_h1 h1 => ?_)
      by_cases hlt : s.at_ < b.length
      · rw [if_pos hlt] at hb0
        have e3 : decide (s.at_ < (b.length : Int)) = true := decide_eq_true hlt
        refine T.seq_k (fun K_h0 h0 => ?_)
        refine T.regi hm ?_
        simp only [↓reduceIte, namesOf, List.any, I.names, aops, aopsI, aopsT, qstep, CPt, qget, Tbl.get, astep, ev, setd, List.set, List.getD, List.getElem?_cons_zero, List.getElem?_cons_succ, List.getElem?_nil, List.cons_append, List.nil_append, List.length_cons, List.length_nil, List.replicate, then_normal, inBlock_normal, Option.getD_some, Option.getD_none, Bool.or_false, Bool.or_true, Bool.true_or, Bool.false_or, Bool.false_eq_true, if_false, if_true, up_zero, Nat.reduceAdd, Nat.reduceSub, binv, ↓opt_def, AV.isAny, AV.cells, ldc, List.map_cons, List.map_nil, St.set_next, St.set_same, St.up_next, Int.natCast_nonneg, lt_len, le_len, Int.toNat_natCast, true_and, and_true, eq_self, reduceCtorEq, decide_true, List.length_singleton, er_int, er_bool, er_str, hrd, bytesAV_len, e3]
        refine h0 _ _ ?_
        try clear h0 K_h0
        refine T.cond rfl (fun _ => ?_) (fun h => by cases h)
        refine T.seq_k (fun K_h0 h0 => ?_)
        refine T.regi hm ?_
        simp only [↓reduceIte, namesOf, List.any, I.names, aops, aopsI, aopsT, qstep, CPt, qget, Tbl.get, astep, ev, setd, List.set, List.getD, List.getElem?_cons_zero, List.getElem?_cons_succ, List.getElem?_nil, List.cons_append, List.nil_append, List.length_cons, List.length_nil, List.replicate, then_normal, inBlock_normal, Option.getD_some, Option.getD_none, Bool.or_false, Bool.or_true, Bool.true_or, Bool.false_or, Bool.false_eq_true, if_false, if_true, up_zero, Nat.reduceAdd, Nat.reduceSub, binv, ↓opt_def, AV.isAny, AV.cells, ldc, List.map_cons, List.map_nil, St.set_next, St.set_same, St.up_next, Int.natCast_nonneg, lt_len, le_len, Int.toNat_natCast, true_and, and_true, eq_self, reduceCtorEq, decide_true, List.length_singleton, er_int, er_bool, er_str, hrd]
        refine h0 _ _ ?_
        try clear h0 K_h0
        exact T.ret (Fin.quietw rfl (Wk.tup2 (Wk.sl _ _)) ⟨⟨trivial, trivial⟩, trivial, trivial⟩ (R1.like.quiet wf) ⟨by rw [hb0]; rfl, rfl⟩)
      · rw [if_neg hlt] at hb0
        have e3 : decide (s.at_ < (b.length : Int)) = false := decide_eq_false hlt
        refine T.seq_k (fun K_h0 h0 => ?_)
        refine T.regi hm ?_
        simp only [↓reduceIte, namesOf, List.any, I.names, aops, aopsI, aopsT, qstep, CPt, qget, Tbl.get, astep, ev, setd, List.set, List.getD, List.getElem?_cons_zero, List.getElem?_cons_succ, List.getElem?_nil, List.cons_append, List.nil_append, List.length_cons, List.length_nil, List.replicate, then_normal, inBlock_normal, Option.getD_some, Option.getD_none, Bool.or_false, Bool.or_true, Bool.true_or, Bool.false_or, Bool.false_eq_true, if_false, if_true, up_zero, Nat.reduceAdd, Nat.reduceSub, binv, ↓opt_def, AV.isAny, AV.cells, ldc, List.map_cons, List.map_nil, St.set_next, St.set_same, St.up_next, Int.natCast_nonneg, lt_len, le_len, Int.toNat_natCast, true_and, and_true, eq_self, reduceCtorEq, decide_true, List.length_singleton, er_int, er_bool, er_str, hrd, bytesAV_len, e3]
        refine h0 _ _ ?_
        try clear h0 K_h0
        refine T.cond rfl (fun h => by cases h) (fun _ => T.skip ?_)
        refine h1 _ _ ?_
        try clear h1 K_h1
        refine T.seq_k (fun K_h0 h0 => ?_)
        refine T.regi hm ?_
        simp only [↓reduceIte, namesOf, List.any, I.names, aops, aopsI, aopsT, qstep, CPt, qget, Tbl.get, astep, ev, setd, List.set, List.getD, List.getElem?_cons_zero, List.getElem?_cons_succ, List.getElem?_nil, List.cons_append, List.nil_append, List.length_cons, List.length_nil, List.replicate, then_normal, inBlock_normal, Option.getD_some, Option.getD_none, Bool.or_false, Bool.or_true, Bool.true_or, Bool.false_or, Bool.false_eq_true, if_false, if_true, up_zero, Nat.reduceAdd, Nat.reduceSub, binv, ↓opt_def, AV.isAny, AV.cells, ldc, List.map_cons, List.map_nil, St.set_next, St.set_same, St.up_next, Int.natCast_nonneg, lt_len, le_len, Int.toNat_natCast, true_and, and_true, eq_self, reduceCtorEq, decide_true, List.length_singleton, er_int, er_bool, er_str]
        refine h0 _ _ ?_
        try clear h0 K_h0
        exact T.ret (Fin.quietw rfl (Wk.tup2 (Wk.sl _ _)) ⟨⟨nbs_sps _ _, trivial⟩, trivial, trivial⟩ (R1.like.quiet wf) ⟨by rw [hb0]; rfl, rfl⟩)
  have e1 : decide ((i : Int) < (N : Int)) = true := decide_eq_true (by omega)
  refine T.seq_k (fun K_h0 h0 => ?_)
  refine T.regi hm ?_
  simp only [↓reduceIte, namesOf, List.any, I.names, aops, aopsI, aopsT, qstep, CPt, qget, Tbl.get, astep, ev, setd, List.set, List.getD, List.getElem?_cons_zero, List.getElem?_cons_succ, List.getElem?_nil, List.cons_append, List.nil_append, List.length_cons, List.length_nil, List.replicate, then_normal, inBlock_normal, Option.getD_some, Option.getD_none, Bool.or_false, Bool.or_true, Bool.true_or, Bool.false_or, Bool.false_eq_true, if_false, if_true, up_zero, Nat.reduceAdd, Nat.reduceSub, binv, ↓opt_def, AV.isAny, AV.cells, ldc, List.map_cons, List.map_nil, St.set_next, St.set_same, St.up_next, Int.natCast_nonneg, lt_len, le_len, Int.toNat_natCast, true_and, and_true, eq_self, reduceCtorEq, decide_true, List.length_singleton, er_int, er_bool, er_str, e1]
  refine h0 _ _ ?_
  try clear h0 K_h0
  refine T.cond rfl (fun _ => T.skip ?_) (fun h => by cases h)
  refine h2 _ _ ?_
  try clear h2 K_h2
  clear h1
  have hbd : ¬ 0 ≤ s.bad := fun h => by have := hs2 h; omega
  obtain ⟨n, hn⟩ : ∃ n, N - i = n + 1 := ⟨N - i - 1, by omega⟩
  have hn' : N - (i + 1) = n := by omega
  rw [hn] at hgo
  have hgo1 : goS b N s0 [] = (if 0 ≤ (oneN b s).bad then ((oneN b s).bad, [], oneN b s) else if mayS (oneS b s) then goS b n (oneN b s) (acc ++ [oneS b s]) else (s.at_, [], oneN b s)) := by
    rw [hgo]; conv => lhs; unfold goS
    rw [if_neg hbd]
  clear hgo
  have hiw := inc64' hil (by omega)
  have ks1 := rN_ok (w := 8) ks
  have ks2 := rN_ok (w := 8) ks1
  have ks3 := rN_ok (w := 8) ks2
  have ks4 := rN_ok (w := 8) ks3
  have ks5 := rXN_ok ks4
  have hS : oneS b s = ⟨rW b s 8, rW b (rN b s 8) 8, IntKind.i64.wrap (rW b (rN b (rN b s 8) 8) 8 : Int), IntKind.i64.wrap (rW b (rN b (rN b (rN b s 8) 8) 8) 8 : Int), rX b (rN b (rN b (rN b (rN b s 8) 8) 8) 8)⟩ := rfl
  have hNn : oneN b s = rXN b (rN b (rN b (rN b (rN b s 8) 8) 8) 8) := rfl
  generalize oneS b s = X at hS hgo1
  generalize oneN b s = s' at hNn hgo1
  refine T.seq_k (fun K_h2 h2 => ?_)
  refine T.block ?_
  refine T.seq_k (fun K_h0 h0 => ?_)
  refine T.regi hm ?_
  simp only [↓reduceIte, namesOf, List.any, I.names, aops, aopsI, aopsT, qstep, CPt, qget, Tbl.get, astep, ev, setd, List.set, List.getD, List.getElem?_cons_zero, List.getElem?_cons_succ, List.getElem?_nil, List.cons_append, List.nil_append, List.length_cons, List.length_nil, List.replicate, then_normal, inBlock_normal, Option.getD_some, Option.getD_none, Bool.or_false, Bool.or_true, Bool.true_or, Bool.false_or, Bool.false_eq_true, if_false, if_true, up_zero, Nat.reduceAdd, Nat.reduceSub, binv, ↓opt_def, AV.isAny, AV.cells, ldc, List.map_cons, List.map_nil, St.set_next, St.set_same, St.up_next, Int.natCast_nonneg, lt_len, le_len, Int.toNat_natCast, true_and, and_true, eq_self, reduceCtorEq, decide_true, List.length_singleton, er_int, er_bool, er_str, hrd]
  refine h0 _ _ ?_
  try clear h0 K_h0
  refine T.seq_k (fun K_h3 h3 => ?_)
  refine T.regi hm ?_
  simp only [↓reduceIte, namesOf, List.any, I.names, aops, aopsI, aopsT, qstep, CPt, qget, Tbl.get, astep, ev, setd, List.set, List.getD, List.getElem?_cons_zero, List.getElem?_cons_succ, List.getElem?_nil, List.cons_append, List.nil_append, List.length_cons, List.length_nil, List.replicate, then_normal, inBlock_normal, Option.getD_some, Option.getD_none, Bool.or_false, Bool.or_true, Bool.true_or, Bool.false_or, Bool.false_eq_true, if_false, if_true, up_zero, Nat.reduceAdd, Nat.reduceSub, binv, ↓opt_def, AV.isAny, AV.cells, ldc, List.map_cons, List.map_nil, St.set_next, St.set_same, St.up_next, Int.natCast_nonneg, lt_len, le_len, Int.toNat_natCast, true_and, and_true, eq_self, reduceCtorEq, decide_true, List.length_singleton, er_int, er_bool, er_str]
  refine (rwordF ks rfl R1.at_).mono ?_
  rintro v u ⟨rfl, rfl⟩
  try simp only [↓reduceIte, namesOf, List.any, I.names, aops, aopsI, aopsT, qstep, CPt, qget, Tbl.get, astep, ev, setd, List.set, List.getD, List.getElem?_cons_zero, List.getElem?_cons_succ, List.getElem?_nil, List.cons_append, List.nil_append, List.length_cons, List.length_nil, List.replicate, then_normal, inBlock_normal, Option.getD_some, Option.getD_none, Bool.or_false, Bool.or_true, Bool.true_or, Bool.false_or, Bool.false_eq_true, if_false, if_true, up_zero, Nat.reduceAdd, Nat.reduceSub, binv, ↓opt_def, AV.isAny, AV.cells, ldc, List.map_cons, List.map_nil, St.set_next, St.set_same, St.up_next, Int.natCast_nonneg, lt_len, le_len, Int.toNat_natCast, true_and, and_true, eq_self, reduceCtorEq, decide_true, List.length_singleton, er_int, er_bool, er_str, up_zero]
  refine h3 _ _ ?_
  try clear h3 K_h3
  refine T.seq_k (fun K_h3 h3 => ?_)
  refine T.regi hm ?_
  simp only [↓reduceIte, namesOf, List.any, I.names, aops, aopsI, aopsT, qstep, CPt, qget, Tbl.get, astep, ev, setd, List.set, List.getD, List.getElem?_cons_zero, List.getElem?_cons_succ, List.getElem?_nil, List.cons_append, List.nil_append, List.length_cons, List.length_nil, List.replicate, then_normal, inBlock_normal, Option.getD_some, Option.getD_none, Bool.or_false, Bool.or_true, Bool.true_or, Bool.false_or, Bool.false_eq_true, if_false, if_true, up_zero, Nat.reduceAdd, Nat.reduceSub, binv, ↓opt_def, AV.isAny, AV.cells, ldc, List.map_cons, List.map_nil, St.set_next, St.set_same, St.up_next, Int.natCast_nonneg, lt_len, le_len, Int.toNat_natCast, true_and, and_true, eq_self, reduceCtorEq, decide_true, List.length_singleton, er_int, er_bool, er_str]
  refine (rwordF ks1 rfl (St.set_same _ _ _)).mono ?_
  rintro v u ⟨rfl, rfl⟩
  rw [St.set_set]
  try simp only [↓reduceIte, namesOf, List.any, I.names, aops, aopsI, aopsT, qstep, CPt, qget, Tbl.get, astep, ev, setd, List.set, List.getD, List.getElem?_cons_zero, List.getElem?_cons_succ, List.getElem?_nil, List.cons_append, List.nil_append, List.length_cons, List.length_nil, List.replicate, then_normal, inBlock_normal, Option.getD_some, Option.getD_none, Bool.or_false, Bool.or_true, Bool.true_or, Bool.false_or, Bool.false_eq_true, if_false, if_true, up_zero, Nat.reduceAdd, Nat.reduceSub, binv, ↓opt_def, AV.isAny, AV.cells, ldc, List.map_cons, List.map_nil, St.set_next, St.set_same, St.up_next, Int.natCast_nonneg, lt_len, le_len, Int.toNat_natCast, true_and, and_true, eq_self, reduceCtorEq, decide_true, List.length_singleton, er_int, er_bool, er_str, up_zero]
  refine h3 _ _ ?_
  try clear h3 K_h3
  refine T.seq_k (fun K_h3 h3 => ?_)
  refine T.regi hm ?_
  simp only [↓reduceIte, namesOf, List.any, I.names, aops, aopsI, aopsT, qstep, CPt, qget, Tbl.get, astep, ev, setd, List.set, List.getD, List.getElem?_cons_zero, List.getElem?_cons_succ, List.getElem?_nil, List.cons_append, List.nil_append, List.length_cons, List.length_nil, List.replicate, then_normal, inBlock_normal, Option.getD_some, Option.getD_none, Bool.or_false, Bool.or_true, Bool.true_or, Bool.false_or, Bool.false_eq_true, if_false, if_true, up_zero, Nat.reduceAdd, Nat.reduceSub, binv, ↓opt_def, AV.isAny, AV.cells, ldc, List.map_cons, List.map_nil, St.set_next, St.set_same, St.up_next, Int.natCast_nonneg, lt_len, le_len, Int.toNat_natCast, true_and, and_true, eq_self, reduceCtorEq, decide_true, List.length_singleton, er_int, er_bool, er_str]
  refine (rwordF ks2 rfl (St.set_same _ _ _)).mono ?_
  rintro v u ⟨rfl, rfl⟩
  rw [St.set_set]
  try simp only [↓reduceIte, namesOf, List.any, I.names, aops, aopsI, aopsT, qstep, CPt, qget, Tbl.get, astep, ev, setd, List.set, List.getD, List.getElem?_cons_zero, List.getElem?_cons_succ, List.getElem?_nil, List.cons_append, List.nil_append, List.length_cons, List.length_nil, List.replicate, then_normal, inBlock_normal, Option.getD_some, Option.getD_none, Bool.or_false, Bool.or_true, Bool.true_or, Bool.false_or, Bool.false_eq_true, if_false, if_true, up_zero, Nat.reduceAdd, Nat.reduceSub, binv, ↓opt_def, AV.isAny, AV.cells, ldc, List.map_cons, List.map_nil, St.set_next, St.set_same, St.up_next, Int.natCast_nonneg, lt_len, le_len, Int.toNat_natCast, true_and, and_true, eq_self, reduceCtorEq, decide_true, List.length_singleton, er_int, er_bool, er_str, up_zero]
  refine h3 _ _ ?_
  try clear h3 K_h3
  refine T.seq_k (fun K_h3 h3 => ?_)
  refine T.regi hm ?_
  simp only [↓reduceIte, namesOf, List.any, I.names, aops, aopsI, aopsT, qstep, CPt, qget, Tbl.get, astep, ev, setd, List.set, List.getD, List.getElem?_cons_zero, List.getElem?_cons_succ, List.getElem?_nil, List.cons_append, List.nil_append, List.length_cons, List.length_nil, List.replicate, then_normal, inBlock_normal, Option.getD_some, Option.getD_none, Bool.or_false, Bool.or_true, Bool.true_or, Bool.false_or, Bool.false_eq_true, if_false, if_true, up_zero, Nat.reduceAdd, Nat.reduceSub, binv, ↓opt_def, AV.isAny, AV.cells, ldc, List.map_cons, List.map_nil, St.set_next, St.set_same, St.up_next, Int.natCast_nonneg, lt_len, le_len, Int.toNat_natCast, true_and, and_true, eq_self, reduceCtorEq, decide_true, List.length_singleton, er_int, er_bool, er_str]
  refine (rwordF ks3 rfl (St.set_same _ _ _)).mono ?_
  rintro v u ⟨rfl, rfl⟩
  rw [St.set_set]
  try simp only [↓reduceIte, namesOf, List.any, I.names, aops, aopsI, aopsT, qstep, CPt, qget, Tbl.get, astep, ev, setd, List.set, List.getD, List.getElem?_cons_zero, List.getElem?_cons_succ, List.getElem?_nil, List.cons_append, List.nil_append, List.length_cons, List.length_nil, List.replicate, then_normal, inBlock_normal, Option.getD_some, Option.getD_none, Bool.or_false, Bool.or_true, Bool.true_or, Bool.false_or, Bool.false_eq_true, if_false, if_true, up_zero, Nat.reduceAdd, Nat.reduceSub, binv, ↓opt_def, AV.isAny, AV.cells, ldc, List.map_cons, List.map_nil, St.set_next, St.set_same, St.up_next, Int.natCast_nonneg, lt_len, le_len, Int.toNat_natCast, true_and, and_true, eq_self, reduceCtorEq, decide_true, List.length_singleton, er_int, er_bool, er_str, up_zero]
  refine h3 _ _ ?_
  try clear h3 K_h3
  refine T.seq_k (fun K_h3 h3 => ?_)
  refine T.regi hm ?_
  simp only [↓reduceIte, namesOf, List.any, I.names, aops, aopsI, aopsT, qstep, CPt, qget, Tbl.get, astep, ev, setd, List.set, List.getD, List.getElem?_cons_zero, List.getElem?_cons_succ, List.getElem?_nil, List.cons_append, List.nil_append, List.length_cons, List.length_nil, List.replicate, then_normal, inBlock_normal, Option.getD_some, Option.getD_none, Bool.or_false, Bool.or_true, Bool.true_or, Bool.false_or, Bool.false_eq_true, if_false, if_true, up_zero, Nat.reduceAdd, Nat.reduceSub, binv, ↓opt_def, AV.isAny, AV.cells, ldc, List.map_cons, List.map_nil, St.set_next, St.set_same, St.up_next, Int.natCast_nonneg, lt_len, le_len, Int.toNat_natCast, true_and, and_true, eq_self, reduceCtorEq, decide_true, List.length_singleton, er_int, er_bool, er_str]
  refine (rtextR_ok ks4 (St.set_same _ _ _)).mono ?_
  rintro v u ⟨rfl, rfl⟩
  rw [St.set_set, ← hNn]
  rw [← hNn] at ks5
  try simp only [↓reduceIte, namesOf, List.any, I.names, aops, aopsI, aopsT, qstep, CPt, qget, Tbl.get, astep, ev, setd, List.set, List.getD, List.getElem?_cons_zero, List.getElem?_cons_succ, List.getElem?_nil, List.cons_append, List.nil_append, List.length_cons, List.length_nil, List.replicate, then_normal, inBlock_normal, Option.getD_some, Option.getD_none, Bool.or_false, Bool.or_true, Bool.true_or, Bool.false_or, Bool.false_eq_true, if_false, if_true, up_zero, Nat.reduceAdd, Nat.reduceSub, binv, ↓opt_def, AV.isAny, AV.cells, ldc, List.map_cons, List.map_nil, St.set_next, St.set_same, St.up_next, Int.natCast_nonneg, lt_len, le_len, Int.toNat_natCast, true_and, and_true, eq_self, reduceCtorEq, decide_true, List.length_singleton, er_int, er_bool, er_str, up_zero]
  refine h3 _ _ ?_
  try clear h3 K_h3
  have RD := R1.set (rdS b .none s')
  have hrd2 : (t.set nm (rdS b .none s')).res nm = some (.obj [.sl (bytesAV b) .none, .int .i64 s'.at_, .int .i64 s'.bad]) := RD.at_
  generalize (t.set nm (rdS b .none s')) = uD at RD hrd2 ⊢
  clear R1 hrd
  refine T.seq_k (fun K_h3 h3 => ?_)
  by_cases hsb : 0 ≤ s'.bad
  · rw [if_pos hsb] at hgo1
    have e4 : decide (s'.bad ≥ 0) = true := decide_eq_true hsb
    have hG : G = (s'.bad, []) := by rw [hget, hgo1]; simp [hsb]
    refine T.seq_k (fun K_h0 h0 => ?_)
    refine T.regi hm ?_
    simp only [↓reduceIte, namesOf, List.any, I.names, aops, aopsI, aopsT, qstep, CPt, qget, Tbl.get, astep, ev, setd, List.set, List.getD, List.getElem?_cons_zero, List.getElem?_cons_succ, List.getElem?_nil, List.cons_append, List.nil_append, List.length_cons, List.length_nil, List.replicate, then_normal, inBlock_normal, Option.getD_some, Option.getD_none, Bool.or_false, Bool.or_true, Bool.true_or, Bool.false_or, Bool.false_eq_true, if_false, if_true, up_zero, Nat.reduceAdd, Nat.reduceSub, binv, ↓opt_def, AV.isAny, AV.cells, ldc, List.map_cons, List.map_nil, St.set_next, St.set_same, St.up_next, Int.natCast_nonneg, lt_len, le_len, Int.toNat_natCast, true_and, and_true, eq_self, reduceCtorEq, decide_true, List.length_singleton, er_int, er_bool, er_str, hrd2, e4]
    refine h0 _ _ ?_
    try clear h0 K_h0
    refine T.cond rfl (fun _ => ?_) (fun h => by cases h)
    refine T.seq_k (fun K_h0 h0 => ?_)
    refine T.regi hm ?_
    simp only [↓reduceIte, namesOf, List.any, I.names, aops, aopsI, aopsT, qstep, CPt, qget, Tbl.get, astep, ev, setd, List.set, List.getD, List.getElem?_cons_zero, List.getElem?_cons_succ, List.getElem?_nil, List.cons_append, List.nil_append, List.length_cons, List.length_nil, List.replicate, then_normal, inBlock_normal, Option.getD_some, Option.getD_none, Bool.or_false, Bool.or_true, Bool.true_or, Bool.false_or, Bool.false_eq_true, if_false, if_true, up_zero, Nat.reduceAdd, Nat.reduceSub, binv, ↓opt_def, AV.isAny, AV.cells, ldc, List.map_cons, List.map_nil, St.set_next, St.set_same, St.up_next, Int.natCast_nonneg, lt_len, le_len, Int.toNat_natCast, true_and, and_true, eq_self, reduceCtorEq, decide_true, List.length_singleton, er_int, er_bool, er_str, hrd2]
    refine h0 _ _ ?_
    try clear h0 K_h0
    exact T.ret (Fin.quietw rfl (Wk.tup2 (Wk.sl _ _)) ⟨⟨trivial, trivial⟩, trivial, trivial⟩ (RD.like.quiet wf) ⟨by rw [hG]; rfl, rfl⟩)
  rw [if_neg hsb] at hgo1
  have e4 : decide (s'.bad ≥ 0) = false := decide_eq_false hsb
  refine T.seq_k (fun K_h0 h0 => ?_)
  refine T.regi hm ?_
  simp only [↓reduceIte, namesOf, List.any, I.names, aops, aopsI, aopsT, qstep, CPt, qget, Tbl.get, astep, ev, setd, List.set, List.getD, List.getElem?_cons_zero, List.getElem?_cons_succ, List.getElem?_nil, List.cons_append, List.nil_append, List.length_cons, List.length_nil, List.replicate, then_normal, inBlock_normal, Option.getD_some, Option.getD_none, Bool.or_false, Bool.or_true, Bool.true_or, Bool.false_or, Bool.false_eq_true, if_false, if_true, up_zero, Nat.reduceAdd, Nat.reduceSub, binv, ↓opt_def, AV.isAny, AV.cells, ldc, List.map_cons, List.map_nil, St.set_next, St.set_same, St.up_next, Int.natCast_nonneg, lt_len, le_len, Int.toNat_natCast, true_and, and_true, eq_self, reduceCtorEq, decide_true, List.length_singleton, er_int, er_bool, er_str, hrd2, e4]
  refine h0 _ _ ?_
  try clear h0 K_h0
  refine T.cond rfl (fun h => by cases h) (fun _ => T.skip ?_)
  refine h3 _ _ ?_
  try clear h3 K_h3
  generalize rX b (rN b (rN b (rN b (rN b s 8) 8) 8) 8) = xd at hS ⊢
  generalize rW b (rN b (rN b (rN b s 8) 8) 8) 8 = x4 at hS ⊢
  generalize rW b (rN b (rN b s 8) 8) 8 = x3 at hS ⊢
  generalize rW b (rN b s 8) 8 = x2 at hS ⊢
  generalize rW b s 8 = x1 at hS ⊢
  obtain ⟨y3, hy3⟩ : ∃ y, IntKind.i64.wrap (x3 : Int) = y := ⟨_, rfl⟩
  obtain ⟨y4, hy4⟩ : ∃ y, IntKind.i64.wrap (x4 : Int) = y := ⟨_, rfl⟩
  rw [hy3, hy4] at hS
  generalize hz1 : ((x1 : Nat) : Int) = z1
  generalize hz2 : ((x2 : Nat) : Int) = z2
  generalize hz3 : ((x3 : Nat) : Int) = z3 at hy3 ⊢
  generalize hz4 : ((x4 : Nat) : Int) = z4 at hy4 ⊢
  refine T.seq_k (fun K_h3 h3 => ?_)
  refine rread_reg hy3 hy4 ?_
  try simp only [↓reduceIte, namesOf, List.any, I.names, aops, aopsI, aopsT, qstep, CPt, qget, Tbl.get, astep, ev, setd, List.set, List.getD, List.getElem?_cons_zero, List.getElem?_cons_succ, List.getElem?_nil, List.cons_append, List.nil_append, List.length_cons, List.length_nil, List.replicate, then_normal, inBlock_normal, Option.getD_some, Option.getD_none, Bool.or_false, Bool.or_true, Bool.true_or, Bool.false_or, Bool.false_eq_true, if_false, if_true, up_zero, Nat.reduceAdd, Nat.reduceSub, binv, ↓opt_def, AV.isAny, AV.cells, ldc, List.map_cons, List.map_nil, St.set_next, St.set_same, St.up_next, Int.natCast_nonneg, lt_len, le_len, Int.toNat_natCast, true_and, and_true, eq_self, reduceCtorEq, decide_true, List.length_singleton, er_int, er_bool, er_str, then_normal]
  have hcells : [AV.int .u64 z1, .int .u64 z2, .int .i64 y3, .int .i64 y4, .sl (bytesAV xd) .none] =
      [.int .u64 (X.tr : Int), .int .u64 (X.id : Int), .int .i64 X.st, .int .i64 X.en, .sl (bytesAV X.da) .none] := by rw [hS, ← hz1, ← hz2]
  rw [hcells]
  clear hcells
  have hsn0 := RD.like.next
  have hnm0 := RD.hi
  have RE := (RD.up 10).new (a := uD.next + 8) (.obj [.int .u64 (X.tr : Int), .int .u64 (X.id : Int), .int .i64 X.st, .int .i64 X.en, .sl (bytesAV X.da) .none]) (by omega) (by omega) (fun g hg => by have := RD.lt hg; omega)
  have hE : ((uD.up 10).set (uD.next + 8) (.obj [.int .u64 (X.tr : Int), .int .u64 (X.id : Int), .int .i64 X.st, .int .i64 X.en, .sl (bytesAV X.da) .none])).res (uD.next + 8) = some (.obj [.int .u64 (X.tr : Int), .int .u64 (X.id : Int), .int .i64 X.st, .int .i64 X.en, .sl (bytesAV X.da) .none]) := by simp
  generalize ((uD.up 10).set (uD.next + 8) (.obj [.int .u64 (X.tr : Int), .int .u64 (X.id : Int), .int .i64 X.st, .int .i64 X.en, .sl (bytesAV X.da) .none])) = uE at RE hE ⊢
  generalize uD.next + 8 = a at hE ⊢
  clear RD hrd2 hsn0 hnm0
  refine h3 _ _ ?_
  try clear h3 K_h3
  have hEn : ∀ k, (uE.up k).res a = some (.obj [.int .u64 (X.tr : Int), .int .u64 (X.id : Int), .int .i64 X.st, .int .i64 X.en, .sl (bytesAV X.da) .none]) := fun _ => hE
  have hlen5 : ∀ x y z w q : AV, [x, y, z, w, q].length = 5 := fun _ _ _ _ _ => rfl
  have htake : ∀ x y z w q : AV, List.take 5 (List.drop 0 [x, y, z, w, q]) = [x, y, z, w, q] := fun _ _ _ _ _ => rfl
  have h05 : 0 + 5 ≤ 5 := Nat.le_refl _
  have hms : mayI X.st X.en (((bytesAV X.da).length : Nat) : Int) = mayS X := by rw [bytesAV_len]; rfl
  refine T.seq_k (fun K_h3 h3 => ?_)
  refine T.regi hm ?_
  simp only [↓reduceIte, namesOf, List.any, I.names, aops, aopsI, aopsT, qstep, CPt, qget, Tbl.get, astep, ev, setd, List.set, List.getD, List.getElem?_cons_zero, List.getElem?_cons_succ, List.getElem?_nil, List.cons_append, List.nil_append, List.length_cons, List.length_nil, List.replicate, then_normal, inBlock_normal, Option.getD_some, Option.getD_none, Bool.or_false, Bool.or_true, Bool.true_or, Bool.false_or, Bool.false_eq_true, if_false, if_true, up_zero, Nat.reduceAdd, Nat.reduceSub, binv, ↓opt_def, AV.isAny, AV.cells, ldc, List.map_cons, List.map_nil, St.set_next, St.set_same, St.up_next, Int.natCast_nonneg, lt_len, le_len, Int.toNat_natCast, true_and, and_true, eq_self, reduceCtorEq, decide_true, List.length_singleton, er_int, er_bool, er_str, hE, hlen5, htake, h05]
  refine rmay_ok.mono ?_
  rintro v u2 ⟨rfl, rfl⟩
  rw [hms]
  try simp only [↓reduceIte, namesOf, List.any, I.names, aops, aopsI, aopsT, qstep, CPt, qget, Tbl.get, astep, ev, setd, List.set, List.getD, List.getElem?_cons_zero, List.getElem?_cons_succ, List.getElem?_nil, List.cons_append, List.nil_append, List.length_cons, List.length_nil, List.replicate, then_normal, inBlock_normal, Option.getD_some, Option.getD_none, Bool.or_false, Bool.or_true, Bool.true_or, Bool.false_or, Bool.false_eq_true, if_false, if_true, up_zero, Nat.reduceAdd, Nat.reduceSub, binv, ↓opt_def, AV.isAny, AV.cells, ldc, List.map_cons, List.map_nil, St.set_next, St.set_same, St.up_next, Int.natCast_nonneg, lt_len, le_len, Int.toNat_natCast, true_and, and_true, eq_self, reduceCtorEq, decide_true, List.length_singleton, er_int, er_bool, er_str, up_zero]
  refine h3 _ _ ?_
  try clear h3 K_h3
  refine T.seq_k (fun K_h3 h3 => ?_)
  cases hmay : mayS X with
  | false =>
    rw [hmay, if_neg (by simp)] at hgo1
    have hG : G = (s.at_, []) := by rw [hget, hgo1]; simp [hk0]
    refine T.seq_k (fun K_h0 h0 => ?_)
    refine T.regi hm ?_
    simp only [↓reduceIte, namesOf, List.any, I.names, aops, aopsI, aopsT, qstep, CPt, qget, Tbl.get, astep, ev, setd, List.set, List.getD, List.getElem?_cons_zero, List.getElem?_cons_succ, List.getElem?_nil, List.cons_append, List.nil_append, List.length_cons, List.length_nil, List.replicate, then_normal, inBlock_normal, Option.getD_some, Option.getD_none, Bool.or_false, Bool.or_true, Bool.true_or, Bool.false_or, Bool.false_eq_true, if_false, if_true, up_zero, Nat.reduceAdd, Nat.reduceSub, binv, ↓opt_def, AV.isAny, AV.cells, ldc, List.map_cons, List.map_nil, St.set_next, St.set_same, St.up_next, Int.natCast_nonneg, lt_len, le_len, Int.toNat_natCast, true_and, and_true, eq_self, reduceCtorEq, decide_true, List.length_singleton, er_int, er_bool, er_str, Bool.not_false]
    refine h0 _ _ ?_
    try clear h0 K_h0
    refine T.cond rfl (fun _ => ?_) (fun h => by cases h)
    refine T.seq_k (fun K_h0 h0 => ?_)
    refine T.regi hm ?_
    simp only [↓reduceIte, namesOf, List.any, I.names, aops, aopsI, aopsT, qstep, CPt, qget, Tbl.get, astep, ev, setd, List.set, List.getD, List.getElem?_cons_zero, List.getElem?_cons_succ, List.getElem?_nil, List.cons_append, List.nil_append, List.length_cons, List.length_nil, List.replicate, then_normal, inBlock_normal, Option.getD_some, Option.getD_none, Bool.or_false, Bool.or_true, Bool.true_or, Bool.false_or, Bool.false_eq_true, if_false, if_true, up_zero, Nat.reduceAdd, Nat.reduceSub, binv, ↓opt_def, AV.isAny, AV.cells, ldc, List.map_cons, List.map_nil, St.set_next, St.set_same, St.up_next, Int.natCast_nonneg, lt_len, le_len, Int.toNat_natCast, true_and, and_true, eq_self, reduceCtorEq, decide_true, List.length_singleton, er_int, er_bool, er_str]
    refine h0 _ _ ?_
    try clear h0 K_h0
    exact T.ret (Fin.quietw rfl (Wk.tup2 (Wk.sl _ _)) ⟨⟨trivial, trivial⟩, trivial, trivial⟩ (RE.like.quiet wf) ⟨by rw [hG]; rfl, rfl⟩)
  | true =>
    rw [hmay, if_pos rfl, ← hn'] at hgo1
    refine T.seq_k (fun K_h0 h0 => ?_)
    refine T.regi hm ?_
    simp only [↓reduceIte, namesOf, List.any, I.names, aops, aopsI, aopsT, qstep, CPt, qget, Tbl.get, astep, ev, setd, List.set, List.getD, List.getElem?_cons_zero, List.getElem?_cons_succ, List.getElem?_nil, List.cons_append, List.nil_append, List.length_cons, List.length_nil, List.replicate, then_normal, inBlock_normal, Option.getD_some, Option.getD_none, Bool.or_false, Bool.or_true, Bool.true_or, Bool.false_or, Bool.false_eq_true, if_false, if_true, up_zero, Nat.reduceAdd, Nat.reduceSub, binv, ↓opt_def, AV.isAny, AV.cells, ldc, List.map_cons, List.map_nil, St.set_next, St.set_same, St.up_next, Int.natCast_nonneg, lt_len, le_len, Int.toNat_natCast, true_and, and_true, eq_self, reduceCtorEq, decide_true, List.length_singleton, er_int, er_bool, er_str, Bool.not_true]
    refine h0 _ _ ?_
    try clear h0 K_h0
    refine T.cond rfl (fun h => by cases h) (fun _ => T.skip ?_)
    refine h3 _ _ ?_
    try clear h3 K_h3
    have hsn := RE.like.next
    have hnm := RE.hi
    have hfit : (spsAV (acc ++ [X])).all (AV.fits 5) = true := sps_fits _
    have hfit1 : AV.fits 5 (.agg [.int .u64 (X.tr : Int), .int .u64 (X.id : Int), .int .i64 X.st, .int .i64 X.en, .sl (bytesAV X.da) .none]) = true := rfl
    have her : (AV.agg [.int .u64 (X.tr : Int), .int .u64 (X.id : Int), .int .i64 X.st, .int .i64 X.en, .sl (bytesAV X.da) .none]).er = .agg [.int .u64 (X.tr : Int), .int .u64 (X.id : Int), .int .i64 X.st, .int .i64 X.en, .sl (bytesAV X.da) .none] := rfl
    have hle : decide ((acc.length + 1) * 56 ≤ 70368744177664 ∧ acc.length + 1 ≤ 4611686018427387904) = true := decide_eq_true (by omega)
    have hbad' : 0 ≤ s'.bad → N = 0 := fun h => absurd h hsb
    rcases RE.ver with rfl | ⟨g, rfl, _, _, _, hg⟩
    · have hac := hvn rfl
      subst hac
      have hX1 : [AV.agg [.int .u64 (X.tr : Int), .int .u64 (X.id : Int), .int .i64 X.st, .int .i64 X.en, .sl (bytesAV X.da) .none]] = spsAV [X] := rfl
      have hX0 : spsAV ([] : List Sp) = [] := rfl
      have hX2 : (spsAV [X]).isEmpty = false := rfl
      have hX3 : (spsAV [X]).all (AV.fits 5) = true := sps_fits _
      refine T.regi hm ?_
      simp only [↓reduceIte, namesOf, List.any, I.names, aops, aopsI, aopsT, qstep, CPt, qget, Tbl.get, astep, ev, setd, List.set, List.getD, List.getElem?_cons_zero, List.getElem?_cons_succ, List.getElem?_nil, List.cons_append, List.nil_append, List.length_cons, List.length_nil, List.replicate, then_normal, inBlock_normal, Option.getD_some, Option.getD_none, Bool.or_false, Bool.or_true, Bool.true_or, Bool.false_or, Bool.false_eq_true, if_false, if_true, up_zero, Nat.reduceAdd, Nat.reduceSub, binv, ↓opt_def, AV.isAny, AV.cells, ldc, List.map_cons, List.map_nil, St.set_next, St.set_same, St.up_next, Int.natCast_nonneg, lt_len, le_len, Int.toNat_natCast, true_and, and_true, eq_self, reduceCtorEq, decide_true, List.length_singleton, er_int, er_bool, er_str, hEn, hX0, held, hfit1, her, List.all_cons, List.all_nil, Bool.and_self, srcOf, List.nil_append, hX1, hX3, sps_er, sps_len, hX2, List.length_append, List.length_singleton, htake, h05, hlen5, Nat.reduceMul, Nat.reduceLeDiff, and_self, Nat.zero_add, St.up_res]
      refine h2 _ _ ?_
      try clear h2 K_h2
      refine T.regi hm ?_
      simp only [↓reduceIte, namesOf, List.any, I.names, aops, aopsI, aopsT, qstep, CPt, qget, Tbl.get, astep, ev, setd, List.set, List.getD, List.getElem?_cons_zero, List.getElem?_cons_succ, List.getElem?_nil, List.cons_append, List.nil_append, List.length_cons, List.length_nil, List.replicate, then_normal, inBlock_normal, Option.getD_some, Option.getD_none, Bool.or_false, Bool.or_true, Bool.true_or, Bool.false_or, Bool.false_eq_true, if_false, if_true, up_zero, Nat.reduceAdd, Nat.reduceSub, binv, ↓opt_def, AV.isAny, AV.cells, ldc, List.map_cons, List.map_nil, St.set_next, St.set_same, St.up_next, Int.natCast_nonneg, lt_len, le_len, Int.toNat_natCast, true_and, and_true, eq_self, reduceCtorEq, decide_true, List.length_singleton, er_int, er_bool, er_str, hiw]
      exact ⟨hil, _, _, Gh.keep [0, 4, 5, 6, 7], s', [X], _, ks5, (RE.up 5).appNil (g := u2.next + 3) (by omega) (by omega) (by simp), by rw [← hacc]; rfl, (fun h => by cases h), hbad', hgo1, rfl⟩
    · have hgn : ∀ k, (u2.up k).res g = some (.tip 5) := fun _ => hg
      have hle' : decide ((acc.length + 1) * 56 ≤ 70368744177664 ∧ acc.length ≤ 4611686018427387903) = true := decide_eq_true (by omega)
      refine T.regi hm ?_
      simp only [↓reduceIte, namesOf, List.any, I.names, aops, aopsI, aopsT, qstep, CPt, qget, Tbl.get, astep, ev, setd, List.set, List.getD, List.getElem?_cons_zero, List.getElem?_cons_succ, List.getElem?_nil, List.cons_append, List.nil_append, List.length_cons, List.length_nil, List.replicate, then_normal, inBlock_normal, Option.getD_some, Option.getD_none, Bool.or_false, Bool.or_true, Bool.true_or, Bool.false_or, Bool.false_eq_true, if_false, if_true, up_zero, Nat.reduceAdd, Nat.reduceSub, binv, ↓opt_def, AV.isAny, AV.cells, ldc, List.map_cons, List.map_nil, St.set_next, St.set_same, St.up_next, Int.natCast_nonneg, lt_len, le_len, Int.toNat_natCast, true_and, and_true, eq_self, reduceCtorEq, decide_true, List.length_singleton, er_int, er_bool, er_str, hEn, held, hfit1, her, List.all_cons, List.all_nil, Bool.and_self, srcOf, sps_snoc', hfit, sps_len, List.length_singleton, htake, h05, hlen5, hle, hle', hgn]
      refine h2 _ _ ?_
      try clear h2 K_h2
      refine T.regi hm ?_
      simp only [↓reduceIte, namesOf, List.any, I.names, aops, aopsI, aopsT, qstep, CPt, qget, Tbl.get, astep, ev, setd, List.set, List.getD, List.getElem?_cons_zero, List.getElem?_cons_succ, List.getElem?_nil, List.cons_append, List.nil_append, List.length_cons, List.length_nil, List.replicate, then_normal, inBlock_normal, Option.getD_some, Option.getD_none, Bool.or_false, Bool.or_true, Bool.true_or, Bool.false_or, Bool.false_eq_true, if_false, if_true, up_zero, Nat.reduceAdd, Nat.reduceSub, binv, ↓opt_def, AV.isAny, AV.cells, ldc, List.map_cons, List.map_nil, St.set_next, St.set_same, St.up_next, Int.natCast_nonneg, lt_len, le_len, Int.toNat_natCast, true_and, and_true, eq_self, reduceCtorEq, decide_true, List.length_singleton, er_int, er_bool, er_str, hiw]
      exact ⟨hil, _, _, Gh.keep [0, 4, 5, 6, 7], s', acc ++ [X], _, ks5, (RE.up 5).appTip (g := u2.next + 3) (by omega) (by omega) (by simp), by simp [hacc], (fun h => by cases h), hbad', hgo1, rfl⟩

end Go.VL

namespace Go.VL

open Go.Proofs

theorem goS_len {b : List UInt8} : ∀ {n : Nat} {s : Rs} {acc : List Sp}, (goS b n s acc).2.1.length ≤ acc.length + n
  | 0, s, acc => by unfold goS; split <;> simp
  | n + 1, s, acc => by
    unfold goS
    split
    · simp
    · split
      · simp
      · split
        · have := @goS_len b n (oneN b s) (acc ++ [oneS b s])
          simp at this; omega
        · simp

theorem getS_len {b : List UInt8} (hb : b.length ≤ 1000000) : (getS b).2.length ≤ 65535 := by
  have h := rW_lt (w := 2) (Rs.ok_r0 (l := b) (by omega))
  have h2 := @goS_len b (rW b r0 2) (rN b r0 2) []
  unfold getS
  simp only []
  split
  · simp
  · split
    · simp
    · simp at h2 ⊢; omega

/-- the reader's place in what is left of the bytes -/
def sh (k : Nat) (s : Rs) : Rs := ⟨s.at_ - k, if s.bad = -1 then -1 else s.bad - k⟩

structure SH (k : Nat) (b : List UInt8) (s : Rs) : Prop where
  ok : s.ok b
  len : k ≤ b.length
  lo : (k : Int) ≤ s.at_
  bad : s.bad = -1 ∨ (k : Int) ≤ s.bad

theorem SH.neg {k : Nat} {b : List UInt8} {s : Rs} (h : SH k b s) : (sh k s).bad = -1 ↔ s.bad = -1 := by
  unfold sh; have := h.bad
  split <;> simp_all <;> omega

theorem SH.pos {k : Nat} {b : List UInt8} {s : Rs} (h : SH k b s) : 0 ≤ (sh k s).bad ↔ 0 ≤ s.bad := by
  unfold sh; have := h.bad
  split <;> simp_all <;> omega

theorem SH.rt {k : Nat} {b : List UInt8} {s : Rs} (h : SH k b s) (w : Int) : rT (b.drop k) (sh k s) w = rT b s w := by
  have e := h.neg
  have := h.len
  unfold rT
  rw [Bool.eq_iff_iff, decide_eq_true_eq, decide_eq_true_eq, e, List.length_drop]
  unfold sh
  constructor <;> rintro ⟨h1, h2⟩ <;> refine ⟨h1, ?_⟩ <;> simp only [] at * <;> omega

theorem SH.rw {k : Nat} {b : List UInt8} {s : Rs} (h : SH k b s) (w : Nat) : rW (b.drop k) (sh k s) w = rW b s w := by
  unfold rW
  rw [h.rt]
  have : (b.drop k).drop (sh k s).at_.toNat = b.drop s.at_.toNat := by
    rw [List.drop_drop]; unfold sh; have := h.lo; congr 1; simp only []; omega
  rw [this]

end Go.VL

namespace Go.VL

open Go.Proofs

theorem flat_snoc {α β : Type} (f : α → List β) {l : List α} {i : Nat} (h : i < l.length) : (l.take (i + 1)).flatMap f = (l.take i).flatMap f ++ f l[i] := by
  rw [List.take_succ_eq_append_getElem h, List.flatMap_append]; simp

theorem spans_le {l : List Sp} (h : ∀ s ∈ l, s.da.length ≤ 200) : (l.flatMap spanB).length ≤ l.length * 234 := by
  induction l with
  | nil => simp
  | cons s r ih =>
    rw [List.flatMap_cons, List.length_append, List.length_cons, spanB_len, Nat.add_mul]
    have := h s (by simp)
    have := ih (fun x hx => h x (List.mem_cons_of_mem _ hx))
    omega

theorem mayS_len {s : Sp} (h : mayS s = true) : s.da.length ≤ 200 := by have := mayS_facts h; omega

set_option maxRecDepth 10000 in
set_option maxHeartbeats 1000000 in
theorem spput_ok {l : List Sp} {g : Ver} {σ : St} (hl : l.length ≤ 65535) (hd : ∀ s ∈ l, s.da.length ≤ 9223372036854775807) :
    ACalls Tryd.prog n_spput [.sl (spsAV l) g] σ (fun v σ' => v = (if l.all mayS then .tup [.sl (bytesAV (spansB l)) .none, .nili] else .tup [.sl [] .none, .iface tCode (.int .i64 1)]) ∧ σ' = σ) := by
  refine s_spput (fun wf => ?_)
  unfold c_spput
  have e1 : decide ((l.length : Int) > 65535) = false := decide_eq_false (by omega)
  have e2 := u64w (n := l.length) (by omega)
  refine T.seq_k (fun K_h0 h0 => ?_)
  refine T.regi hm ?_
  simp only [↓reduceIte, namesOf, List.any, I.names, aops, aopsI, aopsT, qstep, CPt, qget, Tbl.get, astep, ev, setd, List.set, List.getD, List.getElem?_cons_zero, List.getElem?_cons_succ, List.getElem?_nil, List.cons_append, List.nil_append, List.length_cons, List.length_nil, List.replicate, then_normal, inBlock_normal, Option.getD_some, Option.getD_none, Bool.or_false, Bool.or_true, Bool.true_or, Bool.false_or, Bool.false_eq_true, if_false, if_true, up_zero, Nat.reduceAdd, Nat.reduceSub, binv, ↓opt_def, AV.isAny, AV.cells, ldc, List.map_cons, List.map_nil, St.set_next, St.set_same, St.up_next, Int.natCast_nonneg, lt_len, le_len, Int.toNat_natCast, true_and, and_true, eq_self, reduceCtorEq, decide_true, List.length_singleton, er_int, er_bool, er_str]
  refine h0 _ _ ?_
  try clear h0 K_h0
  refine T.seq_k (fun K_h1 h1 => ?_)
  refine T.seq_k (fun K_h0 h0 => ?_)
  refine T.regi hm ?_
  simp only [↓reduceIte, namesOf, List.any, I.names, aops, aopsI, aopsT, qstep, CPt, qget, Tbl.get, astep, ev, setd, List.set, List.getD, List.getElem?_cons_zero, List.getElem?_cons_succ, List.getElem?_nil, List.cons_append, List.nil_append, List.length_cons, List.length_nil, List.replicate, then_normal, inBlock_normal, Option.getD_some, Option.getD_none, Bool.or_false, Bool.or_true, Bool.true_or, Bool.false_or, Bool.false_eq_true, if_false, if_true, up_zero, Nat.reduceAdd, Nat.reduceSub, binv, ↓opt_def, AV.isAny, AV.cells, ldc, List.map_cons, List.map_nil, St.set_next, St.set_same, St.up_next, Int.natCast_nonneg, lt_len, le_len, Int.toNat_natCast, true_and, and_true, eq_self, reduceCtorEq, decide_true, List.length_singleton, er_int, er_bool, er_str, sps_len, e1]
  refine h0 _ _ ?_
  try clear h0 K_h0
  refine T.cond rfl (fun h => by cases h) (fun _ => T.skip ?_)
  refine h1 _ _ ?_
  try clear h1 K_h1
  refine T.seq_k (fun K_h1 h1 => ?_)
  have hnil : AV.sl [] .nil = .sl (bytesAV []) .nil := rfl
  rw [hnil]
  refine T.regi hm ?_
  simp only [↓reduceIte, namesOf, List.any, I.names, aops, aopsI, aopsT, qstep, CPt, qget, Tbl.get, astep, ev, setd, List.set, List.getD, List.getElem?_cons_zero, List.getElem?_cons_succ, List.getElem?_nil, List.cons_append, List.nil_append, List.length_cons, List.length_nil, List.replicate, then_normal, inBlock_normal, Option.getD_some, Option.getD_none, Bool.or_false, Bool.or_true, Bool.true_or, Bool.false_or, Bool.false_eq_true, if_false, if_true, up_zero, Nat.reduceAdd, Nat.reduceSub, binv, ↓opt_def, AV.isAny, AV.cells, ldc, List.map_cons, List.map_nil, St.set_next, St.set_same, St.up_next, Int.natCast_nonneg, lt_len, le_len, Int.toNat_natCast, true_and, and_true, eq_self, reduceCtorEq, decide_true, List.length_singleton, er_int, er_bool, er_str, sps_len, e2]
  refine (wput_ok (l := []) (w := 2) (by simp) rfl (fun _ => by omega)).mono ?_
  rintro v σ1 ⟨h, o1, rfl⟩
  rw [List.nil_append, ← hnil]
  have q0 := Tq.one o1
  clear o1
  try simp only [↓reduceIte, namesOf, List.any, I.names, aops, aopsI, aopsT, qstep, CPt, qget, Tbl.get, astep, ev, setd, List.set, List.getD, List.getElem?_cons_zero, List.getElem?_cons_succ, List.getElem?_nil, List.cons_append, List.nil_append, List.length_cons, List.length_nil, List.replicate, then_normal, inBlock_normal, Option.getD_some, Option.getD_none, Bool.or_false, Bool.or_true, Bool.true_or, Bool.false_or, Bool.false_eq_true, if_false, if_true, up_zero, Nat.reduceAdd, Nat.reduceSub, binv, ↓opt_def, AV.isAny, AV.cells, ldc, List.map_cons, List.map_nil, St.set_next, St.set_same, St.up_next, Int.natCast_nonneg, lt_len, le_len, Int.toNat_natCast, true_and, and_true, eq_self, reduceCtorEq, decide_true, List.length_singleton, er_int, er_bool, er_str, up_zero]
  refine h1 _ _ ?_
  try clear h1 K_h1
  refine T.seq_k (fun K_h1 h1 => ?_)
  refine T.seq_k (fun K_h0 h0 => ?_)
  refine T.regi hm ?_
  simp only [↓reduceIte, namesOf, List.any, I.names, aops, aopsI, aopsT, qstep, CPt, qget, Tbl.get, astep, ev, setd, List.set, List.getD, List.getElem?_cons_zero, List.getElem?_cons_succ, List.getElem?_nil, List.cons_append, List.nil_append, List.length_cons, List.length_nil, List.replicate, then_normal, inBlock_normal, Option.getD_some, Option.getD_none, Bool.or_false, Bool.or_true, Bool.true_or, Bool.false_or, Bool.false_eq_true, if_false, if_true, up_zero, Nat.reduceAdd, Nat.reduceSub, binv, ↓opt_def, AV.isAny, AV.cells, ldc, List.map_cons, List.map_nil, St.set_next, St.set_same, St.up_next, Int.natCast_nonneg, lt_len, le_len, Int.toNat_natCast, true_and, and_true, eq_self, reduceCtorEq, decide_true, List.length_singleton, er_int, er_bool, er_str, eqIv, bne_self_eq_false]
  refine h0 _ _ ?_
  try clear h0 K_h0
  refine T.cond rfl (fun h => by cases h) (fun _ => T.skip ?_)
  refine h1 _ _ ?_
  try clear h1 K_h1
  refine T.seq_k (fun K_h1 h1 => ?_)
  refine T.seq_k (fun K_h0 h0 => ?_)
  refine T.regi hm ?_
  simp only [↓reduceIte, namesOf, List.any, I.names, aops, aopsI, aopsT, qstep, CPt, qget, Tbl.get, astep, ev, setd, List.set, List.getD, List.getElem?_cons_zero, List.getElem?_cons_succ, List.getElem?_nil, List.cons_append, List.nil_append, List.length_cons, List.length_nil, List.replicate, then_normal, inBlock_normal, Option.getD_some, Option.getD_none, Bool.or_false, Bool.or_true, Bool.true_or, Bool.false_or, Bool.false_eq_true, if_false, if_true, up_zero, Nat.reduceAdd, Nat.reduceSub, binv, ↓opt_def, AV.isAny, AV.cells, ldc, List.map_cons, List.map_nil, St.set_next, St.set_same, St.up_next, Int.natCast_nonneg, lt_len, le_len, Int.toNat_natCast, true_and, and_true, eq_self, reduceCtorEq, decide_true, List.length_singleton, er_int, er_bool, er_str, sps_len]
  refine h0 _ _ ?_
  try clear h0 K_h0
  refine T.block ?_
  refine T.gh (Gh.keep [2, 3, 4, 24, 25, 26]) ?_
  refine T.loopi (fun i ρ t => (∃ g1, Tq σ t g1 1 ∧ (l.take i).all mayS = true ∧ ρ = [.any, .any, .sl [] .nil, .nili, .sl (bytesAV (beB 2 l.length ++ (l.take i).flatMap spanB)) (.tip g1)] ++ List.replicate 19 .any ++ [.sl (spsAV l) g, .int .i64 (l.length : Int), .int .i64 (i : Int)] ++ List.replicate 20 .any))
    l.length 0 (Nat.zero_le _) ⟨h, q0, rfl, by rw [List.take_zero, List.flatMap_nil, List.append_nil]; rfl⟩ ?_
  clear q0 h
  rintro i ρ t hi ⟨h, q0, hall, rfl⟩
  refine T.seq_k (fun K_h0 h0 => ?_)
  refine T.regi hm ?_
  simp only [↓reduceIte, namesOf, List.any, I.names, aops, aopsI, aopsT, qstep, CPt, qget, Tbl.get, astep, ev, setd, List.set, List.getD, List.getElem?_cons_zero, List.getElem?_cons_succ, List.getElem?_nil, List.cons_append, List.nil_append, List.length_cons, List.length_nil, List.replicate, then_normal, inBlock_normal, Option.getD_some, Option.getD_none, Bool.or_false, Bool.or_true, Bool.true_or, Bool.false_or, Bool.false_eq_true, if_false, if_true, up_zero, Nat.reduceAdd, Nat.reduceSub, binv, ↓opt_def, AV.isAny, AV.cells, ldc, List.map_cons, List.map_nil, St.set_next, St.set_same, St.up_next, Int.natCast_nonneg, lt_len, le_len, Int.toNat_natCast, true_and, and_true, eq_self, reduceCtorEq, decide_true, List.length_singleton, er_int, er_bool, er_str]
  refine h0 _ _ ?_
  try clear h0 K_h0
  refine T.seq_k (fun K_h2 h2 => ?_)
  by_cases hil : i < l.length
  case neg =>
    refine T.cond (b := false) (by simp [ev]; omega) (fun h => by cases h) (fun _ => T.exit ?_)
    have : i = l.length := by omega
    subst this
    rw [List.take_length] at hall ⊢
    try simp only [↓reduceIte, namesOf, List.any, I.names, aops, aopsI, aopsT, qstep, CPt, qget, Tbl.get, astep, ev, setd, List.set, List.getD, List.getElem?_cons_zero, List.getElem?_cons_succ, List.getElem?_nil, List.cons_append, List.nil_append, List.length_cons, List.length_nil, List.replicate, then_normal, inBlock_normal, Option.getD_some, Option.getD_none, Bool.or_false, Bool.or_true, Bool.true_or, Bool.false_or, Bool.false_eq_true, if_false, if_true, up_zero, Nat.reduceAdd, Nat.reduceSub, binv, ↓opt_def, AV.isAny, AV.cells, ldc, List.map_cons, List.map_nil, St.set_next, St.set_same, St.up_next, Int.natCast_nonneg, lt_len, le_len, Int.toNat_natCast, true_and, and_true, eq_self, reduceCtorEq, decide_true, List.length_singleton, er_int, er_bool, er_str, inBlock_exit, then_exit]
    refine h1 _ _ ?_
    try clear h1 K_h1
    refine T.seq_k (fun K_h0 h0 => ?_)
    refine T.regi hm ?_
    simp only [↓reduceIte, namesOf, List.any, I.names, aops, aopsI, aopsT, qstep, CPt, qget, Tbl.get, astep, ev, setd, List.set, List.getD, List.getElem?_cons_zero, List.getElem?_cons_succ, List.getElem?_nil, List.cons_append, List.nil_append, List.length_cons, List.length_nil, List.replicate, then_normal, inBlock_normal, Option.getD_some, Option.getD_none, Bool.or_false, Bool.or_true, Bool.true_or, Bool.false_or, Bool.false_eq_true, if_false, if_true, up_zero, Nat.reduceAdd, Nat.reduceSub, binv, ↓opt_def, AV.isAny, AV.cells, ldc, List.map_cons, List.map_nil, St.set_next, St.set_same, St.up_next, Int.natCast_nonneg, lt_len, le_len, Int.toNat_natCast, true_and, and_true, eq_self, reduceCtorEq, decide_true, List.length_singleton, er_int, er_bool, er_str]
    refine h0 _ _ ?_
    try clear h0 K_h0
    exact T.ret (Fin.quietw rfl (Wk.tup2 (Wk.sl _ _)) ⟨⟨nb_bytes _ _, trivial⟩, trivial, trivial⟩ (q0.quiet wf) ⟨by rw [if_pos hall]; rfl, rfl⟩)
  refine T.cond (b := true) (by simp [ev]; omega) (fun _ => T.skip ?_) (fun h => by cases h)
  refine h2 _ _ ?_
  try clear h2 K_h2
  have hiw := inc64' hil (by omega)
  have hilI : (i : Int) < (l.length : Int) := by omega
  have hg := sps_get hil
  have hds := hd _ (List.getElem_mem hil)
  have hfs := flat_snoc spanB hil
  have hta : (l.take (i + 1)).all mayS = ((l.take i).all mayS && mayS l[i]) := by rw [List.take_succ_eq_append_getElem hil, List.all_append]; simp
  have hlm : l.all mayS = true → mayS l[i] = true := fun h => List.all_eq_true.1 h _ (List.getElem_mem hil)
  have hpl : ((l.take i).flatMap spanB).length ≤ 65535 * 234 := by
    refine Nat.le_trans (spans_le (fun s hs => mayS_len (List.all_eq_true.1 hall s hs))) (Nat.mul_le_mul_right _ ?_)
    rw [List.length_take]; omega
  generalize l[i] = s at hg hds hfs hta hlm
  rw [spav] at hg
  refine T.seq_k (fun K_h2 h2 => ?_)
  refine T.block ?_
  refine T.seq_k (fun K_h3 h3 => ?_)
  refine T.regi hm ?_
  simp only [↓reduceIte, namesOf, List.any, I.names, aops, aopsI, aopsT, qstep, CPt, qget, Tbl.get, astep, ev, setd, List.set, List.getD, List.getElem?_cons_zero, List.getElem?_cons_succ, List.getElem?_nil, List.cons_append, List.nil_append, List.length_cons, List.length_nil, List.replicate, then_normal, inBlock_normal, Option.getD_some, Option.getD_none, Bool.or_false, Bool.or_true, Bool.true_or, Bool.false_or, Bool.false_eq_true, if_false, if_true, up_zero, Nat.reduceAdd, Nat.reduceSub, binv, ↓opt_def, AV.isAny, AV.cells, ldc, List.map_cons, List.map_nil, St.set_next, St.set_same, St.up_next, Int.natCast_nonneg, lt_len, le_len, Int.toNat_natCast, true_and, and_true, eq_self, reduceCtorEq, decide_true, List.length_singleton, er_int, er_bool, er_str, sps_len, hg, hilI, AV.fits, AV.one, List.all_cons, List.all_nil, Nat.reduceBEq, Bool.and_true, Bool.not_false, Bool.and_self, Nat.zero_add, splice, List.take, List.drop, Nat.reduceLeDiff, St.set_set]
  have q1 := q0.box (n := 4) (i := 2) (by omega) (.obj [.int .u64 (s.tr : Int), .int .u64 (s.id : Int), .int .i64 s.st, .int .i64 s.en, .sl (bytesAV s.da) .none])
  have hb : ((t.up 4).set (t.next + 2) (.obj [.int .u64 (s.tr : Int), .int .u64 (s.id : Int), .int .i64 s.st, .int .i64 s.en, .sl (bytesAV s.da) .none])).res (t.next + 2) = some (.obj [.int .u64 (s.tr : Int), .int .u64 (s.id : Int), .int .i64 s.st, .int .i64 s.en, .sl (bytesAV s.da) .none]) := by simp
  generalize ((t.up 4).set (t.next + 2) (.obj [.int .u64 (s.tr : Int), .int .u64 (s.id : Int), .int .i64 s.st, .int .i64 s.en, .sl (bytesAV s.da) .none])) = τ at q1 hb ⊢
  generalize t.next + 2 = a at hb ⊢
  clear q0
  refine h3 _ _ ?_
  try clear h3 K_h3
  refine T.seq_k (fun K_h3 h3 => ?_)
  refine T.seq_k (fun K_h4 h4 => ?_)
  refine T.regi hm ?_
  simp only [↓reduceIte, namesOf, List.any, I.names, aops, aopsI, aopsT, qstep, CPt, qget, Tbl.get, astep, ev, setd, List.set, List.getD, List.getElem?_cons_zero, List.getElem?_cons_succ, List.getElem?_nil, List.cons_append, List.nil_append, List.length_cons, List.length_nil, List.replicate, then_normal, inBlock_normal, Option.getD_some, Option.getD_none, Bool.or_false, Bool.or_true, Bool.true_or, Bool.false_or, Bool.false_eq_true, if_false, if_true, up_zero, Nat.reduceAdd, Nat.reduceSub, binv, ↓opt_def, AV.isAny, AV.cells, ldc, List.map_cons, List.map_nil, St.set_next, St.set_same, St.up_next, Int.natCast_nonneg, lt_len, le_len, Int.toNat_natCast, true_and, and_true, eq_self, reduceCtorEq, decide_true, List.length_singleton, er_int, er_bool, er_str, hb, AV.fits, AV.one, List.all_cons, List.all_nil, Nat.reduceBEq, Bool.and_true, Bool.not_false, Bool.and_self, Nat.zero_add, splice, List.take, List.drop, Nat.reduceLeDiff]
  refine (may_ok).mono ?_
  rintro v τ2 ⟨rfl, rfl⟩
  have hms : mayI s.st s.en (((bytesAV s.da).length : Nat) : Int) = mayS s := by rw [bytesAV_len]; rfl
  rw [hms]
  cases hmay : mayS s with
  | false =>
    try simp only [↓reduceIte, namesOf, List.any, I.names, aops, aopsI, aopsT, qstep, CPt, qget, Tbl.get, astep, ev, setd, List.set, List.getD, List.getElem?_cons_zero, List.getElem?_cons_succ, List.getElem?_nil, List.cons_append, List.nil_append, List.length_cons, List.length_nil, List.replicate, then_normal, inBlock_normal, Option.getD_some, Option.getD_none, Bool.or_false, Bool.or_true, Bool.true_or, Bool.false_or, Bool.false_eq_true, if_false, if_true, up_zero, Nat.reduceAdd, Nat.reduceSub, binv, ↓opt_def, AV.isAny, AV.cells, ldc, List.map_cons, List.map_nil, St.set_next, St.set_same, St.up_next, Int.natCast_nonneg, lt_len, le_len, Int.toNat_natCast, true_and, and_true, eq_self, reduceCtorEq, decide_true, List.length_singleton, er_int, er_bool, er_str, up_zero, Bool.not_false]
    refine h4 _ _ ?_
    try clear h4 K_h4
    refine T.cond rfl (fun _ => ?_) (fun h => by cases h)
    refine T.seq_k (fun K_h0 h0 => ?_)
    refine T.regi hm ?_
    simp only [↓reduceIte, namesOf, List.any, I.names, aops, aopsI, aopsT, qstep, CPt, qget, Tbl.get, astep, ev, setd, List.set, List.getD, List.getElem?_cons_zero, List.getElem?_cons_succ, List.getElem?_nil, List.cons_append, List.nil_append, List.length_cons, List.length_nil, List.replicate, then_normal, inBlock_normal, Option.getD_some, Option.getD_none, Bool.or_false, Bool.or_true, Bool.true_or, Bool.false_or, Bool.false_eq_true, if_false, if_true, up_zero, Nat.reduceAdd, Nat.reduceSub, binv, ↓opt_def, AV.isAny, AV.cells, ldc, List.map_cons, List.map_nil, St.set_next, St.set_same, St.up_next, Int.natCast_nonneg, lt_len, le_len, Int.toNat_natCast, true_and, and_true, eq_self, reduceCtorEq, decide_true, List.length_singleton, er_int, er_bool, er_str]
    refine h0 _ _ ?_
    try clear h0 K_h0
    have : ¬ l.all mayS = true := fun h => by rw [hlm h] at hmay; cases hmay
    exact T.ret (Fin.quietw rfl (Wk.tup2 (Wk.sl _ _)) ⟨⟨trivial, trivial⟩, trivial, trivial⟩ (q1.quiet wf) ⟨by rw [if_neg this]; rfl, rfl⟩)
  | true =>
    try simp only [↓reduceIte, namesOf, List.any, I.names, aops, aopsI, aopsT, qstep, CPt, qget, Tbl.get, astep, ev, setd, List.set, List.getD, List.getElem?_cons_zero, List.getElem?_cons_succ, List.getElem?_nil, List.cons_append, List.nil_append, List.length_cons, List.length_nil, List.replicate, then_normal, inBlock_normal, Option.getD_some, Option.getD_none, Bool.or_false, Bool.or_true, Bool.true_or, Bool.false_or, Bool.false_eq_true, if_false, if_true, up_zero, Nat.reduceAdd, Nat.reduceSub, binv, ↓opt_def, AV.isAny, AV.cells, ldc, List.map_cons, List.map_nil, St.set_next, St.set_same, St.up_next, Int.natCast_nonneg, lt_len, le_len, Int.toNat_natCast, true_and, and_true, eq_self, reduceCtorEq, decide_true, List.length_singleton, er_int, er_bool, er_str, up_zero, Bool.not_true]
    refine h4 _ _ ?_
    try clear h4 K_h4
    refine T.cond rfl (fun h => by cases h) (fun _ => T.skip ?_)
    refine h3 _ _ ?_
    try clear h3 K_h3
    refine T.seq_k (fun K_h3 h3 => ?_)
    refine T.regi hm ?_
    simp only [↓reduceIte, namesOf, List.any, I.names, aops, aopsI, aopsT, qstep, CPt, qget, Tbl.get, astep, ev, setd, List.set, List.getD, List.getElem?_cons_zero, List.getElem?_cons_succ, List.getElem?_nil, List.cons_append, List.nil_append, List.length_cons, List.length_nil, List.replicate, then_normal, inBlock_normal, Option.getD_some, Option.getD_none, Bool.or_false, Bool.or_true, Bool.true_or, Bool.false_or, Bool.false_eq_true, if_false, if_true, up_zero, Nat.reduceAdd, Nat.reduceSub, binv, ↓opt_def, AV.isAny, AV.cells, ldc, List.map_cons, List.map_nil, St.set_next, St.set_same, St.up_next, Int.natCast_nonneg, lt_len, le_len, Int.toNat_natCast, true_and, and_true, eq_self, reduceCtorEq, decide_true, List.length_singleton, er_int, er_bool, er_str, hb, AV.fits, AV.one, List.all_cons, List.all_nil, Nat.reduceBEq, Bool.and_true, Bool.not_false, Bool.and_self, Nat.zero_add, splice, List.take, List.drop, Nat.reduceLeDiff]
    refine (sput1_ok hmay).mono ?_
    rintro v τ3 ⟨rfl, rfl⟩
    try simp only [↓reduceIte, namesOf, List.any, I.names, aops, aopsI, aopsT, qstep, CPt, qget, Tbl.get, astep, ev, setd, List.set, List.getD, List.getElem?_cons_zero, List.getElem?_cons_succ, List.getElem?_nil, List.cons_append, List.nil_append, List.length_cons, List.length_nil, List.replicate, then_normal, inBlock_normal, Option.getD_some, Option.getD_none, Bool.or_false, Bool.or_true, Bool.true_or, Bool.false_or, Bool.false_eq_true, if_false, if_true, up_zero, Nat.reduceAdd, Nat.reduceSub, binv, ↓opt_def, AV.isAny, AV.cells, ldc, List.map_cons, List.map_nil, St.set_next, St.set_same, St.up_next, Int.natCast_nonneg, lt_len, le_len, Int.toNat_natCast, true_and, and_true, eq_self, reduceCtorEq, decide_true, List.length_singleton, er_int, er_bool, er_str, up_zero]
    refine h3 _ _ ?_
    try clear h3 K_h3
    refine T.seq_k (fun K_h3 h3 => ?_)
    refine T.seq_k (fun K_h0 h0 => ?_)
    refine T.regi hm ?_
    simp only [↓reduceIte, namesOf, List.any, I.names, aops, aopsI, aopsT, qstep, CPt, qget, Tbl.get, astep, ev, setd, List.set, List.getD, List.getElem?_cons_zero, List.getElem?_cons_succ, List.getElem?_nil, List.cons_append, List.nil_append, List.length_cons, List.length_nil, List.replicate, then_normal, inBlock_normal, Option.getD_some, Option.getD_none, Bool.or_false, Bool.or_true, Bool.true_or, Bool.false_or, Bool.false_eq_true, if_false, if_true, up_zero, Nat.reduceAdd, Nat.reduceSub, binv, ↓opt_def, AV.isAny, AV.cells, ldc, List.map_cons, List.map_nil, St.set_next, St.set_same, St.up_next, Int.natCast_nonneg, lt_len, le_len, Int.toNat_natCast, true_and, and_true, eq_self, reduceCtorEq, decide_true, List.length_singleton, er_int, er_bool, er_str, eqIv, bne_self_eq_false]
    refine h0 _ _ ?_
    try clear h0 K_h0
    refine T.cond rfl (fun h => by cases h) (fun _ => T.skip ?_)
    refine h3 _ _ ?_
    try clear h3 K_h3
    have hat := q1.ats
    have hsl := mayS_len hmay
    have hle : decide ((2 + ((l.take i).flatMap spanB).length + (s.da.length + 34)) * 1 ≤ 70368744177664 ∧ 2 + ((l.take i).flatMap spanB).length + (s.da.length + 34) ≤ 4611686018427387904) = true := app_le (by omega)
    refine T.regi hm ?_
    simp only [↓reduceIte, namesOf, List.any, I.names, aops, aopsI, aopsT, qstep, CPt, qget, Tbl.get, astep, ev, setd, List.set, List.getD, List.getElem?_cons_zero, List.getElem?_cons_succ, List.getElem?_nil, List.cons_append, List.nil_append, List.length_cons, List.length_nil, List.replicate, then_normal, inBlock_normal, Option.getD_some, Option.getD_none, Bool.or_false, Bool.or_true, Bool.true_or, Bool.false_or, Bool.false_eq_true, if_false, if_true, up_zero, Nat.reduceAdd, Nat.reduceSub, binv, ↓opt_def, AV.isAny, AV.cells, ldc, List.map_cons, List.map_nil, St.set_next, St.set_same, St.up_next, Int.natCast_nonneg, lt_len, le_len, Int.toNat_natCast, true_and, and_true, eq_self, reduceCtorEq, decide_true, List.length_singleton, er_int, er_bool, er_str, held, srcOf, bytesAV_er, bytesAV_app, bytes_all, bytesAV_len, List.length_append, Bool.and_self, St.up_res, List.isEmpty, hat, beB_len, spanB_len, hle]
    refine h2 _ _ ?_
    try clear h2 K_h2
    refine T.regi hm ?_
    simp only [↓reduceIte, namesOf, List.any, I.names, aops, aopsI, aopsT, qstep, CPt, qget, Tbl.get, astep, ev, setd, List.set, List.getD, List.getElem?_cons_zero, List.getElem?_cons_succ, List.getElem?_nil, List.cons_append, List.nil_append, List.length_cons, List.length_nil, List.replicate, then_normal, inBlock_normal, Option.getD_some, Option.getD_none, Bool.or_false, Bool.or_true, Bool.true_or, Bool.false_or, Bool.false_eq_true, if_false, if_true, up_zero, Nat.reduceAdd, Nat.reduceSub, binv, ↓opt_def, AV.isAny, AV.cells, ldc, List.map_cons, List.map_nil, St.set_next, St.set_same, St.up_next, Int.natCast_nonneg, lt_len, le_len, Int.toNat_natCast, true_and, and_true, eq_self, reduceCtorEq, decide_true, List.length_singleton, er_int, er_bool, er_str, hiw]
    refine ⟨hil, _, _, Gh.keep [2, 3, 4, 24, 25, 26], _, q1.app (n := 4) (i := 2) (by omega), by rw [hta, hall, hmay]; rfl, ?_⟩
    rw [hfs, ← List.append_assoc]; rfl

end Go.VL

namespace Go.VL

open Go.Proofs

theorem ACalls.wk {P : Program} {f : Nat} {args args' : List AV} {σ : St} {K : AV → St → Prop} (h : Wks args args') (k : ACalls P f args' σ K) : ACalls P f args σ K :=
  ⟨k.1, fun κ w vs B F hR hv => k.2 κ w vs B F hR (h.vl hv)⟩

theorem getS0 : getS [] = (0, []) := by decide +kernel

set_option maxRecDepth 10000 in
set_option maxHeartbeats 1000000 in
theorem up03_ok {gn : Nat} {σ : St} (hG : σ.res gn = some (.glob 0 hvE)) : ACalls Tryd.prog n_up03 [] σ (fun v σ' => v = .bool true ∧ σ' = σ) := by
  refine s_up03 (fun wf => ?_)
  unfold c_up03
  refine T.seq_k (fun K_h0 h0 => ?_)
  refine T.regi hm ?_
  simp only [↓reduceIte, namesOf, List.any, I.names, aops, aopsI, aopsT, qstep, CPt, qget, Tbl.get, astep, ev, setd, List.set, List.getD, List.getElem?_cons_zero, List.getElem?_cons_succ, List.getElem?_nil, List.cons_append, List.nil_append, List.length_cons, List.length_nil, List.replicate, then_normal, inBlock_normal, Option.getD_some, Option.getD_none, Bool.or_false, Bool.or_true, Bool.true_or, Bool.false_or, Bool.false_eq_true, if_false, if_true, up_zero, Nat.reduceAdd, Nat.reduceSub, binv, ↓opt_def, AV.isAny, AV.cells, ldc, List.map_cons, List.map_nil, St.set_next, St.set_same, St.up_next, Int.natCast_nonneg, lt_len, le_len, Int.toNat_natCast, true_and, and_true, eq_self, reduceCtorEq, decide_true, List.length_singleton, er_int, er_bool, er_str]
  refine h0 _ _ ?_
  try clear h0 K_h0
  refine T.seq_k (fun K_h1 h1 => ?_)
  have hnil : AV.sl [] .nil = .sl (spsAV []) .nil := rfl
  have hnil2 : AV.sl [] .nil = .sl (bytesAV []) .nil := rfl
  refine T.regi hm ?_
  simp only [↓reduceIte, namesOf, List.any, I.names, aops, aopsI, aopsT, qstep, CPt, qget, Tbl.get, astep, ev, setd, List.set, List.getD, List.getElem?_cons_zero, List.getElem?_cons_succ, List.getElem?_nil, List.cons_append, List.nil_append, List.length_cons, List.length_nil, List.replicate, then_normal, inBlock_normal, Option.getD_some, Option.getD_none, Bool.or_false, Bool.or_true, Bool.true_or, Bool.false_or, Bool.false_eq_true, if_false, if_true, up_zero, Nat.reduceAdd, Nat.reduceSub, binv, ↓opt_def, AV.isAny, AV.cells, ldc, List.map_cons, List.map_nil, St.set_next, St.set_same, St.up_next, Int.natCast_nonneg, lt_len, le_len, Int.toNat_natCast, true_and, and_true, eq_self, reduceCtorEq, decide_true, List.length_singleton, er_int, er_bool, er_str]
  refine (spput_ok (l := []) (g := .nil) (by simp) (fun _ h => by cases h)).mono ?_
  rintro v σ1 ⟨hv, rfl⟩
  have hv : v = .tup [.sl (bytesAV [0, 0]) .none, .nili] := hv
  subst hv
  try simp only [↓reduceIte, namesOf, List.any, I.names, aops, aopsI, aopsT, qstep, CPt, qget, Tbl.get, astep, ev, setd, List.set, List.getD, List.getElem?_cons_zero, List.getElem?_cons_succ, List.getElem?_nil, List.cons_append, List.nil_append, List.length_cons, List.length_nil, List.replicate, then_normal, inBlock_normal, Option.getD_some, Option.getD_none, Bool.or_false, Bool.or_true, Bool.true_or, Bool.false_or, Bool.false_eq_true, if_false, if_true, up_zero, Nat.reduceAdd, Nat.reduceSub, binv, ↓opt_def, AV.isAny, AV.cells, ldc, List.map_cons, List.map_nil, St.set_next, St.set_same, St.up_next, Int.natCast_nonneg, lt_len, le_len, Int.toNat_natCast, true_and, and_true, eq_self, reduceCtorEq, decide_true, List.length_singleton, er_int, er_bool, er_str, up_zero]
  refine h1 _ _ ?_
  try clear h1 K_h1
  refine T.seq_k (fun K_h1 h1 => ?_)
  refine T.regi hm ?_
  simp only [↓reduceIte, namesOf, List.any, I.names, aops, aopsI, aopsT, qstep, CPt, qget, Tbl.get, astep, ev, setd, List.set, List.getD, List.getElem?_cons_zero, List.getElem?_cons_succ, List.getElem?_nil, List.cons_append, List.nil_append, List.length_cons, List.length_nil, List.replicate, then_normal, inBlock_normal, Option.getD_some, Option.getD_none, Bool.or_false, Bool.or_true, Bool.true_or, Bool.false_or, Bool.false_eq_true, if_false, if_true, up_zero, Nat.reduceAdd, Nat.reduceSub, binv, ↓opt_def, AV.isAny, AV.cells, ldc, List.map_cons, List.map_nil, St.set_next, St.set_same, St.up_next, Int.natCast_nonneg, lt_len, le_len, Int.toNat_natCast, true_and, and_true, eq_self, reduceCtorEq, decide_true, List.length_singleton, er_int, er_bool, er_str]
  refine ((spget_ok (b := []) (by simp)).wk (.cons (Wk.sl [] .nil) .nil)).mono ?_
  rintro v σ2 hv
  rw [getS0] at hv
  rcases hv with ⟨hlt, _⟩ | ⟨_, n, rfl, hn, hn1, hn2, hL⟩
  · exact absurd hlt (by decide)
  try simp only [↓reduceIte, namesOf, List.any, I.names, aops, aopsI, aopsT, qstep, CPt, qget, Tbl.get, astep, ev, setd, List.set, List.getD, List.getElem?_cons_zero, List.getElem?_cons_succ, List.getElem?_nil, List.cons_append, List.nil_append, List.length_cons, List.length_nil, List.replicate, then_normal, inBlock_normal, Option.getD_some, Option.getD_none, Bool.or_false, Bool.or_true, Bool.true_or, Bool.false_or, Bool.false_eq_true, if_false, if_true, up_zero, Nat.reduceAdd, Nat.reduceSub, binv, ↓opt_def, AV.isAny, AV.cells, ldc, List.map_cons, List.map_nil, St.set_next, St.set_same, St.up_next, Int.natCast_nonneg, lt_len, le_len, Int.toNat_natCast, true_and, and_true, eq_self, reduceCtorEq, decide_true, List.length_singleton, er_int, er_bool, er_str, up_zero]
  refine h1 _ _ ?_
  try clear h1 K_h1
  have hG2 : σ2.res gn = some (.glob 0 hvE) := hL.get (wf.lt hG) hG
  have hsb : sbinv .eql ⟨[0, 0].toArray⟩ ⟨#[0, 0]⟩ = some (.bool true) := by rfl
  have htb : toBytes (bytesAV [0, 0]) = some [0, 0] := toBytes_bytes _
  have e0 : ((0 : Int) == 0) = true := rfl
  refine T.seq_k (fun K_h1 h1 => ?_)
  refine T.regt hm (tbl := []) Tbl.ok_nil ?_
  refine aopsT_cut 10 (fun K_c h_c => ?_)
  try simp only [↓reduceIte, namesOf, List.any, I.names, aops, aopsI, aopsT, qstep, CPt, qget, Tbl.get, astep, ev, setd, List.set, List.getD, List.getElem?_cons_zero, List.getElem?_cons_succ, List.getElem?_nil, List.cons_append, List.nil_append, List.length_cons, List.length_nil, List.replicate, then_normal, inBlock_normal, Option.getD_some, Option.getD_none, Bool.or_false, Bool.or_true, Bool.true_or, Bool.false_or, Bool.false_eq_true, if_false, if_true, up_zero, Nat.reduceAdd, Nat.reduceSub, binv, ↓opt_def, AV.isAny, AV.cells, ldc, List.map_cons, List.map_nil, St.set_next, St.set_same, St.up_next, Int.natCast_nonneg, lt_len, le_len, Int.toNat_natCast, true_and, and_true, eq_self, reduceCtorEq, decide_true, List.length_singleton, er_int, er_bool, er_str, List.take_succ_cons, List.take_zero, eqIv, bne_self_eq_false, htb, hsb]
  refine (isSpot_ok hG2 hn).mono ?_
  rintro v σ3 ⟨rfl, rfl⟩
  rw [e0]
  refine h_c _ _ ?_
  clear h_c K_c
  simp only [List.drop_succ_cons, List.drop_zero, Nat.zero_add, Nat.reduceAdd]
  refine aopsT_cut 4 (fun K_c h_c => ?_)
  try simp only [↓reduceIte, namesOf, List.any, I.names, aops, aopsI, aopsT, qstep, CPt, qget, Tbl.get, astep, ev, setd, List.set, List.getD, List.getElem?_cons_zero, List.getElem?_cons_succ, List.getElem?_nil, List.cons_append, List.nil_append, List.length_cons, List.length_nil, List.replicate, then_normal, inBlock_normal, Option.getD_some, Option.getD_none, Bool.or_false, Bool.or_true, Bool.true_or, Bool.false_or, Bool.false_eq_true, if_false, if_true, up_zero, Nat.reduceAdd, Nat.reduceSub, binv, ↓opt_def, AV.isAny, AV.cells, ldc, List.map_cons, List.map_nil, St.set_next, St.set_same, St.up_next, Int.natCast_nonneg, lt_len, le_len, Int.toNat_natCast, true_and, and_true, eq_self, reduceCtorEq, decide_true, List.length_singleton, er_int, er_bool, er_str, List.take_succ_cons, List.take_zero, fillA, Option.map, AV.fits, AV.one, List.all_cons, List.all_nil, Nat.reduceBEq, Bool.and_true, Bool.not_false, Bool.and_self, Nat.zero_add, splice, List.take, List.drop, Nat.reduceLeDiff]
  refine (may_ok (s := 0) (e := 0) (xs := [])).mono ?_
  rintro v σ4 ⟨rfl, rfl⟩
  have em1 : mayI 0 0 (([] : List AV).length : Nat) = true := rfl
  rw [em1]
  refine h_c _ _ ?_
  clear h_c K_c
  simp only [List.drop_succ_cons, List.drop_zero, Nat.zero_add, Nat.reduceAdd]
  refine aopsT_cut 4 (fun K_c h_c => ?_)
  try simp only [↓reduceIte, namesOf, List.any, I.names, aops, aopsI, aopsT, qstep, CPt, qget, Tbl.get, astep, ev, setd, List.set, List.getD, List.getElem?_cons_zero, List.getElem?_cons_succ, List.getElem?_nil, List.cons_append, List.nil_append, List.length_cons, List.length_nil, List.replicate, then_normal, inBlock_normal, Option.getD_some, Option.getD_none, Bool.or_false, Bool.or_true, Bool.true_or, Bool.false_or, Bool.false_eq_true, if_false, if_true, up_zero, Nat.reduceAdd, Nat.reduceSub, binv, ↓opt_def, AV.isAny, AV.cells, ldc, List.map_cons, List.map_nil, St.set_next, St.set_same, St.up_next, Int.natCast_nonneg, lt_len, le_len, Int.toNat_natCast, true_and, and_true, eq_self, reduceCtorEq, decide_true, List.length_singleton, er_int, er_bool, er_str, List.take_succ_cons, List.take_zero, fillA, Option.map, AV.fits, AV.one, List.all_cons, List.all_nil, Nat.reduceBEq, Bool.and_true, Bool.not_false, Bool.and_self, Nat.zero_add, splice, List.take, List.drop, Nat.reduceLeDiff]
  refine (may_ok (s := 2) (e := 1) (xs := [])).mono ?_
  rintro v σ5 ⟨rfl, rfl⟩
  have em2 : mayI 2 1 (([] : List AV).length : Nat) = false := rfl
  rw [em2]
  refine h_c _ _ ?_
  clear h_c K_c
  simp only [List.drop_succ_cons, List.drop_zero, Nat.zero_add, Nat.reduceAdd]
  try simp only [↓reduceIte, namesOf, List.any, I.names, aops, aopsI, aopsT, qstep, CPt, qget, Tbl.get, astep, ev, setd, List.set, List.getD, List.getElem?_cons_zero, List.getElem?_cons_succ, List.getElem?_nil, List.cons_append, List.nil_append, List.length_cons, List.length_nil, List.replicate, then_normal, inBlock_normal, Option.getD_some, Option.getD_none, Bool.or_false, Bool.or_true, Bool.true_or, Bool.false_or, Bool.false_eq_true, if_false, if_true, up_zero, Nat.reduceAdd, Nat.reduceSub, binv, ↓opt_def, AV.isAny, AV.cells, ldc, List.map_cons, List.map_nil, St.set_next, St.set_same, St.up_next, Int.natCast_nonneg, lt_len, le_len, Int.toNat_natCast, true_and, and_true, eq_self, reduceCtorEq, decide_true, List.length_singleton, er_int, er_bool, er_str, Bool.not_false]
  refine h1 _ _ ?_
  try clear h1 K_h1
  exact T.ret (Fin.quiet rfl trivial (hL.quiet wf) ⟨rfl, rfl⟩)

set_option maxRecDepth 10000 in
set_option maxHeartbeats 1000000 in
theorem spanGets_ok {gn : Nat} {b : List UInt8} {σ : St} (hG : σ.res gn = some (.glob 0 hvE)) :
    ACalls Tryd.prog n_spanGets [.sl (bytesAV b) .none] σ (fun v σ' => v = .bool true ∧ σ' = σ) := by
  refine s_spanGets (fun wf => ?_)
  unfold c_spanGets
  refine T.seq_k (fun K_h0 h0 => ?_)
  refine T.regi hm ?_
  simp only [↓reduceIte, namesOf, List.any, I.names, aops, aopsI, aopsT, qstep, CPt, qget, Tbl.get, astep, ev, setd, List.set, List.getD, List.getElem?_cons_zero, List.getElem?_cons_succ, List.getElem?_nil, List.cons_append, List.nil_append, List.length_cons, List.length_nil, List.replicate, then_normal, inBlock_normal, Option.getD_some, Option.getD_none, Bool.or_false, Bool.or_true, Bool.true_or, Bool.false_or, Bool.false_eq_true, if_false, if_true, up_zero, Nat.reduceAdd, Nat.reduceSub, binv, ↓opt_def, AV.isAny, AV.cells, ldc, List.map_cons, List.map_nil, St.set_next, St.set_same, St.up_next, Int.natCast_nonneg, lt_len, le_len, Int.toNat_natCast, true_and, and_true, eq_self, reduceCtorEq, decide_true, List.length_singleton, er_int, er_bool, er_str]
  refine h0 _ _ ?_
  try clear h0 K_h0
  refine T.seq_k (fun K_h1 h1 => ?_)
  refine T.regi hm ?_
  simp only [↓reduceIte, namesOf, List.any, I.names, aops, aopsI, aopsT, qstep, CPt, qget, Tbl.get, astep, ev, setd, List.set, List.getD, List.getElem?_cons_zero, List.getElem?_cons_succ, List.getElem?_nil, List.cons_append, List.nil_append, List.length_cons, List.length_nil, List.replicate, then_normal, inBlock_normal, Option.getD_some, Option.getD_none, Bool.or_false, Bool.or_true, Bool.true_or, Bool.false_or, Bool.false_eq_true, if_false, if_true, up_zero, Nat.reduceAdd, Nat.reduceSub, binv, ↓opt_def, AV.isAny, AV.cells, ldc, List.map_cons, List.map_nil, St.set_next, St.set_same, St.up_next, Int.natCast_nonneg, lt_len, le_len, Int.toNat_natCast, true_and, and_true, eq_self, reduceCtorEq, decide_true, List.length_singleton, er_int, er_bool, er_str]
  refine (up03_ok hG).mono ?_
  rintro v σ1 ⟨rfl, rfl⟩
  try simp only [↓reduceIte, namesOf, List.any, I.names, aops, aopsI, aopsT, qstep, CPt, qget, Tbl.get, astep, ev, setd, List.set, List.getD, List.getElem?_cons_zero, List.getElem?_cons_succ, List.getElem?_nil, List.cons_append, List.nil_append, List.length_cons, List.length_nil, List.replicate, then_normal, inBlock_normal, Option.getD_some, Option.getD_none, Bool.or_false, Bool.or_true, Bool.true_or, Bool.false_or, Bool.false_eq_true, if_false, if_true, up_zero, Nat.reduceAdd, Nat.reduceSub, binv, ↓opt_def, AV.isAny, AV.cells, ldc, List.map_cons, List.map_nil, St.set_next, St.set_same, St.up_next, Int.natCast_nonneg, lt_len, le_len, Int.toNat_natCast, true_and, and_true, eq_self, reduceCtorEq, decide_true, List.length_singleton, er_int, er_bool, er_str, up_zero]
  refine h1 _ _ ?_
  try clear h1 K_h1
  refine T.seq_k (fun K_h1 h1 => ?_)
  by_cases hx : b.length ≤ 20000
  case neg =>
    have e1 : decide ((b.length : Int) > 20000) = true := decide_eq_true (by omega)
    refine T.seq_k (fun K_h0 h0 => ?_)
    refine T.regi hm ?_
    simp only [↓reduceIte, namesOf, List.any, I.names, aops, aopsI, aopsT, qstep, CPt, qget, Tbl.get, astep, ev, setd, List.set, List.getD, List.getElem?_cons_zero, List.getElem?_cons_succ, List.getElem?_nil, List.cons_append, List.nil_append, List.length_cons, List.length_nil, List.replicate, then_normal, inBlock_normal, Option.getD_some, Option.getD_none, Bool.or_false, Bool.or_true, Bool.true_or, Bool.false_or, Bool.false_eq_true, if_false, if_true, up_zero, Nat.reduceAdd, Nat.reduceSub, binv, ↓opt_def, AV.isAny, AV.cells, ldc, List.map_cons, List.map_nil, St.set_next, St.set_same, St.up_next, Int.natCast_nonneg, lt_len, le_len, Int.toNat_natCast, true_and, and_true, eq_self, reduceCtorEq, decide_true, List.length_singleton, er_int, er_bool, er_str, bytesAV_len, e1]
    refine h0 _ _ ?_
    try clear h0 K_h0
    refine T.cond rfl (fun _ => ?_) (fun h => by cases h)
    refine T.seq_k (fun K_h0 h0 => ?_)
    refine T.regi hm ?_
    simp only [↓reduceIte, namesOf, List.any, I.names, aops, aopsI, aopsT, qstep, CPt, qget, Tbl.get, astep, ev, setd, List.set, List.getD, List.getElem?_cons_zero, List.getElem?_cons_succ, List.getElem?_nil, List.cons_append, List.nil_append, List.length_cons, List.length_nil, List.replicate, then_normal, inBlock_normal, Option.getD_some, Option.getD_none, Bool.or_false, Bool.or_true, Bool.true_or, Bool.false_or, Bool.false_eq_true, if_false, if_true, up_zero, Nat.reduceAdd, Nat.reduceSub, binv, ↓opt_def, AV.isAny, AV.cells, ldc, List.map_cons, List.map_nil, St.set_next, St.set_same, St.up_next, Int.natCast_nonneg, lt_len, le_len, Int.toNat_natCast, true_and, and_true, eq_self, reduceCtorEq, decide_true, List.length_singleton, er_int, er_bool, er_str]
    refine h0 _ _ ?_
    try clear h0 K_h0
    exact T.ret (Fin.ret rfl ⟨rfl, rfl⟩)
  have e1 : decide ((b.length : Int) > 20000) = false := decide_eq_false (by omega)
  refine T.seq_k (fun K_h0 h0 => ?_)
  refine T.regi hm ?_
  simp only [↓reduceIte, namesOf, List.any, I.names, aops, aopsI, aopsT, qstep, CPt, qget, Tbl.get, astep, ev, setd, List.set, List.getD, List.getElem?_cons_zero, List.getElem?_cons_succ, List.getElem?_nil, List.cons_append, List.nil_append, List.length_cons, List.length_nil, List.replicate, then_normal, inBlock_normal, Option.getD_some, Option.getD_none, Bool.or_false, Bool.or_true, Bool.true_or, Bool.false_or, Bool.false_eq_true, if_false, if_true, up_zero, Nat.reduceAdd, Nat.reduceSub, binv, ↓opt_def, AV.isAny, AV.cells, ldc, List.map_cons, List.map_nil, St.set_next, St.set_same, St.up_next, Int.natCast_nonneg, lt_len, le_len, Int.toNat_natCast, true_and, and_true, eq_self, reduceCtorEq, decide_true, List.length_singleton, er_int, er_bool, er_str, bytesAV_len, e1]
  refine h0 _ _ ?_
  try clear h0 K_h0
  refine T.cond rfl (fun h => by cases h) (fun _ => T.skip ?_)
  refine h1 _ _ ?_
  try clear h1 K_h1
  refine T.seq_k (fun K_h1 h1 => ?_)
  refine T.regi hm ?_
  simp only [↓reduceIte, namesOf, List.any, I.names, aops, aopsI, aopsT, qstep, CPt, qget, Tbl.get, astep, ev, setd, List.set, List.getD, List.getElem?_cons_zero, List.getElem?_cons_succ, List.getElem?_nil, List.cons_append, List.nil_append, List.length_cons, List.length_nil, List.replicate, then_normal, inBlock_normal, Option.getD_some, Option.getD_none, Bool.or_false, Bool.or_true, Bool.true_or, Bool.false_or, Bool.false_eq_true, if_false, if_true, up_zero, Nat.reduceAdd, Nat.reduceSub, binv, ↓opt_def, AV.isAny, AV.cells, ldc, List.map_cons, List.map_nil, St.set_next, St.set_same, St.up_next, Int.natCast_nonneg, lt_len, le_len, Int.toNat_natCast, true_and, and_true, eq_self, reduceCtorEq, decide_true, List.length_singleton, er_int, er_bool, er_str]
  refine (spget_ok (by omega)).mono ?_
  rintro v σ2 hv
  have hv2 : ∃ x e, v = .tup [x, e] ∧ Like σ1 σ2 ∧ (((getS b).1 < 0 ∧ x = .sl (spsAV (getS b).2) .none ∧ e = .nili) ∨ (0 ≤ (getS b).1 ∧ x = .sl [] .none ∧ ∃ n, e = .iface tSpot (.ptr n 0) ∧ σ2.res n = some (.obj [.int .i64 (getS b).1, .int .i64 2]) ∧ n < σ2.next)) := by
    rcases hv with ⟨g1, rfl, rfl⟩ | ⟨g1, n, rfl, h1, h2, h3, h4⟩
    · exact ⟨_, _, rfl, .refl _, .inl ⟨g1, rfl, rfl⟩⟩
    · exact ⟨_, _, rfl, h4, .inr ⟨g1, rfl, n, rfl, h1, h3⟩⟩
  clear hv
  obtain ⟨x, e, rfl, hL, hv2⟩ := hv2
  have hG2 : σ2.res gn = some (.glob 0 hvE) := hL.get (wf.lt hG) hG
  try simp only [↓reduceIte, namesOf, List.any, I.names, aops, aopsI, aopsT, qstep, CPt, qget, Tbl.get, astep, ev, setd, List.set, List.getD, List.getElem?_cons_zero, List.getElem?_cons_succ, List.getElem?_nil, List.cons_append, List.nil_append, List.length_cons, List.length_nil, List.replicate, then_normal, inBlock_normal, Option.getD_some, Option.getD_none, Bool.or_false, Bool.or_true, Bool.true_or, Bool.false_or, Bool.false_eq_true, if_false, if_true, up_zero, Nat.reduceAdd, Nat.reduceSub, binv, ↓opt_def, AV.isAny, AV.cells, ldc, List.map_cons, List.map_nil, St.set_next, St.set_same, St.up_next, Int.natCast_nonneg, lt_len, le_len, Int.toNat_natCast, true_and, and_true, eq_self, reduceCtorEq, decide_true, List.length_singleton, er_int, er_bool, er_str, up_zero]
  refine h1 _ _ ?_
  try clear h1 K_h1
  refine T.seq_k (fun K_h1 h1 => ?_)
  refine T.regi hm ?_
  simp only [↓reduceIte, namesOf, List.any, I.names, aops, aopsI, aopsT, qstep, CPt, qget, Tbl.get, astep, ev, setd, List.set, List.getD, List.getElem?_cons_zero, List.getElem?_cons_succ, List.getElem?_nil, List.cons_append, List.nil_append, List.length_cons, List.length_nil, List.replicate, then_normal, inBlock_normal, Option.getD_some, Option.getD_none, Bool.or_false, Bool.or_true, Bool.true_or, Bool.false_or, Bool.false_eq_true, if_false, if_true, up_zero, Nat.reduceAdd, Nat.reduceSub, binv, ↓opt_def, AV.isAny, AV.cells, ldc, List.map_cons, List.map_nil, St.set_next, St.set_same, St.up_next, Int.natCast_nonneg, lt_len, le_len, Int.toNat_natCast, true_and, and_true, eq_self, reduceCtorEq, decide_true, List.length_singleton, er_int, er_bool, er_str]
  refine (rread_ok (by omega)).mono ?_
  rintro v σ3 ⟨rfl, rfl⟩
  try simp only [↓reduceIte, namesOf, List.any, I.names, aops, aopsI, aopsT, qstep, CPt, qget, Tbl.get, astep, ev, setd, List.set, List.getD, List.getElem?_cons_zero, List.getElem?_cons_succ, List.getElem?_nil, List.cons_append, List.nil_append, List.length_cons, List.length_nil, List.replicate, then_normal, inBlock_normal, Option.getD_some, Option.getD_none, Bool.or_false, Bool.or_true, Bool.true_or, Bool.false_or, Bool.false_eq_true, if_false, if_true, up_zero, Nat.reduceAdd, Nat.reduceSub, binv, ↓opt_def, AV.isAny, AV.cells, ldc, List.map_cons, List.map_nil, St.set_next, St.set_same, St.up_next, Int.natCast_nonneg, lt_len, le_len, Int.toNat_natCast, true_and, and_true, eq_self, reduceCtorEq, decide_true, List.length_singleton, er_int, er_bool, er_str, up_zero]
  refine h1 _ _ ?_
  try clear h1 K_h1
  refine T.seq_k (fun K_h1 h1 => ?_)
  rcases hv2 with ⟨g1, rfl, rfl⟩ | ⟨g1, rfl, n, rfl, hn, hnl⟩
  · have e2 : decide ((getS b).1 ≥ 0) = false := decide_eq_false (by omega)
    have hgl : (getS b).2.length ≤ 9223372036854775807 := Nat.le_trans (getS_len (by omega)) (by omega)
    have e3 : decide ((getS b).2 = (getS b).2) = true := decide_eq_true rfl
    refine T.seq_k (fun K_h0 h0 => ?_)
    refine T.regi hm ?_
    simp only [↓reduceIte, namesOf, List.any, I.names, aops, aopsI, aopsT, qstep, CPt, qget, Tbl.get, astep, ev, setd, List.set, List.getD, List.getElem?_cons_zero, List.getElem?_cons_succ, List.getElem?_nil, List.cons_append, List.nil_append, List.length_cons, List.length_nil, List.replicate, then_normal, inBlock_normal, Option.getD_some, Option.getD_none, Bool.or_false, Bool.or_true, Bool.true_or, Bool.false_or, Bool.false_eq_true, if_false, if_true, up_zero, Nat.reduceAdd, Nat.reduceSub, binv, ↓opt_def, AV.isAny, AV.cells, ldc, List.map_cons, List.map_nil, St.set_next, St.set_same, St.up_next, Int.natCast_nonneg, lt_len, le_len, Int.toNat_natCast, true_and, and_true, eq_self, reduceCtorEq, decide_true, List.length_singleton, er_int, er_bool, er_str, e2]
    refine h0 _ _ ?_
    try clear h0 K_h0
    refine T.cond rfl (fun h => by cases h) (fun _ => T.skip ?_)
    refine h1 _ _ ?_
    try clear h1 K_h1
    refine T.seq_k (fun K_h1 h1 => ?_)
    refine T.regi hm ?_
    simp only [↓reduceIte, namesOf, List.any, I.names, aops, aopsI, aopsT, qstep, CPt, qget, Tbl.get, astep, ev, setd, List.set, List.getD, List.getElem?_cons_zero, List.getElem?_cons_succ, List.getElem?_nil, List.cons_append, List.nil_append, List.length_cons, List.length_nil, List.replicate, then_normal, inBlock_normal, Option.getD_some, Option.getD_none, Bool.or_false, Bool.or_true, Bool.true_or, Bool.false_or, Bool.false_eq_true, if_false, if_true, up_zero, Nat.reduceAdd, Nat.reduceSub, binv, ↓opt_def, AV.isAny, AV.cells, ldc, List.map_cons, List.map_nil, St.set_next, St.set_same, St.up_next, Int.natCast_nonneg, lt_len, le_len, Int.toNat_natCast, true_and, and_true, eq_self, reduceCtorEq, decide_true, List.length_singleton, er_int, er_bool, er_str, eqIv, bne_self_eq_false]
    refine (rspans_ok hgl).mono ?_
    rintro v σ4 ⟨rfl, rfl⟩
    try simp only [↓reduceIte, namesOf, List.any, I.names, aops, aopsI, aopsT, qstep, CPt, qget, Tbl.get, astep, ev, setd, List.set, List.getD, List.getElem?_cons_zero, List.getElem?_cons_succ, List.getElem?_nil, List.cons_append, List.nil_append, List.length_cons, List.length_nil, List.replicate, then_normal, inBlock_normal, Option.getD_some, Option.getD_none, Bool.or_false, Bool.or_true, Bool.true_or, Bool.false_or, Bool.false_eq_true, if_false, if_true, up_zero, Nat.reduceAdd, Nat.reduceSub, binv, ↓opt_def, AV.isAny, AV.cells, ldc, List.map_cons, List.map_nil, St.set_next, St.set_same, St.up_next, Int.natCast_nonneg, lt_len, le_len, Int.toNat_natCast, true_and, and_true, eq_self, reduceCtorEq, decide_true, List.length_singleton, er_int, er_bool, er_str, up_zero, e3]
    refine h1 _ _ ?_
    try clear h1 K_h1
    exact T.ret (Fin.quiet rfl trivial (hL.quiet wf) ⟨rfl, rfl⟩)
  · have e2 : decide ((getS b).1 ≥ 0) = true := decide_eq_true g1
    have e5 : (((0 : Nat) : Int) == 0) = true := rfl
    refine T.seq_k (fun K_h0 h0 => ?_)
    refine T.regi hm ?_
    simp only [↓reduceIte, namesOf, List.any, I.names, aops, aopsI, aopsT, qstep, CPt, qget, Tbl.get, astep, ev, setd, List.set, List.getD, List.getElem?_cons_zero, List.getElem?_cons_succ, List.getElem?_nil, List.cons_append, List.nil_append, List.length_cons, List.length_nil, List.replicate, then_normal, inBlock_normal, Option.getD_some, Option.getD_none, Bool.or_false, Bool.or_true, Bool.true_or, Bool.false_or, Bool.false_eq_true, if_false, if_true, up_zero, Nat.reduceAdd, Nat.reduceSub, binv, ↓opt_def, AV.isAny, AV.cells, ldc, List.map_cons, List.map_nil, St.set_next, St.set_same, St.up_next, Int.natCast_nonneg, lt_len, le_len, Int.toNat_natCast, true_and, and_true, eq_self, reduceCtorEq, decide_true, List.length_singleton, er_int, er_bool, er_str, e2]
    refine h0 _ _ ?_
    try clear h0 K_h0
    refine T.cond rfl (fun _ => ?_) (fun h => by cases h)
    refine T.seq_k (fun K_h2 h2 => ?_)
    refine T.regi hm ?_
    simp only [↓reduceIte, namesOf, List.any, I.names, aops, aopsI, aopsT, qstep, CPt, qget, Tbl.get, astep, ev, setd, List.set, List.getD, List.getElem?_cons_zero, List.getElem?_cons_succ, List.getElem?_nil, List.cons_append, List.nil_append, List.length_cons, List.length_nil, List.replicate, then_normal, inBlock_normal, Option.getD_some, Option.getD_none, Bool.or_false, Bool.or_true, Bool.true_or, Bool.false_or, Bool.false_eq_true, if_false, if_true, up_zero, Nat.reduceAdd, Nat.reduceSub, binv, ↓opt_def, AV.isAny, AV.cells, ldc, List.map_cons, List.map_nil, St.set_next, St.set_same, St.up_next, Int.natCast_nonneg, lt_len, le_len, Int.toNat_natCast, true_and, and_true, eq_self, reduceCtorEq, decide_true, List.length_singleton, er_int, er_bool, er_str]
    refine (isSpot_ok hG2 hn).mono ?_
    rintro v σ4 ⟨rfl, rfl⟩
    rw [beq_self_eq_true]
    try simp only [↓reduceIte, namesOf, List.any, I.names, aops, aopsI, aopsT, qstep, CPt, qget, Tbl.get, astep, ev, setd, List.set, List.getD, List.getElem?_cons_zero, List.getElem?_cons_succ, List.getElem?_nil, List.cons_append, List.nil_append, List.length_cons, List.length_nil, List.replicate, then_normal, inBlock_normal, Option.getD_some, Option.getD_none, Bool.or_false, Bool.or_true, Bool.true_or, Bool.false_or, Bool.false_eq_true, if_false, if_true, up_zero, Nat.reduceAdd, Nat.reduceSub, binv, ↓opt_def, AV.isAny, AV.cells, ldc, List.map_cons, List.map_nil, St.set_next, St.set_same, St.up_next, Int.natCast_nonneg, lt_len, le_len, Int.toNat_natCast, true_and, and_true, eq_self, reduceCtorEq, decide_true, List.length_singleton, er_int, er_bool, er_str, up_zero, e5]
    refine h2 _ _ ?_
    try clear h2 K_h2
    exact T.ret (Fin.quiet rfl trivial (hL.quiet wf) ⟨rfl, rfl⟩)

end Go.VL

namespace Go.VL

open Go.Proofs

theorem bytes_of {P : Program} {n : Nat} {e : TypeId} (hu : P.underlying e = some (.int .u8)) : ∀ {ys : List AV}, (∀ y ∈ ys, HasE P (n + 1) e y) → ∃ l : List UInt8, ys = bytesAV l
  | [], _ => ⟨[], rfl⟩
  | y :: r, h => by
    obtain ⟨m, rfl, h1, h2⟩ := has_int hu (h y (by simp))
    obtain ⟨l, rfl⟩ := bytes_of hu (fun z hz => h z (List.mem_cons_of_mem _ hz))
    have h1' : 0 ≤ m := h1
    have h2' : m ≤ 255 := h2
    refine ⟨UInt8.ofNat m.toNat :: l, ?_⟩
    have : ((UInt8.ofNat m.toNat).toNat : Int) = m := by
      rw [UInt8.toNat_ofNat']; omega
    simp only [bytesAV, List.map_cons, this]

def fts (P : Program) (t : TypeId) : Option (List TypeId) := match P.underlying t with
  | some (.struct fs) => some (fs.toList.map (·.type))
  | _ => none

end Go.VL

namespace Go.Proofs.YthnjjiflfjegnaaDoor

open Go.RowKit Go.VL

theorem own : ownKnob Tryd.prog.godebug = none := by kernel_rfl

theorem laidOut : laidOutB Tryd.prog = true := by kernel_rfl

end Go.Proofs.YthnjjiflfjegnaaDoor

namespace Go.VL

open Go.Proofs

/-- a span whose numbers fit -/
def Sp.ok (s : Sp) : Prop := s.tr < 18446744073709551616 ∧ s.id < 18446744073709551616 ∧ (-9223372036854775808 ≤ s.st ∧ s.st ≤ 9223372036854775807) ∧ (-9223372036854775808 ≤ s.en ∧ s.en ≤ 9223372036854775807) ∧ s.da.length ≤ 9223372036854775807

def Tc.ok (t : Tc) : Prop := t.id < 18446744073709551616 ∧ t.sp.length ≤ 9223372036854775807 ∧ ∀ s ∈ t.sp, s.ok

/-- the numbers of the types of spans -/
structure Types1 (P : Program) where
  u64 : TypeId
  i64 : TypeId
  bs : TypeId
  u8 : TypeId
  span : TypeId
  spans : TypeId
  h1 : P.underlying u64 = some (.int .u64)
  h2 : P.underlying i64 = some (.int .i64)
  h3 : P.underlying bs = some (.slice u8)
  h4 : P.underlying u8 = some (.int .u8)
  h5 : fts P span = some [u64, u64, i64, i64, bs]
  h6 : P.underlying spans = some (.slice span)

end Go.VL

namespace Go.Proofs.YthnjjiflfjegnaaDoor

open Go.ChangeShapes Go.WideShapes Go.ChangeAt Go.RowKit Go.VL

def laidE : List (String × DataW Unit) := [("errors.errorType", Rows.laid_errors_errorType)]

theorem et_at : Tryd.prog.globalNamed "errors.errorType" = some 0 := by kernel_rfl

theorem rt_at : (Tryd.prog.cutTypes.find? (·.1 == "internal/reflectlite.rtype")).map (·.2) = some 95 := by kernel_rfl

theorem one_row : ((List.range 139).filter fun t => Tryd.prog.rowNamed t [101, 114, 114, 111, 114]) = [27] := by kernel_rfl

theorem types_size : Tryd.prog.types.size = 139 := by kernel_rfl

/-- WHAT THE CONDITION GIVES: the variable's one cell. -/
theorem handle_of_laid {W : World} (h : laidMetH Tryd.prog laidE W) : W.cell? ⟨0, 0, none⟩ = some hvE := by
  have h' : laidMet Tryd.prog [] W ∧ handlesMet Tryd.prog laidE W := h
  obtain ⟨name, u, ty, e1, e2, e3, e4, e5⟩ := h'.2 _ (List.mem_singleton.2 rfl)
  have en : name = [101, 114, 114, 111, 114] := (Option.some.inj e1).symm
  subst en
  obtain rfl := Option.some.inj (rt_at.symm.trans e2)
  have hm : ty ∈ (List.range 139).filter fun t => Tryd.prog.rowNamed t [101, 114, 114, 111, 114] := List.mem_filter.2 ⟨List.mem_range.2 (by rw [← types_size]; exact e3), e4⟩
  rw [one_row] at hm
  obtain rfl := List.mem_singleton.1 hm
  have hh : typeHandle Tryd.prog 27 = .pointer (some ⟨1, 27, none⟩) := by kernel_rfl
  rw [hh] at e5
  simpa [hvE] using World.var?_cell et_at e5 0

/-- A world that meets the condition: the settled one, the variable's cell laid. -/
noncomputable def laidWorld (os : Os) : World :=
  let w0 := World.holding Tryd.prog os ⟨#[], #[], []⟩
  { w0 with heap := w0.heap.modify 0 fun
      | .cells _ t frozen => .cells #[hvE] t frozen
      | o => o }

theorem laidWorld_met (os : Os) (args : Array Value) : laidMetH Tryd.prog laidE ((laidWorld os).forCall (fun _ _ => 0) ⟨#[], args, []⟩).memory :=
  laidMetH_of_parts (laidMet_nil _ _) (by kernel_rfl)

end Go.Proofs.YthnjjiflfjegnaaDoor

namespace Go.VL

open Go.Proofs

set_option maxRecDepth 100000 in
def tys1 : Types1 Tryd.prog := ⟨31, 2, 25, 5, 33, 22, by kernel_rfl, by kernel_rfl, by kernel_rfl, by kernel_rfl, by kernel_rfl, by kernel_rfl⟩

end Go.VL

namespace Go.Proofs.YthnjjiflfjegnaaDoor

open Go.ChangeShapes Go.WideShapes Go.ChangeAt Go.RowKit Go.VL

set_option maxRecDepth 100000 in
theorem spanGets_lifted (os : Os) (started : os.Started) (H : Type) (enc : TypeId × Value → H) :
    ReturnsInHanded {} Tryd.checked os n_spanGets .any (fun w args => (Rows.spanGetsSpec.pre enc Tryd.prog Tryd.f4 [] false w args ∧ laidMetH Tryd.prog laidE w) ∧ sizedMet enc Tryd.prog Tryd.f4 (OpenSpec.ofChange Rows.spanGetsSpec) false w args)
      (Rows.spanGetsSpec.post enc Tryd.prog Tryd.f4 false true false false) := by
  refine returnsInHanded_of_change_and (C := Tryd.checked) (X := fun w _ => laidMetH Tryd.prog laidE w) (fun _ _ _ hh h => h.of_heap hh) own started (by kernel_rfl) Tryd.func4
    (ChangeSpec.witness_at (enc := enc) (C := Tryd.checked) (os := os) (X := fun w _ => laidMetH Tryd.prog laidE w) false (laidWorld os) #[.slice none 0 0] 8 rfl (by kernel_rfl) (by kernel_rfl) (by kernel_rfl) (by kernel_rfl) (by kernel_rfl) (laidWorld_met os _)) ?_
  intro W base args ds gs before hval0 hW _ _ hL _
  refine law_calls_glob 4 (hv := hvE) (tb := 4) laidOut (by kernel_rfl) rfl (by kernel_rfl) (by kernel_rfl) (fun ds hds => ?_) (fun xs hxs => ?_) hval0 hW (handle_of_laid hL)
  · match ds, hds with
    | [_d1], _ => rfl
  · have hxs' : HasAll Tryd.prog 4 [_] xs := hxs
    have hG := σG_at hvE
    cases hxs' with
    | cons h1 r1 =>
    cases r1
    obtain ⟨ys, rfl, _, h1⟩ := has_slice tys1.h3 h1
    obtain ⟨b, rfl⟩ := bytes_of tys1.h4 h1
    exact (spanGets_ok hG).mono fun v _ ⟨e, _⟩ => e

theorem spanGets_holds : Rows.SpanGetsSaid :=
  OpenClaim.holds_of_wide n_spanGets Tryd.f4 rfl rfl rfl rfl rfl rfl rfl ⟨rfl, rfl, rfl, rfl, rfl⟩ rfl rfl rfl rfl rfl (by kernel_rfl) Tryd.func4 (by kernel_rfl)
    (of_decide_eq_true (by kernel_rfl)) (by unfold Func.isWrapper; first | (rw [if_pos (by decide +kernel)]; kernel_rfl) | (rw [if_neg (by decide +kernel)]; exact ⟨rfl, rfl⟩))
    (fun os started H enc _ => spanGets_lifted os started H enc)

theorem spanGets_card : Rows.SpanGetsCardSaid :=
  Claim7.holds_tied_plain_at .later [] [.handle] true Rows.spanGetsCard.stood.harness true
    spanGets_holds (fun _ h => by cases h) (by kernel_rfl) (fun _ h => by cases h) spanGets_row_tie rfl ⟨rfl, rfl⟩ (by kernel_rfl) rfl
    (fun f fn hf hfn => by
      obtain rfl : f = 4 := Option.some.inj ((show Tryd.prog.funcNamed Rows.spanGetsRow.func = some 4 by kernel_rfl).symm.trans hf) |>.symm
      obtain rfl : fn = Tryd.f4 := (Option.some.inj (Tryd.func4.symm.trans hfn)).symm
      refine ⟨by kernel_rfl, fun j t ht => ?_⟩
      have hm : t ∈ Tryd.f4.params.toList := by simpa using Array.mem_of_getElem? ht
      have hall : (Tryd.f4.params.toList.all fun u => !Tryd.prog.wantsStandIn u) = true := by kernel_rfl
      exact (show Tryd.prog.wantsStandIn t = false by simpa using List.all_eq_true.1 hall t hm))
    (by kernel_rfl)

end Go.Proofs.YthnjjiflfjegnaaDoor
