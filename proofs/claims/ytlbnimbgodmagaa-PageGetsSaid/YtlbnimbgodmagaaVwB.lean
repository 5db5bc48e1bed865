/- Contracts: spans out of bytes. -/
import Derived.Test.YtlbnimbgodmagaaVwA
import Derived.Test.YtlbnimbgodmagaaVsD
namespace Go.VL
open Go.Proofs

/-- a reader (an owned thing nm), a row that grows, and names that nobody knows -/
structure Rk (σ t : St) (nm : Nat) (r : Res) (k : Nat) (v : Ver) : Prop where
  like : Like σ t
  lo : σ.next ≤ nm
  hi : nm < t.next
  at_ : t.res nm = some r
  ver : v = .nil ∨ ∃ g, v = .tip g ∧ g ≠ nm ∧ σ.next ≤ g ∧ g < t.next ∧ t.res g = some (.tip k)
theorem Rk.set {σ t : St} {nm k : Nat} {r : Res} {v : Ver} (h : Rk σ t nm r k v) (r' : Res) : Rk σ (t.set nm r') nm r' k v :=
  ⟨h.like.set _ h.lo, h.lo, h.hi, by simp, h.ver.imp id fun ⟨g, a1, a2, a3, a4, a5⟩ => ⟨g, a1, a2, a3, a4, by rw [St.set_other _ _ a2]; exact a5⟩⟩
theorem Rk.up {σ t : St} {nm k : Nat} {r : Res} {v : Ver} (h : Rk σ t nm r k v) (n : Nat) : Rk σ (t.up n) nm r k v :=
  ⟨h.like.up n, h.lo, Nat.lt_of_lt_of_le h.hi (Nat.le_add_right _ _), h.at_, h.ver.imp id fun ⟨g, a1, a2, a3, a4, a5⟩ => ⟨g, a1, a2, a3, Nat.lt_of_lt_of_le a4 (Nat.le_add_right _ _), a5⟩⟩
theorem Rk.new {σ t : St} {nm k : Nat} {r : Res} {v : Ver} (h : Rk σ t nm r k v) {a : Nat} (r' : Res) (ha : σ.next ≤ a) (hn : a ≠ nm) (hv : ∀ g, v = .tip g → a ≠ g) : Rk σ (t.set a r') nm r k v :=
  ⟨h.like.set _ ha, h.lo, h.hi, by rw [St.set_other _ _ (Ne.symm hn)]; exact h.at_, h.ver.imp id fun ⟨g, a1, a2, a3, a4, a5⟩ => ⟨g, a1, a2, a3, a4, by rw [St.set_other _ _ (Ne.symm (hv g a1))]; exact a5⟩⟩
theorem Rk.lt {σ t : St} {nm k : Nat} {r : Res} {v : Ver} (h : Rk σ t nm r k v) {g : Nat} (hv : v = .tip g) : g < t.next := by
  rcases h.ver with e | ⟨g', e, _, _, h4, _⟩
  · rw [hv] at e; cases e
  · rw [hv] at e; cases e; exact h4
theorem Rk.appNil {σ t : St} {nm k : Nat} {r : Res} (h : Rk σ t nm r k .nil) {g : Nat} (h0 : σ.next ≤ g) (h1 : g ≠ nm) (h2 : g < t.next) : Rk σ (t.set g (.tip k)) nm r k (.tip g) :=
  ⟨h.like.set _ h0, h.lo, h.hi, by rw [St.set_other _ _ (Ne.symm h1)]; exact h.at_, .inr ⟨g, rfl, h1, h0, h2, by simp⟩⟩
theorem Rk.appTip {σ t : St} {nm k g0 : Nat} {r : Res} (h : Rk σ t nm r k (.tip g0)) {g : Nat} (h0 : σ.next ≤ g) (h1 : g ≠ nm) (h2 : g < t.next) : Rk σ ((t.del g0).set g (.tip k)) nm r k (.tip g) := by
  obtain ⟨g', e, a1, a2, a3, a4⟩ := h.ver.resolve_left (by simp)
  cases e
  exact ⟨(h.like.del a2).set _ h0, h.lo, h.hi, by rw [St.set_other _ _ (Ne.symm h1)]; simp only [St.del, if_neg (Ne.symm a1)]; exact h.at_, .inr ⟨g, rfl, h1, h0, h2, by simp⟩⟩
theorem Rk.tipAt {σ t : St} {nm k g : Nat} {r : Res} (h : Rk σ t nm r k (.tip g)) : t.res g = some (.tip k) := by
  obtain ⟨g', e, _, _, _, a4⟩ := h.ver.resolve_left (by simp)
  cases e; exact a4

/-- one span -/
def oneS (b : List UInt8) (s : Rs) : Sp :=
  ⟨rW b s 8, rW b (rN b s 8) 8, IntKind.i64.wrap (rW b (rN b (rN b s 8) 8) 8 : Int), IntKind.i64.wrap (rW b (rN b (rN b (rN b s 8) 8) 8) 8 : Int), rX b (rN b (rN b (rN b (rN b s 8) 8) 8) 8)⟩
def oneN (b : List UInt8) (s : Rs) : Rs := rXN b (rN b (rN b (rN b (rN b s 8) 8) 8) 8)
/-- spans, one by one: where they aren't (-1: they are), and they, and the reader -/
def goS (b : List UInt8) : Nat → Rs → List Sp → Int × List Sp × Rs
  | 0, s, acc => if 0 ≤ s.bad then (s.bad, [], s) else (-1, acc, s)
  | n + 1, s, acc => if 0 ≤ s.bad then (s.bad, [], s) else
    if 0 ≤ (oneN b s).bad then ((oneN b s).bad, [], oneN b s) else if mayS (oneS b s) then goS b n (oneN b s) (acc ++ [oneS b s]) else (s.at_, [], oneN b s)
def getS (b : List UInt8) : Int × List Sp :=
  let r := goS b (rW b r0 2) (rN b r0 2) []
  if 0 ≤ r.1 then (r.1, []) else if r.2.2.at_ < b.length then (r.2.2.at_, []) else (-1, r.2.1)
theorem oneN_ok {b : List UInt8} {s : Rs} (h : s.ok b) : (oneN b s).ok b := rXN_ok (rN_ok (rN_ok (rN_ok (rN_ok h))))
theorem sps_snoc' (a : List Sp) (x : Sp) : spsAV a ++ [.agg [.int .u64 (x.tr : Int), .int .u64 (x.id : Int), .int .i64 x.st, .int .i64 x.en, .sl (bytesAV x.da) .none]] = spsAV (a ++ [x]) := by simp [spsAV, Sp.av]

set_option maxRecDepth 10000 in
set_option maxHeartbeats 4000000 in
theorem spget_ok {b : List UInt8} {σ : St} (hb : b.length ≤ 1000000) :
    ACalls Try.prog n_spget [.sl (bytesAV b) .none] σ (fun v σ' => ((getS b).1 < 0 ∧ v = .tup [.sl (spsAV (getS b).2) .none, .nili] ∧ σ' = σ) ∨
      (0 ≤ (getS b).1 ∧ ∃ n, v = .tup [.sl [] .none, .iface tSpot (.ptr n 0)] ∧ σ'.res n = some (.obj [.int .i64 (getS b).1, .int .i64 2]) ∧ σ.next ≤ n ∧ n < σ'.next ∧ Like σ σ')) := by
  refine s_spget (fun wf => ?_)
  unfold c_spget
  have hget : getS b = (let r := goS b (rW b r0 2) (rN b r0 2) []; if 0 ≤ r.1 then (r.1, []) else if r.2.2.at_ < b.length then (r.2.2.at_, []) else (-1, r.2.1)) := rfl
  generalize getS b = G at hget ⊢
  have k0 : Rs.ok b r0 := Rs.ok_r0 (by omega)
  have k1 := rN_ok (w := 2) k0
  have hN := rW_lt (w := 2) k0
  refine T.seq_k (fun K_h0 h0 => ?_)
  refine T.regi hm ?_
  simp only [↓reduceIte, namesOf, List.any, I.names, aopsI, astep, ev, setd, List.set, List.cons_append, List.nil_append, List.length_cons, List.length_nil, List.replicate, then_normal, Bool.or_false, Bool.false_eq_true, up_zero, Nat.reduceAdd, Nat.reduceSub]
  refine h0 _ _ ?_
  try clear h0 K_h0
  refine T.seq_k (fun K_h1 h1 => ?_)
  refine T.regi hm ?_
  simp only [↓reduceIte, namesOf, List.any, I.names, aopsI, astep, ev, setd, List.set, List.getD, List.getElem?_cons_zero, List.getElem?_cons_succ, then_normal, Option.getD_some, Bool.or_false, Bool.false_eq_true, up_zero, List.map_cons, List.map_nil]
  refine wreadF.mono ?_
  rintro v σ1 ⟨nm, rfl, hr1, hn1, hn2, ho1⟩
  have R0 : Rk σ σ1 nm (rdS b .none r0) 5 .nil := ⟨⟨by omega, ho1⟩, hn1, hn2, hr1, .inl rfl⟩
  clear hr1 hn1 hn2 ho1
  try simp only [↓reduceIte, namesOf, List.any, I.names, aops, aopsI, aopsT, qstep, CPt, qget, Tbl.get, astep, ev, setd, List.set, List.getD, List.getElem?_cons_zero, List.getElem?_cons_succ, List.getElem?_nil, List.cons_append, List.nil_append, List.length_cons, List.length_nil, List.replicate, then_normal, inBlock_normal, Option.getD_some, Option.getD_none, Bool.or_false, Bool.or_true, Bool.true_or, Bool.false_or, Bool.false_eq_true, if_false, if_true, up_zero, Nat.reduceAdd, Nat.reduceSub, binv, ↓opt_def, AV.isAny, AV.cells, ldc, List.map_cons, List.map_nil, St.set_next, St.set_same, St.up_next, Int.natCast_nonneg, lt_len, le_len, Int.toNat_natCast, true_and, and_true, eq_self, reduceCtorEq, decide_true, List.length_singleton, er_int, er_bool, er_str, up_zero]
  refine h1 _ _ ?_
  try clear h1 K_h1
  refine T.seq_k (fun K_h1 h1 => ?_)
  refine T.regi hm ?_
  simp only [↓reduceIte, namesOf, List.any, I.names, aopsI, astep, ev, setd, List.set, List.getD, List.getElem?_cons_zero, List.getElem?_cons_succ, then_normal, Option.getD_some, Bool.or_false, Bool.false_eq_true, up_zero, List.map_cons, List.map_nil]
  refine (wwordF k0 rfl R0.at_).mono ?_
  rintro v σ2 ⟨rfl, rfl⟩
  have R1 := R0.set (rdS b .none (rN b r0 2))
  generalize (σ1.set nm (rdS b .none (rN b r0 2))) = σ2 at R1 ⊢
  clear R0 σ1
  generalize rW b r0 2 = N at hN hget ⊢
  generalize rN b r0 2 = s0 at k1 R1 hget
  have eN : IntKind.i64.wrap (N : Int) = (N : Int) := wrap64 (by omega) (by omega)
  try simp only [eN]
  refine h1 _ _ ?_
  try clear h1 K_h1
  refine T.seq_k (fun K_h0 h0 => ?_)
  refine T.regi hm ?_
  simp only [↓reduceIte, namesOf, List.any, I.names, aopsI, astep, ev, setd, List.set, then_normal, Bool.or_false, Bool.false_eq_true, up_zero]
  refine h0 _ _ ?_
  try clear h0 K_h0
  refine T.seq_k (fun K_h1 h1 => ?_)
  refine T.seq_k (fun K_h0 h0 => ?_)
  refine T.regi hm ?_
  simp only [↓reduceIte, namesOf, List.any, I.names, aopsI, astep, ev, setd, List.set, then_normal, Bool.or_false, Bool.false_eq_true, up_zero]
  refine h0 _ _ ?_
  try clear h0 K_h0
  refine T.block ?_
  refine T.gh (Gh.keep [0, 4, 5, 6, 7]) ?_
  refine T.loopi (fun i ρ t => ∃ (s : Rs) (acc : List Sp) (vv : Ver), s.ok b ∧ Rk σ t nm (rdS b .none s) 5 vv ∧ acc.length = i ∧ (vv = .nil → acc = []) ∧ goS b N s0 [] = (if 0 ≤ s.bad then (s.bad, [], s) else goS b (N - i) s acc) ∧
      ρ = [.sl (bytesAV b) .none, .any, .any, .any, .ptr nm 0, .int .i64 (N : Int), .sl (spsAV acc) vv, .int .i64 (i : Int)] ++ List.replicate 76 .any)
    N 0 (Nat.zero_le _) ⟨s0, [], .nil, k1, R1, rfl, fun _ => rfl, ?_, rfl⟩ ?_
  · split
    · rename_i hx
      cases N <;> (unfold goS; rw [if_pos hx])
    · rfl
  clear k1 R1 σ2 k0
  rintro i ρ t hi ⟨s, acc, vv, ks, R1, hacc, hvn, hgo, rfl⟩
  -- the end
  have fin : (N - i = 0 ∨ 0 ≤ s.bad) → ∀ ρ', keep [0, 4, 6] 0 ρ' = [.sl (bytesAV b) .none, .any, .any, .any, .ptr nm 0, .any, .sl (spsAV acc) vv] ++ List.replicate 77 .any → K_h1 ρ' t := by
    intro hx ρ' hρ
    refine h1 _ _ ?_
    try clear h1 K_h1
    refine T.gh (Gh.keep [0, 4, 6]) ?_
    rw [hρ]
    have hgo' : goS b N s0 [] = (if 0 ≤ s.bad then (s.bad, [], s) else (-1, acc, s)) := by
      rw [hgo]
      split
      · rfl
      · rename_i hb'
        rcases hx with hx | hx
        · rw [hx]; unfold goS; rw [if_neg hb']
        · exact absurd hx hb'
    have hb0 : G = (if 0 ≤ s.bad then (s.bad, []) else if s.at_ < b.length then (s.at_, []) else (-1, acc)) := by
      rw [hget]
      simp only [hgo']
      split
      · rename_i hx; simp only []
      · simp
    have hkl := ks.1.len
    have hk0 := ks.1.lo
    have hk1 := ks.1.hi
    refine T.seq_k (fun K_h1 h1 => ?_)
    refine T.block ?_
    refine T.seq_k (fun K_h2 h2 => ?_)
    refine T.regi hm ?_
    simp only [↓reduceIte, namesOf, List.any, I.names, aopsI, astep, ev, setd, List.set, List.getD, List.getElem?_cons_zero, List.getElem?_cons_succ, List.cons_append, List.nil_append, List.replicate, then_normal, Option.getD_some, Bool.or_false, Bool.false_eq_true, up_zero, binv, ↓opt_def, List.map_cons, List.map_nil]
    refine (wbad_ok R1.at_).mono ?_
    rintro v t1 ⟨rfl, rfl⟩
    by_cases hbd : 0 ≤ s.bad
    · rw [if_pos hbd] at hb0
      have e1 : decide (s.bad ≥ 0) = true := decide_eq_true hbd
      try simp only [↓reduceIte, eq_self, e1]
      refine h2 _ _ ?_
      try clear h2 K_h2
      refine T.cond rfl (fun _ => ?_) (fun h => by cases h)
      refine T.seq_k (fun K_h2 h2 => ?_)
      refine T.regi hm ?_
      simp only [↓reduceIte, namesOf, List.any, I.names, aopsI, astep, ev, setd, List.set, List.getD, List.getElem?_cons_zero, List.getElem?_cons_succ, List.length_cons, List.length_nil, then_normal, Option.getD_some, Bool.or_false, Bool.or_true, Nat.reduceAdd, ↓opt_def, AV.isAny, AV.cells, List.map_cons, List.map_nil, eq_self]
      refine (wbad_ok (R1.up 7).at_).mono ?_
      rintro v t2 ⟨rfl, rfl⟩
      try simp only [↓reduceIte, ev, List.getD, List.getElem?_cons_zero, List.getElem?_cons_succ, List.cons_append, List.nil_append, List.length_cons, List.length_nil, Option.getD_some, Bool.false_eq_true, Nat.reduceAdd, AV.isAny, AV.cells, and_true, eq_self, fillA, Option.map, AV.fits, AV.one, List.all_cons, List.all_nil, Nat.reduceBEq, Bool.not_false, Bool.and_self, Nat.zero_add, splice, List.take, List.drop, Nat.reduceLeDiff]
      refine h2 _ _ ?_
      try clear h2 K_h2
      refine T.ret (Fin.retw rfl (Wk.tup2 (Wk.sl _ _)) (.inr ⟨by rw [hb0]; exact hbd, t1.next + 3, rfl, by rw [hb0]; simp, by have := R1.like.next; omega, by simp, (R1.like.up 7).set _ (by have := R1.like.next; omega)⟩))
    · rw [if_neg hbd] at hb0
      have e1 : decide (s.bad ≥ 0) = false := decide_eq_false hbd
      have e3 : IntKind.i64.wrap ((b.length : Int) - ((b.length : Int) - s.at_)) = s.at_ := by rw [wrap64 (by omega) (by omega)]; omega
      try simp only [↓reduceIte, eq_self, e1]
      refine h2 _ _ ?_
      try clear h2 K_h2
      refine T.cond rfl (fun h => by cases h) (fun _ => ?_)
      refine T.seq_k (fun K_h2 h2 => ?_)
      refine T.regi hm ?_
      simp only [↓reduceIte, namesOf, List.any, I.names, aopsI, astep, ev, setd, List.set, List.getD, List.getElem?_cons_zero, List.getElem?_cons_succ, then_normal, Option.getD_some, Bool.or_false, Bool.false_eq_true, up_zero, binv, ↓opt_def, List.map_cons, List.map_nil]
      refine (wleft_ok hkl hk0 hk1 R1.at_).mono ?_
      rintro v t2 ⟨rfl, rfl⟩
      by_cases hlt : s.at_ < b.length
      · rw [if_pos hlt] at hb0
        have e2 : decide ((b.length : Int) - s.at_ > 0) = true := decide_eq_true (by omega)
        try simp only [↓reduceIte, eq_self, e2]
        refine h2 _ _ ?_
        try clear h2 K_h2
        refine T.cond rfl (fun _ => ?_) (fun h => by cases h)
        refine T.seq_k (fun K_h2 h2 => ?_)
        refine T.regi hm ?_
        simp only [↓reduceIte, namesOf, List.any, I.names, aopsI, astep, ev, setd, List.set, List.getD, List.getElem?_cons_zero, List.getElem?_cons_succ, List.length_cons, List.length_nil, then_normal, Option.getD_some, Bool.or_false, Bool.or_true, Nat.reduceAdd, binv, ↓opt_def, AV.isAny, AV.cells, List.map_cons, List.map_nil, eq_self, bytesAV_len]
        refine (wleft_ok hkl hk0 hk1 (R1.up 10).at_).mono ?_
        rintro v t3 ⟨rfl, rfl⟩
        try simp only [↓reduceIte, ev, List.getD, List.getElem?_cons_zero, List.getElem?_cons_succ, List.cons_append, List.nil_append, List.length_cons, List.length_nil, Option.getD_some, Bool.false_eq_true, Nat.reduceAdd, AV.isAny, AV.cells, and_true, eq_self, fillA, Option.map, AV.fits, AV.one, List.all_cons, List.all_nil, Nat.reduceBEq, Bool.not_false, Bool.and_self, Nat.zero_add, splice, List.take, List.drop, Nat.reduceLeDiff, e3]
        refine h2 _ _ ?_
        try clear h2 K_h2
        refine T.ret (Fin.retw rfl (Wk.tup2 (Wk.sl _ _)) (.inr ⟨by rw [hb0]; exact hk0, t2.next + 6, rfl, by rw [hb0]; simp, by have := R1.like.next; omega, by simp, (R1.like.up 10).set _ (by have := R1.like.next; omega)⟩))
      · rw [if_neg hlt] at hb0
        have e2 : decide ((b.length : Int) - s.at_ > 0) = false := decide_eq_false (by omega)
        try simp only [↓reduceIte, eq_self, e2]
        refine h2 _ _ ?_
        try clear h2 K_h2
        refine T.cond rfl (fun h => by cases h) (fun _ => T.skip ?_)
        try simp only [then_normal, inBlock_normal, inBlock_normal]
        refine h1 _ _ ?_
        try clear h1 K_h1
        refine T.seq_k (fun K_h0 h0 => ?_)
        refine T.regi hm ?_
        simp only [↓reduceIte, namesOf, List.any, I.names, aopsI, astep, ev, setd, List.set, List.getD, List.getElem?_cons_zero, List.getElem?_cons_succ, then_normal, Option.getD_some, Bool.or_false, Bool.false_eq_true, up_zero]
        refine h0 _ _ ?_
        try clear h0 K_h0
        exact T.ret (Fin.quietw rfl (Wk.tup2 (Wk.sl _ _)) ⟨⟨nbs_sps _ _, trivial⟩, trivial, trivial⟩ (R1.like.quiet wf) (.inl ⟨by rw [hb0]; simp, by rw [hb0]; rfl, rfl⟩))
  clear h1
  refine T.seq_k (fun K_h2 h2 => ?_)
  by_cases hil : i < N
  case neg =>
    have e1 : decide ((i : Int) < (N : Int)) = false := decide_eq_false (by omega)
    refine T.seq_k (fun K_h0 h0 => ?_)
    refine T.regi hm ?_
    simp only [↓reduceIte, namesOf, List.any, I.names, aopsI, astep, ev, setd, List.set, List.getD, List.getElem?_cons_zero, List.getElem?_cons_succ, List.cons_append, List.nil_append, List.replicate, then_normal, Option.getD_some, Bool.or_false, Bool.false_eq_true, up_zero, binv, ↓opt_def, eq_self, e1]
    refine h0 _ _ ?_
    try clear h0 K_h0
    refine T.cond rfl (fun h => by cases h) (fun _ => T.exit ?_)
    try simp only [List.cons_append, List.nil_append, List.replicate, then_normal, inBlock_exit, then_exit]
    exact fin (.inl (by omega)) _ rfl
  have e1 : decide ((i : Int) < (N : Int)) = true := decide_eq_true (by omega)
  refine T.seq_k (fun K_h3 h3 => ?_)
  refine T.regi hm ?_
  simp only [↓reduceIte, namesOf, List.any, I.names, aopsI, astep, ev, setd, List.set, List.getD, List.getElem?_cons_zero, List.getElem?_cons_succ, List.cons_append, List.nil_append, List.replicate, then_normal, Option.getD_some, Bool.or_false, Bool.false_eq_true, up_zero, binv, ↓opt_def, List.map_cons, List.map_nil, eq_self, e1]
  refine (wbad_ok R1.at_).mono ?_
  rintro v t1 ⟨rfl, rfl⟩
  by_cases hbd : 0 ≤ s.bad
  · have e2 : decide (s.bad < 0) = false := decide_eq_false (by omega)
    try simp only [↓reduceIte, eq_self, e2]
    refine h3 _ _ ?_
    try clear h3 K_h3
    refine T.cond rfl (fun h => by cases h) (fun _ => T.exit ?_)
    try simp only [List.cons_append, List.nil_append, List.replicate, then_normal, inBlock_exit, then_exit]
    exact fin (.inr hbd) _ rfl
  have e2 : decide (s.bad < 0) = true := decide_eq_true (by omega)
  try simp only [↓reduceIte, eq_self, e2]
  refine h3 _ _ ?_
  try clear h3 K_h3
  refine T.cond rfl (fun _ => T.skip ?_) (fun h => by cases h)
  refine h2 _ _ ?_
  try clear h2 K_h2
  clear fin
  rw [if_neg hbd] at hgo
  obtain ⟨n, hn⟩ : ∃ n, N - i = n + 1 := ⟨N - i - 1, by omega⟩
  have hn' : N - (i + 1) = n := by omega
  rw [hn] at hgo
  have hgo1 : goS b N s0 [] = (if 0 ≤ (oneN b s).bad then ((oneN b s).bad, [], oneN b s) else if mayS (oneS b s) then goS b n (oneN b s) (acc ++ [oneS b s]) else (s.at_, [], oneN b s)) := by
    rw [hgo]; conv => lhs; unfold goS
    rw [if_neg hbd]
  clear hgo
  have hkl := ks.1.len
  have hk0 := ks.1.lo
  have hk1 := ks.1.hi
  have e3 : IntKind.i64.wrap ((b.length : Int) - ((b.length : Int) - s.at_)) = s.at_ := by rw [wrap64 (by omega) (by omega)]; omega
  have hiw := inc64' hil (by omega)
  refine T.seq_k (fun K_h2 h2 => ?_)
  refine T.block ?_
  refine T.seq_k (fun K_h3 h3 => ?_)
  refine T.regi hm ?_
  simp only [↓reduceIte, namesOf, List.any, I.names, aopsI, astep, ev, setd, List.set, List.getD, List.getElem?_cons_zero, List.getElem?_cons_succ, List.cons_append, List.nil_append, List.replicate, then_normal, Option.getD_some, Bool.or_false, Bool.false_eq_true, up_zero, binv, ↓opt_def, List.map_cons, List.map_nil, bytesAV_len]
  refine (wleft_ok hkl hk0 hk1 R1.at_).mono ?_
  rintro v t2 ⟨rfl, rfl⟩
  try simp only [↓reduceIte, eq_self, e3]
  refine h3 _ _ ?_
  try clear h3 K_h3
  have ks1 := rN_ok (w := 8) ks
  have ks2 := rN_ok (w := 8) ks1
  have ks3 := rN_ok (w := 8) ks2
  have ks4 := rN_ok (w := 8) ks3
  have ks5 := rXN_ok ks4
  have hS : oneS b s = ⟨rW b s 8, rW b (rN b s 8) 8, IntKind.i64.wrap (rW b (rN b (rN b s 8) 8) 8 : Int), IntKind.i64.wrap (rW b (rN b (rN b (rN b s 8) 8) 8) 8 : Int), rX b (rN b (rN b (rN b (rN b s 8) 8) 8) 8)⟩ := rfl
  have hNn : oneN b s = rXN b (rN b (rN b (rN b (rN b s 8) 8) 8) 8) := rfl
  generalize oneS b s = X at hS hgo1
  generalize oneN b s = s' at hNn hgo1
  have hxl := rX_len ks4
  -- the Trace and the Id
  refine T.seq_k (fun K_h3 h3 => ?_)
  refine T.regi hm ?_
  simp only [↓reduceIte, namesOf, List.any, I.names, aopsI, astep, ev, setd, List.set, List.getD, List.getElem?_cons_zero, List.getElem?_cons_succ, List.cons_append, List.nil_append, List.length_cons, List.length_nil, List.replicate, then_normal, Option.getD_some, Bool.or_false, Bool.or_true, Nat.reduceAdd, ↓opt_def, AV.cells, List.map_cons, List.map_nil, St.set_same, eq_self]
  refine (wwordF ks rfl (R1.up 7).at_).mono ?_
  rintro v u ⟨rfl, rfl⟩
  try simp only []
  refine (wwordF ks1 rfl (St.set_same _ _ _)).mono ?_
  rintro v u ⟨rfl, rfl⟩
  rw [St.set_set]
  try simp only [↓reduceIte, ev, List.getD, List.getElem?_cons_zero, List.getElem?_cons_succ, List.cons_append, List.nil_append, List.length_cons, List.length_nil, Option.getD_some, Nat.reduceAdd, AV.isAny, AV.cells, and_true, eq_self, decide_true, fillA, Option.map, AV.fits, AV.one, List.all_cons, List.all_nil, Nat.reduceBEq, Bool.not_false, Bool.and_self, Nat.zero_add, splice, List.take, List.drop, Nat.reduceLeDiff, St.set_set]
  have hsn := R1.like.next
  have hnmt := R1.hi
  have RA := ((R1.up 7).set (rdS b .none (rN b (rN b s 8) 8))).new (a := t2.next + 5) (.obj [.int .u64 (rW b s 8 : Int), .int .u64 (rW b (rN b s 8) 8 : Int), .int .i64 0, .int .i64 0, .sl [] .nil]) (by omega) (by omega) (fun g hg => by have := R1.lt hg; omega)
  have hA : (((t2.up 7).set nm (rdS b .none (rN b (rN b s 8) 8))).set (t2.next + 5) (.obj [.int .u64 (rW b s 8 : Int), .int .u64 (rW b (rN b s 8) 8 : Int), .int .i64 0, .int .i64 0, .sl [] .nil])).res (t2.next + 5) = some (.obj [.int .u64 (rW b s 8 : Int), .int .u64 (rW b (rN b s 8) 8 : Int), .int .i64 0, .int .i64 0, .sl [] .nil]) := by simp
  have ha0 : σ.next ≤ t2.next + 5 := by omega
  have ha1 : t2.next + 5 < (((t2.up 7).set nm (rdS b .none (rN b (rN b s 8) 8))).set (t2.next + 5) (.obj [.int .u64 (rW b s 8 : Int), .int .u64 (rW b (rN b s 8) 8 : Int), .int .i64 0, .int .i64 0, .sl [] .nil])).next := by simp
  have ha2 : t2.next + 5 ≠ nm := by omega
  have ha3 : ∀ g, vv = .tip g → t2.next + 5 ≠ g := fun g hg => by have := R1.lt hg; omega
  generalize (((t2.up 7).set nm (rdS b .none (rN b (rN b s 8) 8))).set (t2.next + 5) (.obj [.int .u64 (rW b s 8 : Int), .int .u64 (rW b (rN b s 8) 8 : Int), .int .i64 0, .int .i64 0, .sl [] .nil])) = uA at RA hA ha1 ⊢
  generalize t2.next + 5 = a at hA ha0 ha1 ha2 ha3 ⊢
  clear R1 hsn hnmt
  refine h3 _ _ ?_
  try clear h3 K_h3
  -- the Start
  refine T.seq_k (fun K_h3 h3 => ?_)
  refine T.regi hm ?_
  simp only [↓reduceIte, namesOf, List.any, I.names, aopsI, astep, ev, setd, List.set, List.getD, List.getElem?_cons_zero, List.getElem?_cons_succ, List.cons_append, List.nil_append, List.replicate, then_normal, Option.getD_some, Bool.or_false, Bool.false_eq_true, up_zero, Nat.reduceAdd, AV.cells, List.map_cons, List.map_nil]
  refine (wwordF ks2 rfl RA.at_).mono ?_
  rintro v u ⟨rfl, rfl⟩
  have RB0 := RA.set (rdS b .none (rN b (rN b (rN b s 8) 8) 8))
  have hB0 : (uA.set nm (rdS b .none (rN b (rN b (rN b s 8) 8) 8))).res a = _ := (St.set_other _ _ ha2).trans hA
  have hBn : a < (uA.set nm (rdS b .none (rN b (rN b (rN b s 8) 8) 8))).next := ha1
  generalize (uA.set nm (rdS b .none (rN b (rN b (rN b s 8) 8) 8))) = uB at RB0 hB0 hBn ⊢
  try simp only [↓reduceIte, List.cons_append, List.nil_append, List.length_cons, List.length_nil, Nat.reduceAdd, AV.isAny, AV.cells, eq_self, decide_true, hB0, AV.fits, AV.one, List.all_cons, List.all_nil, Nat.reduceBEq, Bool.not_false, Bool.and_self, Nat.zero_add, splice, List.take, List.drop, Nat.reduceLeDiff]
  have RB := RB0.new (a := a) (.obj [.int .u64 (rW b s 8 : Int), .int .u64 (rW b (rN b s 8) 8 : Int), .int .i64 (IntKind.i64.wrap (rW b (rN b (rN b s 8) 8) 8 : Int)), .int .i64 0, .sl [] .nil]) ha0 ha2 ha3
  have hB : (uB.set a (.obj [.int .u64 (rW b s 8 : Int), .int .u64 (rW b (rN b s 8) 8 : Int), .int .i64 (IntKind.i64.wrap (rW b (rN b (rN b s 8) 8) 8 : Int)), .int .i64 0, .sl [] .nil])).res a = _ := St.set_same _ _ _
  have hBn' : a < (uB.set a (.obj [.int .u64 (rW b s 8 : Int), .int .u64 (rW b (rN b s 8) 8 : Int), .int .i64 (IntKind.i64.wrap (rW b (rN b (rN b s 8) 8) 8 : Int)), .int .i64 0, .sl [] .nil])).next := hBn
  generalize (uB.set a (.obj [.int .u64 (rW b s 8 : Int), .int .u64 (rW b (rN b s 8) 8 : Int), .int .i64 (IntKind.i64.wrap (rW b (rN b (rN b s 8) 8) 8 : Int)), .int .i64 0, .sl [] .nil])) = uB2 at RB hB hBn' ⊢
  clear RA hA ha1 RB0 hB0 hBn
  refine h3 _ _ ?_
  try clear h3 K_h3
  -- the End
  refine T.seq_k (fun K_h3 h3 => ?_)
  refine T.regi hm ?_
  simp only [↓reduceIte, namesOf, List.any, I.names, aopsI, astep, ev, setd, List.set, List.getD, List.getElem?_cons_zero, List.getElem?_cons_succ, List.cons_append, List.nil_append, List.replicate, then_normal, Option.getD_some, Bool.or_false, Bool.false_eq_true, up_zero, Nat.reduceAdd, AV.cells, List.map_cons, List.map_nil]
  refine (wwordF ks3 rfl RB.at_).mono ?_
  rintro v u ⟨rfl, rfl⟩
  have RC0 := RB.set (rdS b .none (rN b (rN b (rN b (rN b s 8) 8) 8) 8))
  have hC0 : (uB2.set nm (rdS b .none (rN b (rN b (rN b (rN b s 8) 8) 8) 8))).res a = _ := (St.set_other _ _ ha2).trans hB
  have hCn : a < (uB2.set nm (rdS b .none (rN b (rN b (rN b (rN b s 8) 8) 8) 8))).next := hBn'
  generalize (uB2.set nm (rdS b .none (rN b (rN b (rN b (rN b s 8) 8) 8) 8))) = uC at RC0 hC0 hCn ⊢
  try simp only [↓reduceIte, List.cons_append, List.nil_append, List.length_cons, List.length_nil, Nat.reduceAdd, AV.isAny, AV.cells, eq_self, decide_true, hC0, AV.fits, AV.one, List.all_cons, List.all_nil, Nat.reduceBEq, Bool.not_false, Bool.and_self, Nat.zero_add, splice, List.take, List.drop, Nat.reduceLeDiff]
  have RC := RC0.new (a := a) (.obj [.int .u64 (rW b s 8 : Int), .int .u64 (rW b (rN b s 8) 8 : Int), .int .i64 (IntKind.i64.wrap (rW b (rN b (rN b s 8) 8) 8 : Int)), .int .i64 (IntKind.i64.wrap (rW b (rN b (rN b (rN b s 8) 8) 8) 8 : Int)), .sl [] .nil]) ha0 ha2 ha3
  have hC : (uC.set a (.obj [.int .u64 (rW b s 8 : Int), .int .u64 (rW b (rN b s 8) 8 : Int), .int .i64 (IntKind.i64.wrap (rW b (rN b (rN b s 8) 8) 8 : Int)), .int .i64 (IntKind.i64.wrap (rW b (rN b (rN b (rN b s 8) 8) 8) 8 : Int)), .sl [] .nil])).res a = _ := St.set_same _ _ _
  have hCn' : a < (uC.set a (.obj [.int .u64 (rW b s 8 : Int), .int .u64 (rW b (rN b s 8) 8 : Int), .int .i64 (IntKind.i64.wrap (rW b (rN b (rN b s 8) 8) 8 : Int)), .int .i64 (IntKind.i64.wrap (rW b (rN b (rN b (rN b s 8) 8) 8) 8 : Int)), .sl [] .nil])).next := hCn
  generalize (uC.set a (.obj [.int .u64 (rW b s 8 : Int), .int .u64 (rW b (rN b s 8) 8 : Int), .int .i64 (IntKind.i64.wrap (rW b (rN b (rN b s 8) 8) 8 : Int)), .int .i64 (IntKind.i64.wrap (rW b (rN b (rN b (rN b s 8) 8) 8) 8 : Int)), .sl [] .nil])) = uC2 at RC hC hCn' ⊢
  clear RB hB hBn' RC0 hC0 hCn
  refine h3 _ _ ?_
  try clear h3 K_h3
  -- the Data
  refine T.seq_k (fun K_h3 h3 => ?_)
  refine T.regi hm ?_
  simp only [↓reduceIte, namesOf, List.any, I.names, aopsI, astep, ev, setd, List.set, List.getD, List.getElem?_cons_zero, List.getElem?_cons_succ, List.cons_append, List.nil_append, List.replicate, then_normal, Option.getD_some, Bool.or_false, Bool.false_eq_true, up_zero, Nat.reduceAdd, AV.cells, List.map_cons, List.map_nil]
  refine (wtextR_ok ks4 RC.at_).mono ?_
  rintro v u ⟨rfl, rfl⟩
  rw [← hNn] at ks5 ⊢
  have RD0 := RC.set (rdS b .none s')
  have hD0 : (uC2.set nm (rdS b .none s')).res a = _ := (St.set_other _ _ ha2).trans hC
  have hDn : a < (uC2.set nm (rdS b .none s')).next := hCn'
  generalize (uC2.set nm (rdS b .none s')) = uD at RD0 hD0 hDn ⊢
  try simp only [↓reduceIte, List.cons_append, List.nil_append, List.length_cons, List.length_nil, Nat.reduceAdd, AV.isAny, AV.cells, eq_self, decide_true, hD0, AV.fits, AV.one, List.all_cons, List.all_nil, Nat.reduceBEq, Bool.not_false, Bool.and_self, Nat.zero_add, splice, List.take, List.drop, Nat.reduceLeDiff]
  have hcells : [AV.int .u64 (rW b s 8 : Int), .int .u64 (rW b (rN b s 8) 8 : Int), .int .i64 (IntKind.i64.wrap (rW b (rN b (rN b s 8) 8) 8 : Int)), .int .i64 (IntKind.i64.wrap (rW b (rN b (rN b (rN b s 8) 8) 8) 8 : Int)), .sl (bytesAV (rX b (rN b (rN b (rN b (rN b s 8) 8) 8) 8))) .none] =
      [.int .u64 (X.tr : Int), .int .u64 (X.id : Int), .int .i64 X.st, .int .i64 X.en, .sl (bytesAV X.da) .none] := by rw [hS]
  have hXl : X.da.length ≤ 65535 := by rw [hS]; exact hxl
  rw [hcells]
  clear hcells hS hxl
  have RE := RD0.new (a := a) (.obj [.int .u64 (X.tr : Int), .int .u64 (X.id : Int), .int .i64 X.st, .int .i64 X.en, .sl (bytesAV X.da) .none]) ha0 ha2 ha3
  have hE : (uD.set a (.obj [.int .u64 (X.tr : Int), .int .u64 (X.id : Int), .int .i64 X.st, .int .i64 X.en, .sl (bytesAV X.da) .none])).res a = _ := St.set_same _ _ _
  generalize (uD.set a (.obj [.int .u64 (X.tr : Int), .int .u64 (X.id : Int), .int .i64 X.st, .int .i64 X.en, .sl (bytesAV X.da) .none])) = uE at RE hE ⊢
  clear RC hC hCn' RD0 hD0 hDn
  refine h3 _ _ ?_
  try clear h3 K_h3
  -- may it be?
  have hms : mayI X.st X.en (((bytesAV X.da).length : Nat) : Int) = mayS X := by rw [bytesAV_len]; rfl
  refine T.seq_k (fun K_h3 h3 => ?_)
  have out : (0 ≤ s'.bad ∨ mayS X = true) → ∀ ρ', keep [0, 4, 5, 6, 7, 9] 0 ρ' = [.sl (bytesAV b) .none, .any, .any, .any, .ptr nm 0, .int .i64 (N : Int), .sl (spsAV acc) vv, .int .i64 (i : Int), .any, .ptr a 0] ++ List.replicate 74 .any → K_h3 ρ' uE := by
    intro hor ρ' hρ
    refine h3 _ _ ?_
    try clear h3 K_h3
    refine T.gh (Gh.keep [0, 4, 5, 6, 7, 9]) ?_
    rw [hρ]
    have hgo2 : goS b N s0 [] = (if 0 ≤ s'.bad then (s'.bad, [], s') else goS b (N - (i + 1)) s' (acc ++ [X])) := by
      rw [hgo1, hn']
      split
      · rfl
      · rename_i hx
        rcases hor with h | h
        · exact absurd h hx
        · rw [if_pos h]
    have hEn : ∀ k, (uE.up k).res a = some (.obj [.int .u64 (X.tr : Int), .int .u64 (X.id : Int), .int .i64 X.st, .int .i64 X.en, .sl (bytesAV X.da) .none]) := fun _ => hE
    have hsn := RE.like.next
    have hnm := RE.hi
    have hfit : (spsAV (acc ++ [X])).all (AV.fits 5) = true := sps_fits _
    have hfit1 : AV.fits 5 (.agg [.int .u64 (X.tr : Int), .int .u64 (X.id : Int), .int .i64 X.st, .int .i64 X.en, .sl (bytesAV X.da) .none]) = true := rfl
    have her : (AV.agg [.int .u64 (X.tr : Int), .int .u64 (X.id : Int), .int .i64 X.st, .int .i64 X.en, .sl (bytesAV X.da) .none]).er = .agg [.int .u64 (X.tr : Int), .int .u64 (X.id : Int), .int .i64 X.st, .int .i64 X.en, .sl (bytesAV X.da) .none] := rfl
    have hle : decide ((acc.length + 1) * 56 ≤ 70368744177664 ∧ acc.length + 1 ≤ 4611686018427387904) = true := decide_eq_true (by omega)
    have hlen5 : ∀ x y z w q : AV, [x, y, z, w, q].length = 5 := fun _ _ _ _ _ => rfl
    have htake : ∀ x y z w q : AV, List.take 5 (List.drop 0 [x, y, z, w, q]) = [x, y, z, w, q] := fun _ _ _ _ _ => rfl
    have h05 : 0 + 5 ≤ 5 := Nat.le_refl _
    rcases RE.ver with rfl | ⟨g, rfl, _, _, _, hg⟩
    · have hac := hvn rfl
      subst hac
      have hX1 : [AV.agg [.int .u64 (X.tr : Int), .int .u64 (X.id : Int), .int .i64 X.st, .int .i64 X.en, .sl (bytesAV X.da) .none]] = spsAV [X] := rfl
      have hX0 : spsAV ([] : List Sp) = [] := rfl
      have hX2 : (spsAV [X]).isEmpty = false := rfl
      have hX3 : (spsAV [X]).all (AV.fits 5) = true := sps_fits _
      refine T.regi hm ?_
      simp only [↓reduceIte, namesOf, List.any, I.names, aopsI, astep, ev, setd, List.set, List.getD, List.getElem?_cons_zero, List.getElem?_cons_succ, List.cons_append, List.nil_append, List.length_cons, List.length_nil, List.replicate, then_normal, inBlock_normal, Option.getD_some, Bool.or_false, Bool.or_true, Bool.false_eq_true, Nat.reduceAdd, ↓opt_def, ldc, List.map_cons, List.map_nil, eq_self, decide_true, hEn, hX0, held, Bool.and_self, srcOf, List.nil_append, hX1, hX3, sps_er, sps_len, hX2, htake, h05, hlen5, Nat.reduceMul, Nat.reduceLeDiff, and_self, Nat.zero_add]
      refine h2 _ _ ?_
      try clear h2 K_h2
      refine T.regi hm ?_
      simp only [↓reduceIte, namesOf, List.any, I.names, aopsI, astep, ev, setd, List.set, List.getD, List.getElem?_cons_zero, List.getElem?_cons_succ, List.cons_append, List.nil_append, List.replicate, then_normal, Option.getD_some, Bool.or_false, Bool.false_eq_true, up_zero, binv, ↓opt_def, eq_self, hiw]
      exact ⟨hil, _, _, Gh.keep [0, 4, 5, 6, 7], s', [X], _, ks5, (RE.up 5).appNil (g := uE.next + 3) (by omega) (by omega) (by simp), by rw [← hacc]; rfl, (fun h => by cases h), hgo2, rfl⟩
    · have hgn : ∀ k, (uE.up k).res g = some (.tip 5) := fun _ => hg
      have hle' : decide ((acc.length + 1) * 56 ≤ 70368744177664 ∧ acc.length ≤ 4611686018427387903) = true := decide_eq_true (by omega)
      refine T.regi hm ?_
      simp only [↓reduceIte, namesOf, List.any, I.names, aopsI, astep, ev, setd, List.set, List.getD, List.getElem?_cons_zero, List.getElem?_cons_succ, List.cons_append, List.nil_append, List.length_cons, List.length_nil, List.replicate, then_normal, inBlock_normal, Option.getD_some, Bool.or_false, Bool.or_true, Nat.reduceAdd, ↓opt_def, ldc, List.map_cons, List.map_nil, eq_self, hEn, held, hfit1, her, List.all_cons, List.all_nil, Bool.and_self, srcOf, sps_snoc', hfit, sps_len, htake, h05, hlen5, hle, hgn]
      refine h2 _ _ ?_
      try clear h2 K_h2
      refine T.regi hm ?_
      simp only [↓reduceIte, namesOf, List.any, I.names, aopsI, astep, ev, setd, List.set, List.getD, List.getElem?_cons_zero, List.getElem?_cons_succ, List.cons_append, List.nil_append, List.replicate, then_normal, Option.getD_some, Bool.or_false, Bool.false_eq_true, up_zero, binv, ↓opt_def, eq_self, hiw]
      exact ⟨hil, _, _, Gh.keep [0, 4, 5, 6, 7], s', acc ++ [X], _, ks5, (RE.up 5).appTip (g := uE.next + 3) (by omega) (by omega) (by simp), by simp [hacc], (fun h => by cases h), hgo2, rfl⟩
  clear h2
  refine T.seq_k (fun K_h4 h4 => ?_)
  refine T.regi hm ?_
  simp only [↓reduceIte, namesOf, List.any, I.names, aopsI, astep, ev, setd, List.set, List.getD, List.getElem?_cons_zero, List.getElem?_cons_succ, List.cons_append, List.nil_append, List.replicate, then_normal, Option.getD_some, Bool.or_false, Bool.false_eq_true, up_zero, Nat.reduceAdd, binv, ↓opt_def, ldc, List.map_cons, List.map_nil]
  refine (wbad_ok RE.at_).mono ?_
  rintro v u ⟨rfl, rfl⟩
  by_cases hsb : 0 ≤ s'.bad
  · have e4 : decide (s'.bad < 0) = false := decide_eq_false (by omega)
    try simp only [↓reduceIte, Bool.false_eq_true, eq_self, e4]
    refine h4 _ _ ?_
    try clear h4 K_h4
    refine T.cond rfl (fun h => by cases h) (fun _ => T.skip ?_)
    exact out (.inl hsb) _ rfl
  have e4 : decide (s'.bad < 0) = true := decide_eq_true (by omega)
  have hlen5 : ∀ x y z w q : AV, [x, y, z, w, q].length = 5 := fun _ _ _ _ _ => rfl
  have htake : ∀ x y z w q : AV, List.take 5 (List.drop 0 [x, y, z, w, q]) = [x, y, z, w, q] := fun _ _ _ _ _ => rfl
  have h05 : 0 + 5 ≤ 5 := Nat.le_refl _
  try simp only [↓reduceIte, eq_self, e4, hE, hlen5, htake, h05]
  refine may_ok.mono ?_
  rintro v u2 ⟨rfl, rfl⟩
  rw [hms]
  cases hmay : mayS X with
  | true =>
    try simp only [Bool.not_true]
    refine h4 _ _ ?_
    try clear h4 K_h4
    refine T.cond rfl (fun h => by cases h) (fun _ => T.skip ?_)
    exact out (.inr hmay) _ rfl
  | false =>
    try simp only [Bool.not_false]
    refine h4 _ _ ?_
    try clear h4 K_h4
    clear out
    refine T.cond rfl (fun _ => ?_) (fun h => by cases h)
    refine T.seq_k (fun K_h3 h3 => ?_)
    refine T.regi hm ?_
    simp only [↓reduceIte, namesOf, List.any, I.names, aopsI, astep, ev, setd, List.set, List.getD, List.getElem?_cons_zero, List.getElem?_cons_succ, List.cons_append, List.nil_append, List.length_cons, List.length_nil, List.replicate, then_normal, Option.getD_some, Bool.or_false, Bool.or_true, Bool.false_eq_true, Nat.reduceAdd, ↓opt_def, AV.isAny, AV.cells, and_true, eq_self, fillA, Option.map, AV.fits, AV.one, List.all_cons, List.all_nil, Nat.reduceBEq, Bool.not_false, Bool.and_self, Nat.zero_add, splice, List.take, List.drop, Nat.reduceLeDiff]
    refine h3 _ _ ?_
    try clear h3 K_h3
    rw [if_neg hsb, hmay, if_neg (by simp)] at hgo1
    have hG : G = (s.at_, []) := by rw [hget, hgo1]; simp [hk0]
    exact T.ret (Fin.retw rfl (Wk.tup2 (Wk.sl _ _)) (.inr ⟨by rw [hG]; exact hk0, u2.next + 2, rfl, by rw [hG]; simp, by have := RE.like.next; omega, by simp, (RE.like.up 6).set _ (by have := RE.like.next; omega)⟩))
end Go.VL
