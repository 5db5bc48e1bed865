/- Texts put together: Contracts: rows of bytes put together. Contracts: a filter is made; one bit is set, and asked for. Contracts: a filter's bits: set, and asked for. Contracts: a filter's bytes, and a filter out of bytes. Contracts: the document's filter: made, added to, asked. Contracts: the document's filter: an Id's places; added to; asked. Contracts: the document's filter: its bytes. Contracts: the document's filter, out of bytes. The plain law of filters: bits in bytes, and as a list; what was put is got; what was added stays. The plain law of filters: bytes, and the filter that they are. Contracts: the head of the filters' laws. -/
import Derived.Test.YtlbnimbgodmagaaGd
import Derived.Test.YtlbnimbgodmagaaVcE

/- Contracts: rows of bytes put together. -/
namespace Go.VL
open Go.Proofs

/-- bytes, as a value or as an owned row -/
def BytesE (σ : St) (v : AV) (b : List UInt8) : Prop := (∃ g, v = .sl (bytesAV b) g) ∨ ∃ n, v = .ref n 0 b.length ∧ σ.res n = some (.obj (bytesAV b))
theorem BytesE.src {σ : St} {v : AV} {b : List UInt8} (h : BytesE σ v b) : srcOf σ 1 v = some (bytesAV b) := by
  rcases h with ⟨g, rfl⟩ | ⟨n, rfl, hr⟩
  · simp only [srcOf, bytesAV_er]
  · have e : ((bytesAV b).drop 0).take b.length = bytesAV b := by rw [List.drop_zero, List.take_of_length_le (by rw [bytesAV_len]; exact Nat.le_refl _)]
    unfold srcOf
    simp only [hr]
    rw [e, if_pos ⟨by trivial, by rw [bytesAV_len]; omega, by simp [bytesAV, AV.one]⟩]
    simp [bytesAV, AV.er1]
theorem BytesE.mono {σ σ' : St} {v : AV} {b : List UInt8} (h : BytesE σ v b) (ho : ∀ n x, σ.res n = some x → σ'.res n = some x) : BytesE σ' v b := by
  rcases h with ⟨g, rfl⟩ | ⟨n, rfl, hr⟩
  · exact .inl ⟨g, rfl⟩
  · exact .inr ⟨n, rfl, ho _ _ hr⟩

theorem growb_ok {n : Nat} {σ : St} (hn : n ≤ 1000000000) : ACalls Try.prog n_growb [.sl [] .nil, .int .i64 (n : Int)] σ (fun v σ' => (n = 0 ∧ v = .sl [] .nil ∧ σ' = σ) ∨ ∃ g, OneTip σ σ' g 1 ∧ v = .sl [] (.tip g)) := by
  refine s_growb (fun wf => ?_)
  unfold c_growb
  refine T.seq_k (fun K_h0 h0 => ?_)
  refine T.regi hm ?_
  simp only [↓reduceIte, namesOf, List.any, I.names, aopsI, astep, ev, setd, List.set, List.cons_append, List.nil_append, List.length_cons, List.length_nil, List.replicate, then_normal, Bool.or_false, Bool.false_eq_true, up_zero, Nat.reduceAdd, Nat.reduceSub]
  refine h0 _ _ ?_
  try clear h0 K_h0
  refine T.seq_k (fun K_h1 h1 => ?_)
  have e0 : decide ((n : Int) < 0) = false := decide_eq_false (by omega)
  refine T.seq_k (fun K_h0 h0 => ?_)
  refine T.regi hm ?_
  simp only [↓reduceIte, namesOf, List.any, I.names, aopsI, astep, ev, setd, List.set, List.getD, List.getElem?_cons_zero, List.getElem?_cons_succ, then_normal, Option.getD_some, Bool.or_false, Bool.false_eq_true, up_zero, binv, ↓opt_def, eq_self, e0]
  refine h0 _ _ ?_
  try clear h0 K_h0
  refine T.cond rfl (fun h => by cases h) (fun _ => T.skip ?_)
  refine h1 _ _ ?_
  try clear h1 K_h1
  refine T.seq_k (fun K_h1 h1 => ?_)
  refine T.seq_k (fun K_h2 h2 => ?_)
  have e1 : IntKind.i64.wrap ((0 : Int) - ((0 : Nat) : Int)) = 0 := by decide
  have e2 : IntKind.i64.wrap ((n : Int) - 0) = (n : Int) := by rw [wrap64 (by omega) (by omega)]; omega
  refine T.regi hm ?_
  simp only [↓reduceIte, namesOf, List.any, I.names, aopsI, astep, ev, setd, List.set, List.getD, List.getElem?_cons_zero, List.getElem?_cons_succ, List.length_nil, then_normal, Option.getD_some, Bool.or_false, Bool.false_eq_true, up_zero, binv, ↓opt_def, eq_self, e1, e2]
  refine h2 _ _ ?_
  try clear h2 K_h2
  refine T.seq_k (fun K_h2 h2 => ?_)
  by_cases hz : n = 0
  · subst hz
    have e3 : decide (((0 : Nat) : Int) > 0) = false := rfl
    refine T.regi hm ?_
    simp only [↓reduceIte, namesOf, List.any, I.names, aopsI, astep, ev, setd, List.set, List.getD, List.getElem?_cons_zero, List.getElem?_cons_succ, then_normal, Option.getD_some, Bool.or_false, Bool.false_eq_true, up_zero, binv, ↓opt_def, true_and, eq_self, e3]
    refine h2 _ _ ?_
    try clear h2 K_h2
    refine T.cond rfl (fun h => by cases h) (fun _ => T.skip ?_)
    refine h1 _ _ ?_
    try clear h1 K_h1
    refine T.seq_k (fun K_h0 h0 => ?_)
    refine T.regi hm ?_
    simp only [↓reduceIte, namesOf, List.any, I.names, aopsI, astep, ev, setd, List.set, List.getD, List.getElem?_cons_zero, List.getElem?_cons_succ, then_normal, Option.getD_some, Bool.or_false, Bool.false_eq_true, up_zero, true_and, eq_self]
    refine h0 _ _ ?_
    try clear h0 K_h0
    exact T.ret (Fin.ret rfl (.inl ⟨rfl, rfl, rfl⟩))
  · have e3 : decide ((n : Int) > 0) = true := decide_eq_true (by omega)
    refine T.regi hm ?_
    simp only [↓reduceIte, namesOf, List.any, I.names, aopsI, astep, ev, setd, List.set, List.getD, List.getElem?_cons_zero, List.getElem?_cons_succ, then_normal, Option.getD_some, Bool.or_false, Bool.false_eq_true, up_zero, binv, ↓opt_def, eq_self, e3]
    refine h2 _ _ ?_
    try clear h2 K_h2
    refine T.cond rfl (fun _ => ?_) (fun h => by cases h)
    have hp : (0 : Int) < (n : Int) := by omega
    have hb : (n : Int) * ((1 : Nat) : Int) ≤ 70368744177664 := by omega
    have hm' : (n : Int) ≤ 4611686018427387904 := by omega
    refine T.regi hm ?_
    simp only [↓reduceIte, namesOf, List.any, I.names, aopsI, astep, ev, setd, List.set, List.getD, List.getElem?_cons_zero, List.getElem?_cons_succ, List.length_cons, List.length_nil, then_normal, Option.getD_some, Bool.or_false, Bool.or_true, Nat.reduceAdd, AV.isAny, AV.cells, Int.natCast_nonneg, Int.toNat_natCast, true_and, and_true, eq_self, idx, List.all_nil, Int.le_refl, List.drop_nil, List.take_nil, Ver.noRoom, hp, hb, hm', AV.fits, AV.one, List.all_cons, Bool.not_false, Bool.and_self, beq_self_eq_true, true_or, and_self]
    refine h1 _ _ ?_
    try clear h1 K_h1
    refine T.seq_k (fun K_h0 h0 => ?_)
    refine T.regi hm ?_
    simp only [↓reduceIte, namesOf, List.any, I.names, aopsI, astep, ev, setd, List.set, List.getD, List.getElem?_cons_zero, List.getElem?_cons_succ, then_normal, Option.getD_some, Bool.or_false, Bool.false_eq_true, up_zero]
    refine h0 _ _ ?_
    try clear h0 K_h0
    exact T.ret (Fin.ret rfl (.inr ⟨_, OneTip.new (by omega), rfl⟩))

theorem bflat_take1 {l : List (List UInt8)} {i : Nat} (h : i < l.length) : (l.take (i + 1)).flatten = (l.take i).flatten ++ l[i] := by
  rw [List.take_succ_eq_append_getElem h, List.flatten_append]; simp
theorem bflat_take_le {l : List (List UInt8)} (i : Nat) : (l.take i).flatten.length ≤ l.flatten.length := by
  conv => rhs; rw [← List.take_append_drop i l]
  rw [List.flatten_append, List.length_append]; omega

/-- a row of rows of bytes -/
def BytesL (σ : St) (xs : List AV) (l : List (List UInt8)) : Prop := xs.length = l.length ∧ ∀ i (h : i < l.length), ∃ y, xs[i]? = some y ∧ BytesE σ y l[i]

set_option maxRecDepth 10000 in
set_option maxHeartbeats 1000000 in
theorem concatb_ok {xs : List AV} {l : List (List UInt8)} {g : Ver} {σ : St} (hx : BytesL σ xs l) (hl : l.length ≤ 1000000000) (hs : l.flatten.length ≤ 1000000000) :
    ACalls Try.prog n_concatb [.sl xs g] σ (fun v σ' => v = .sl (bytesAV l.flatten) .none ∧ σ' = σ) := by
  refine s_concatb (fun wf => ?_)
  unfold c_concatb
  obtain ⟨hxl, hxi⟩ := hx
  refine T.seq_k (fun K_h0 h0 => ?_)
  refine T.regi hm ?_
  simp only [↓reduceIte, namesOf, List.any, I.names, aopsI, astep, ev, setd, List.set, List.cons_append, List.nil_append, List.length_cons, List.length_nil, List.replicate, then_normal, Bool.or_false, Bool.false_eq_true, up_zero, Nat.reduceAdd, Nat.reduceSub]
  refine h0 _ _ ?_
  try clear h0 K_h0
  refine T.seq_k (fun K_h0 h0 => ?_)
  refine T.regi hm ?_
  simp only [↓reduceIte, namesOf, List.any, I.names, aopsI, astep, ev, setd, List.set, then_normal, Bool.or_false, Bool.false_eq_true, up_zero]
  refine h0 _ _ ?_
  try clear h0 K_h0
  refine T.seq_k (fun K_h1 h1 => ?_)
  refine T.seq_k (fun K_h0 h0 => ?_)
  refine T.regi hm ?_
  simp only [↓reduceIte, namesOf, List.any, I.names, aopsI, astep, ev, setd, List.set, List.getD, List.getElem?_cons_zero, List.getElem?_cons_succ, then_normal, Option.getD_some, Bool.or_false, Bool.false_eq_true, up_zero]
  refine h0 _ _ ?_
  try clear h0 K_h0
  refine T.block ?_
  refine T.gh (Gh.keep [0, 3, 9, 10, 11]) ?_
  refine T.loopi (fun i ρ σ' => σ' = σ ∧ ρ = [.sl xs g, .any, .any, .int .i64 ((l.take i).flatten.length : Int), .any, .any, .any, .any, .any, .sl xs g, .int .i64 (xs.length : Int), .int .i64 (i : Int)] ++ List.replicate 24 .any)
    l.length 0 (Nat.zero_le _) ⟨rfl, rfl⟩ ?_
  rintro i ρ σ' hi ⟨rfl, rfl⟩
  refine T.seq_k (fun K_h0 h0 => ?_)
  refine T.regi hm ?_
  simp only [↓reduceIte, namesOf, List.any, I.names, aopsI, astep, ev, setd, List.set, List.getD, List.getElem?_cons_zero, List.getElem?_cons_succ, List.cons_append, List.nil_append, List.replicate, then_normal, Option.getD_some, Bool.or_false, Bool.false_eq_true, up_zero, binv, ↓opt_def, lt_len, eq_self]
  refine h0 _ _ ?_
  try clear h0 K_h0
  refine T.seq_k (fun K_h2 h2 => ?_)
  rw [hxl]
  refine T.cond rfl (fun hb => ?_) (fun hb => ?_)
  · refine T.skip ?_
    refine h2 _ _ ?_
    try clear h2 K_h2
    have hil : i < l.length := by simpa using hb
    clear hb
    obtain ⟨y, hy, hye⟩ := hxi i hil
    have hle := bflat_take_le (l := l) (i + 1)
    have hft := bflat_take1 hil
    have e1 : IntKind.i64.wrap (((l.take i).flatten.length : Int) + (l[i].length : Int)) = ((l.take (i + 1)).flatten.length : Int) := by
      rw [hft] at hle ⊢
      rw [List.length_append] at hle ⊢
      rw [wrap64 (by omega) (by omega)]; omega
    have e2 : decide (((l.take (i + 1)).flatten.length : Int) < 0) = false := decide_eq_false (by omega)
    have hw := inc64' hil (by omega)
    have hil' : i < xs.length := by omega
    rcases hye with ⟨g2, rfl⟩ | ⟨m, rfl, hr⟩
    all_goals
      refine T.seq_k (fun K_h2 h2 => ?_)
      refine T.block ?_
      refine T.seq_k (fun K_h0 h0 => ?_)
      refine T.regi hm ?_
      simp only [↓reduceIte, namesOf, List.any, I.names, aopsI, astep, ev, setd, List.set, List.getD, List.getElem?_cons_zero, List.getElem?_cons_succ, List.cons_append, List.nil_append, List.length_cons, List.length_nil, List.replicate, then_normal, Option.getD_some, Bool.or_false, Bool.false_eq_true, up_zero, Nat.reduceAdd, ↓opt_def, AV.cells, ldc, Int.natCast_nonneg, lt_len, Int.toNat_natCast, and_true, eq_self, hy, hil']
      refine h0 _ _ ?_
      try clear h0 K_h0
      refine T.seq_k (fun K_h0 h0 => ?_)
      refine T.regi hm ?_
      simp only [↓reduceIte, namesOf, List.any, I.names, aopsI, astep, ev, setd, List.set, List.getD, List.getElem?_cons_zero, List.getElem?_cons_succ, List.cons_append, List.nil_append, List.replicate, then_normal, Option.getD_some, Bool.or_false, Bool.false_eq_true, up_zero, binv, ↓opt_def, eq_self, e1, bytesAV_len]
      refine h0 _ _ ?_
      try clear h0 K_h0
      refine T.seq_k (fun K_h0 h0 => ?_)
      refine T.regi hm ?_
      simp only [↓reduceIte, namesOf, List.any, I.names, aopsI, astep, ev, setd, List.set, List.getD, List.getElem?_cons_zero, List.getElem?_cons_succ, List.cons_append, List.nil_append, List.replicate, then_normal, Option.getD_some, Bool.or_false, Bool.false_eq_true, up_zero, binv, ↓opt_def, eq_self, e2]
      refine h0 _ _ ?_
      try clear h0 K_h0
      refine T.cond rfl (fun h => by cases h) (fun _ => T.skip ?_)
      refine h2 _ _ ?_
      try clear h2 K_h2
      refine T.regi hm ?_
      simp only [↓reduceIte, namesOf, List.any, I.names, aopsI, astep, ev, setd, List.set, List.getD, List.getElem?_cons_zero, List.getElem?_cons_succ, List.cons_append, List.nil_append, List.replicate, then_normal, Option.getD_some, Bool.or_false, Bool.false_eq_true, up_zero, binv, ↓opt_def, eq_self, hw]
      exact ⟨hil, _, _, Gh.keep [0, 3, 9, 10, 11], rfl, by rw [hxl]; rfl⟩
  · refine T.exit ?_
    have : i = l.length := by simp at hb; omega
    subst this
    rw [List.take_length]
    try simp only [List.cons_append, List.nil_append, List.replicate, then_normal, inBlock_exit, then_exit]
    refine h1 _ _ ?_
    try clear h1 K_h1
    refine T.seq_k (fun K_h1 h1 => ?_)
    refine T.regi hm ?_
    simp only [↓reduceIte, namesOf, List.any, I.names, aopsI, astep, ev, setd, List.set, List.getD, List.getElem?_cons_zero, List.getElem?_cons_succ, then_normal, Option.getD_some, Bool.or_false, Bool.false_eq_true, up_zero, List.map_cons, List.map_nil]
    refine (growb_ok (n := l.flatten.length) hs).mono ?_
    rintro v σ1 hv
    try simp only [↓reduceIte, namesOf, List.any, I.names, aops, aopsI, aopsT, qstep, CPt, qget, Tbl.get, astep, ev, setd, List.set, List.getD, List.getElem?_cons_zero, List.getElem?_cons_succ, List.getElem?_nil, List.cons_append, List.nil_append, List.length_cons, List.length_nil, List.replicate, then_normal, inBlock_normal, Option.getD_some, Option.getD_none, Bool.or_false, Bool.or_true, Bool.true_or, Bool.false_or, Bool.false_eq_true, if_false, if_true, up_zero, Nat.reduceAdd, Nat.reduceSub, binv, ↓opt_def, AV.isAny, AV.cells, ldc, List.map_cons, List.map_nil, St.set_next, St.set_same, St.up_next, Int.natCast_nonneg, lt_len, le_len, Int.toNat_natCast, true_and, and_true, eq_self, reduceCtorEq, decide_true, List.length_singleton, er_int, er_bool, er_str, up_zero]
    refine h1 _ _ ?_
    try clear h1 K_h1
    refine T.seq_k (fun K_h1 h1 => ?_)
    refine T.seq_k (fun K_h0 h0 => ?_)
    refine T.regi hm ?_
    simp only [↓reduceIte, namesOf, List.any, I.names, aopsI, astep, ev, setd, List.set, List.getD, List.getElem?_cons_zero, List.getElem?_cons_succ, then_normal, Option.getD_some, Bool.or_false, Bool.false_eq_true, up_zero]
    refine h0 _ _ ?_
    try clear h0 K_h0
    refine T.block ?_
    refine T.gh (Gh.keep [6, 25, 26, 27]) ?_
    refine T.loopi (fun i ρ σ2 => ((l.flatten.length = 0 ∧ (∀ n r, σ'.res n = some r → σ2.res n = some r) ∧ ρ.getD 6 .any = .sl [] .nil) ∨ ∃ g1, OneTip σ' σ2 g1 1 ∧ ρ.getD 6 .any = .sl (bytesAV (l.take i).flatten) (.tip g1)) ∧
      ∃ x, ρ = [.any, .any, .any, .any, .any, .any, x, .any, .any, .any, .any, .any, .any, .any, .any, .any, .any, .any, .any, .any, .any, .any, .any, .any, .any, .sl xs g, .int .i64 (xs.length : Int), .int .i64 (i : Int)] ++ List.replicate 8 .any)
      l.length 0 (Nat.zero_le _) ⟨?_, v, rfl⟩ ?_
    · rcases hv with ⟨h0, rfl, rfl⟩ | ⟨g1, o1, rfl⟩
      · exact .inl ⟨h0, fun _ _ h => h, rfl⟩
      · exact .inr ⟨g1, o1, by simp [bytesAV, keep]⟩
    clear hv
    rintro i ρ σ2 hi2 ⟨hv, x, rfl⟩
    simp only [List.cons_append, List.getD, List.getElem?_cons_succ, List.getElem?_cons_zero, Option.getD_some] at hv
    refine T.seq_k (fun K_h0 h0 => ?_)
    refine T.regi hm ?_
    simp only [↓reduceIte, namesOf, List.any, I.names, aopsI, astep, ev, setd, List.set, List.getD, List.getElem?_cons_zero, List.getElem?_cons_succ, List.cons_append, List.nil_append, List.replicate, then_normal, Option.getD_some, Bool.or_false, Bool.false_eq_true, up_zero, binv, ↓opt_def, lt_len, eq_self]
    refine h0 _ _ ?_
    try clear h0 K_h0
    refine T.seq_k (fun K_h2 h2 => ?_)
    rw [hxl]
    refine T.cond rfl (fun hb => ?_) (fun hb => ?_)
    · refine T.skip ?_
      refine h2 _ _ ?_
      try clear h2 K_h2
      have hil : i < l.length := by simpa using hb
      clear hb
      obtain ⟨y, hy, hye⟩ := hxi i hil
      have hil' : i < xs.length := by omega
      have hw := inc64' hil (by omega)
      have hle := bflat_take_le (l := l) (i + 1)
      have hft := bflat_take1 hil
      refine T.seq_k (fun K_h2 h2 => ?_)
      refine T.block ?_
      rcases hv with ⟨h0, hq0, rfl⟩ | ⟨g1, o1, rfl⟩
      · have hz : l[i] = [] := by
          apply List.eq_nil_of_length_eq_zero
          rw [hft, List.length_append] at hle; omega
        have hsrc := (hye.mono (σ' := σ2.up 4) hq0).src
        rw [hz] at hsrc
        have hsrc' : srcOf (σ2.up 4) 1 y = some [] := hsrc
        rcases hye with ⟨g2, rfl⟩ | ⟨m, rfl, hr⟩
        all_goals
          refine T.seq_k (fun K_h0 h0 => ?_)
          refine T.regi hm ?_
          simp only [↓reduceIte, namesOf, List.any, I.names, aopsI, astep, ev, setd, List.set, List.getD, List.getElem?_cons_zero, List.getElem?_cons_succ, List.cons_append, List.nil_append, List.length_cons, List.length_nil, List.replicate, then_normal, Option.getD_some, Bool.or_false, Bool.false_eq_true, up_zero, Nat.reduceAdd, ↓opt_def, AV.cells, ldc, Int.natCast_nonneg, lt_len, Int.toNat_natCast, and_true, eq_self, hy, hil']
          refine h0 _ _ ?_
          try clear h0 K_h0
          refine T.regi hm ?_
          simp only [↓reduceIte, namesOf, List.any, I.names, aopsI, astep, ev, setd, List.set, List.getD, List.getElem?_cons_zero, List.getElem?_cons_succ, List.cons_append, List.nil_append, List.length_cons, List.length_nil, List.replicate, then_normal, inBlock_normal, Option.getD_some, Bool.or_false, Bool.or_true, Nat.reduceAdd, eq_self, decide_true, hsrc', List.all_nil, Bool.true_and, List.isEmpty, Nat.zero_mul, Nat.zero_le, and_self, Nat.add_zero, Nat.zero_add, List.append_nil]
          refine h2 _ _ ?_
          try clear h2 K_h2
          refine T.regi hm ?_
          simp only [↓reduceIte, namesOf, List.any, I.names, aopsI, astep, ev, setd, List.set, List.getD, List.getElem?_cons_zero, List.getElem?_cons_succ, List.cons_append, List.nil_append, List.replicate, then_normal, Option.getD_some, Bool.or_false, Bool.false_eq_true, up_zero, binv, ↓opt_def, eq_self, hw]
          exact ⟨hil, _, _, Gh.keep [6, 25, 26, 27], .inl ⟨h0, hq0, rfl⟩, _, by rw [hxl]; rfl⟩
      · have hsrc := (hye.mono (σ' := σ2.up 4) ((o1.up 4).quiet wf)).src
        rcases hye with ⟨g2, rfl⟩ | ⟨m, rfl, hr⟩
        all_goals
          refine T.seq_k (fun K_h0 h0 => ?_)
          refine T.regi hm ?_
          simp only [↓reduceIte, namesOf, List.any, I.names, aopsI, astep, ev, setd, List.set, List.getD, List.getElem?_cons_zero, List.getElem?_cons_succ, List.cons_append, List.nil_append, List.length_cons, List.length_nil, List.replicate, then_normal, Option.getD_some, Bool.or_false, Bool.false_eq_true, up_zero, Nat.reduceAdd, ↓opt_def, AV.cells, ldc, Int.natCast_nonneg, lt_len, Int.toNat_natCast, and_true, eq_self, hy, hil']
          refine h0 _ _ ?_
          try clear h0 K_h0
          refine T.regi hm ?_
          simp only [↓reduceIte, namesOf, List.any, I.names, aopsI, astep, ev, setd, List.set, List.getD, List.getElem?_cons_zero, List.getElem?_cons_succ, List.cons_append, List.nil_append, List.length_cons, List.length_nil, List.replicate, then_normal, inBlock_normal, Option.getD_some, Bool.or_false, Bool.or_true, Nat.reduceAdd, eq_self, hsrc, o1.at_, St.up_res, bytesAV_app, ← hft, bytes_all, Bool.true_and]
          rw [if_pos (by rw [hft, List.length_append] at hle; simp only [bytesAV_len, decide_eq_true_eq]; omega)]
          have o2 : OneTip σ' (((σ2.up 4).del g1).set (σ2.next + 2) (Res.tip 1)) (σ2.next + 2) 1 := (o1.up 4).mv wf (by have := o1.lo; have := o1.hi; omega) (by simp)
          refine h2 _ _ ?_
          try clear h2 K_h2
          refine T.regi hm ?_
          simp only [↓reduceIte, namesOf, List.any, I.names, aopsI, astep, ev, setd, List.set, List.getD, List.getElem?_cons_zero, List.getElem?_cons_succ, List.cons_append, List.nil_append, List.replicate, then_normal, Option.getD_some, Bool.or_false, Bool.false_eq_true, up_zero, binv, ↓opt_def, eq_self, hw]
          exact ⟨hil, _, _, Gh.keep [6, 25, 26, 27], .inr ⟨_, o2, rfl⟩, _, by rw [hxl]; rfl⟩
    · refine T.exit ?_
      have : i = l.length := by simp at hb; omega
      subst this
      rw [List.take_length] at hv
      try simp only [List.getD, List.cons_append, List.nil_append, List.replicate, then_normal, inBlock_exit, then_exit]
      refine h1 _ _ ?_
      try clear h1 K_h1
      refine T.seq_k (fun K_h0 h0 => ?_)
      refine T.regi hm ?_
      simp only [↓reduceIte, namesOf, List.any, I.names, aopsI, astep, ev, setd, List.set, List.getD, List.getElem?_cons_zero, List.getElem?_cons_succ, then_normal, Option.getD_some, Bool.or_false, Bool.false_eq_true, up_zero]
      refine h0 _ _ ?_
      try clear h0 K_h0
      rcases hv with ⟨h0, hq0, rfl⟩ | ⟨g1, o1, rfl⟩
      · have : l.flatten = [] := List.eq_nil_of_length_eq_zero h0
        exact T.ret (Fin.quietw rfl (Wk.sl _ _) ⟨trivial, trivial⟩ hq0 ⟨by rw [this]; rfl, rfl⟩)
      · exact T.ret (Fin.quietw rfl (Wk.sl _ _) ⟨nb_bytes _ _, trivial⟩ (o1.quiet wf) ⟨rfl, rfl⟩)
end Go.VL

/- Contracts: a filter is made; one bit is set, and asked for. -/
namespace Go.VL
open Go.Proofs

/-- may a filter be? -/
def rightF (s b h : Int) : Bool := decide (1 ≤ s) && decide (s ≤ 16) && decide (8 ≤ b) && decide (b ≤ 4096) && decide (b.tmod 8 = 0) && decide (1 ≤ h) && decide (h ≤ 8)

def refs (k : Nat) (ns : List Nat) : List AV := ns.map fun n => .ref n 0 k
theorem refs_len (k : Nat) (ns : List Nat) : (refs k ns).length = ns.length := by simp [refs]
theorem refs_get {k : Nat} {ns : List Nat} {i n : Nat} (h : ns[i]? = some n) : (refs k ns)[i]? = some (.ref n 0 k) := by simp [refs, h]
theorem refs_app (k : Nat) (ns : List Nat) (n : Nat) : refs k ns ++ [.ref n 0 k] = refs k (ns ++ [n]) := by simp [refs]
theorem refs_fits (k : Nat) (ns : List Nat) : (refs k ns).all (AV.fits 1) = true := by simp [refs, AV.fits, AV.isAny, AV.cells, AV.one]
theorem refs_er (k : Nat) (ns : List Nat) : (refs k ns).map AV.er = refs k ns := by simp only [refs, List.map_map]; rfl

/-- a filter stands at p, its shards at ns -/
structure Bl (σ : St) (p : Nat) (ns : List Nat) (v : Ver) (bits hashes k : Nat) (rows : List (List UInt8)) : Prop where
  obj : σ.res p = some (.obj [.int .i64 bits, .int .i64 hashes, .sl (refs k ns) v])
  len : ns.length = rows.length
  nd : (p :: ns).Nodup
  row : ∀ (i n : Nat) (b : List UInt8), ns[i]? = some n → rows[i]? = some b → σ.res n = some (.obj (bytesAV b)) ∧ b.length = k
theorem Bl.mono {σ σ' : St} {p : Nat} {ns : List Nat} {v : Ver} {bits hashes k : Nat} {rows : List (List UInt8)} (h : Bl σ p ns v bits hashes k rows) (ho : ∀ n x, σ.res n = some x → σ'.res n = some x) : Bl σ' p ns v bits hashes k rows :=
  ⟨ho _ _ h.obj, h.len, h.nd, fun i n b h1 h2 => ⟨ho _ _ (h.row i n b h1 h2).1, (h.row i n b h1 h2).2⟩⟩

theorem zrow_av (k : Nat) : (List.replicate k (AV.int .u8 0)) = bytesAV (List.replicate k 0) := by simp [bytesAV]

theorem bnew_bad {s b h : Int} {σ : St} (hf : rightF s b h = false) : ACalls Try.prog n_bnew [.int .i64 s, .int .i64 b, .int .i64 h] σ (fun v σ' => v = .tup [.nilp, .iface tCode (.int .i64 1)] ∧ σ' = σ) := by
  refine s_bnew (fun wf => ?_)
  unfold c_bnew
  have h8 : ¬ ((8 : Int) = 0) := by decide
  refine T.seq_k (fun K_h0 h0 => ?_)
  refine T.regi hm ?_
  simp only [↓reduceIte, namesOf, List.any, I.names, aopsI, astep, ev, setd, List.set, List.cons_append, List.nil_append, List.length_cons, List.length_nil, List.replicate, then_normal, Bool.or_false, Bool.false_eq_true, up_zero, Nat.reduceAdd, Nat.reduceSub]
  refine h0 _ _ ?_
  try clear h0 K_h0
  refine T.seq_k (fun K_h1 h1 => ?_)
  have bad : ∀ ρ', keep [] 0 ρ' = List.replicate 58 .any → T Try.prog ann_bnew (.seq (.reg [⟨(some 36), (.mkI 39 (.c (.int .i64 1))), none⟩, ⟨(some 6), (.mv (.c .nilp)), none⟩, ⟨(some 7), (.mv (.t 36)), none⟩]) .ret) (Ex.then K_h1 (Fin σ [(.t 6), (.t 7)] (fun v σ' => v = .tup [.nilp, .iface tCode (.int .i64 1)] ∧ σ' = σ))) ρ' σ := by
    intro ρ' hρ
    refine T.gh (Gh.keep []) ?_
    rw [hρ]
    refine T.seq_k (fun K_h0 h0 => ?_)
    refine T.regi hm ?_
    simp only [↓reduceIte, namesOf, List.any, I.names, aopsI, astep, ev, setd, List.set, List.getD, List.getElem?_cons_zero, List.getElem?_cons_succ, List.replicate, then_normal, Option.getD_some, Bool.or_false, Bool.false_eq_true, up_zero]
    refine h0 _ _ ?_
    try clear h0 K_h0
    exact T.ret (Fin.ret rfl ⟨rfl, rfl⟩)
  by_cases d1 : s < 1
  · have e1 : decide (s < 1) = true := decide_eq_true d1
    refine T.seq_k (fun K_h0 h0 => ?_)
    refine T.regi hm ?_
    simp only [↓reduceIte, namesOf, List.any, I.names, aopsI, astep, ev, setd, List.set, List.getD, List.getElem?_cons_zero, List.getElem?_cons_succ, then_normal, Option.getD_some, Bool.or_false, Bool.false_eq_true, up_zero, binv, ↓opt_def, eq_self, reduceCtorEq, e1]
    refine h0 _ _ ?_
    try clear h0 K_h0
    refine T.cond rfl (fun _ => ?_) (fun h => by cases h)
    exact bad _ rfl
  have e1 : decide (s < 1) = false := decide_eq_false d1
  by_cases d2 : s > 16
  · have e2 : decide (s > 16) = true := decide_eq_true d2
    refine T.seq_k (fun K_h0 h0 => ?_)
    refine T.regi hm ?_
    simp only [↓reduceIte, namesOf, List.any, I.names, aopsI, astep, ev, setd, List.set, List.getD, List.getElem?_cons_zero, List.getElem?_cons_succ, then_normal, Option.getD_some, Bool.or_false, Bool.false_eq_true, up_zero, binv, ↓opt_def, eq_self, reduceCtorEq, e1, e2]
    refine h0 _ _ ?_
    try clear h0 K_h0
    refine T.cond rfl (fun _ => ?_) (fun h => by cases h)
    exact bad _ rfl
  have e2 : decide (s > 16) = false := decide_eq_false d2
  by_cases d3 : b < 8
  · have e3 : decide (b < 8) = true := decide_eq_true d3
    refine T.seq_k (fun K_h0 h0 => ?_)
    refine T.regi hm ?_
    simp only [↓reduceIte, namesOf, List.any, I.names, aopsI, astep, ev, setd, List.set, List.getD, List.getElem?_cons_zero, List.getElem?_cons_succ, then_normal, Option.getD_some, Bool.or_false, Bool.false_eq_true, up_zero, binv, ↓opt_def, eq_self, reduceCtorEq, e1, e2, e3]
    refine h0 _ _ ?_
    try clear h0 K_h0
    refine T.cond rfl (fun _ => ?_) (fun h => by cases h)
    exact bad _ rfl
  have e3 : decide (b < 8) = false := decide_eq_false d3
  by_cases d4 : b > 4096
  · have e4 : decide (b > 4096) = true := decide_eq_true d4
    refine T.seq_k (fun K_h0 h0 => ?_)
    refine T.regi hm ?_
    simp only [↓reduceIte, namesOf, List.any, I.names, aopsI, astep, ev, setd, List.set, List.getD, List.getElem?_cons_zero, List.getElem?_cons_succ, then_normal, Option.getD_some, Bool.or_false, Bool.false_eq_true, up_zero, binv, ↓opt_def, eq_self, reduceCtorEq, e1, e2, e3, e4]
    refine h0 _ _ ?_
    try clear h0 K_h0
    refine T.cond rfl (fun _ => ?_) (fun h => by cases h)
    exact bad _ rfl
  have e4 : decide (b > 4096) = false := decide_eq_false d4
  by_cases d5 : b.tmod 8 = 0
  case neg =>
    have e5 : (b.tmod 8 != 0) = true := by simpa using d5
    refine T.seq_k (fun K_h0 h0 => ?_)
    refine T.regi hm ?_
    simp only [↓reduceIte, namesOf, List.any, I.names, aopsI, astep, ev, setd, List.set, List.getD, List.getElem?_cons_zero, List.getElem?_cons_succ, then_normal, Option.getD_some, Bool.or_false, Bool.false_eq_true, up_zero, binv, ↓opt_def, eq_self, reduceCtorEq, e1, e2, e3, e4, e5, h8]
    refine h0 _ _ ?_
    try clear h0 K_h0
    refine T.cond rfl (fun _ => ?_) (fun h => by cases h)
    exact bad _ rfl
  have e5 : (b.tmod 8 != 0) = false := by simpa using d5
  by_cases d6 : h < 1
  · have e6 : decide (h < 1) = true := decide_eq_true d6
    refine T.seq_k (fun K_h0 h0 => ?_)
    refine T.regi hm ?_
    simp only [↓reduceIte, namesOf, List.any, I.names, aopsI, astep, ev, setd, List.set, List.getD, List.getElem?_cons_zero, List.getElem?_cons_succ, then_normal, Option.getD_some, Bool.or_false, Bool.false_eq_true, up_zero, binv, ↓opt_def, eq_self, reduceCtorEq, e1, e2, e3, e4, e5, h8, e6]
    refine h0 _ _ ?_
    try clear h0 K_h0
    refine T.cond rfl (fun _ => ?_) (fun h => by cases h)
    exact bad _ rfl
  have e6 : decide (h < 1) = false := decide_eq_false d6
  have d7 : h > 8 := by
    rcases Int.lt_or_le 8 h with hh | hh
    · exact hh
    · exfalso
      have : rightF s b h = true := by
        unfold rightF
        simp only [Bool.and_eq_true, decide_eq_true_eq]
        omega
      rw [this] at hf; cases hf
  have e7 : decide (h > 8) = true := decide_eq_true d7
  refine T.seq_k (fun K_h0 h0 => ?_)
  refine T.regi hm ?_
  simp only [↓reduceIte, namesOf, List.any, I.names, aopsI, astep, ev, setd, List.set, List.getD, List.getElem?_cons_zero, List.getElem?_cons_succ, then_normal, Option.getD_some, Bool.or_false, Bool.false_eq_true, up_zero, binv, ↓opt_def, eq_self, e1, e2, e3, e4, e5, h8, e6, e7]
  refine h0 _ _ ?_
  try clear h0 K_h0
  refine T.cond rfl (fun _ => ?_) (fun h => by cases h)
  exact bad _ rfl

set_option maxRecDepth 10000 in
set_option maxHeartbeats 1000000 in
theorem bnew_ok {s k h : Nat} {σ : St} (hs : 1 ≤ s ∧ s ≤ 16) (hk : 1 ≤ k ∧ k ≤ 512) (hh : 1 ≤ h ∧ h ≤ 8) :
    ACalls Try.prog n_bnew [.int .i64 s, .int .i64 (8 * k : Nat), .int .i64 h] σ (fun v σ' => ∃ p ns w, v = .tup [.ptr p 0, .nili] ∧ Bl σ' p ns w (8 * k) h k (List.replicate s (List.replicate k 0)) ∧ σ.next ≤ p ∧ p < σ'.next ∧ (∀ n ∈ ns, σ.next ≤ n ∧ n < σ'.next) ∧ ∀ n x, σ.res n = some x → σ'.res n = some x) := by
  refine s_bnew (fun wf => ?_)
  unfold c_bnew
  have h8 : ¬ ((8 : Int) = 0) := by decide
  have e1 : decide ((s : Int) < 1) = false := decide_eq_false (by omega)
  have e2 : decide ((s : Int) > 16) = false := decide_eq_false (by omega)
  have e3 : decide (((8 * k : Nat) : Int) < 8) = false := decide_eq_false (by omega)
  have e4 : decide (((8 * k : Nat) : Int) > 4096) = false := decide_eq_false (by omega)
  have e5 : ((((8 * k : Nat) : Int).tmod 8) != 0) = false := by
    have : (((8 * k : Nat) : Int).tmod 8) = (((8 * k) % 8 : Nat) : Int) := rfl
    rw [this, Nat.mul_mod_right]; rfl
  have e6 : decide ((h : Int) < 1) = false := decide_eq_false (by omega)
  have e7 : decide ((h : Int) > 8) = false := decide_eq_false (by omega)
  refine T.seq_k (fun K_h0 h0 => ?_)
  refine T.regi hm ?_
  simp only [↓reduceIte, namesOf, List.any, I.names, aopsI, astep, ev, setd, List.set, List.cons_append, List.nil_append, List.length_cons, List.length_nil, List.replicate, then_normal, Bool.or_false, Bool.false_eq_true, up_zero, Nat.reduceAdd, Nat.reduceSub]
  refine h0 _ _ ?_
  try clear h0 K_h0
  refine T.seq_k (fun K_h1 h1 => ?_)
  refine T.seq_k (fun K_h0 h0 => ?_)
  refine T.regi hm ?_
  simp only [↓reduceIte, namesOf, List.any, I.names, aopsI, astep, ev, setd, List.set, List.getD, List.getElem?_cons_zero, List.getElem?_cons_succ, then_normal, Option.getD_some, Bool.or_false, Bool.false_eq_true, up_zero, binv, ↓opt_def, eq_self, e1, e2, e3, e4, e5, h8, e6, e7]
  refine h0 _ _ ?_
  try clear h0 K_h0
  refine T.cond rfl (fun h => by cases h) (fun _ => T.skip ?_)
  refine h1 _ _ ?_
  try clear h1 K_h1
  refine T.seq_k (fun K_h1 h1 => ?_)
  refine T.regi hm ?_
  simp only [↓reduceIte, namesOf, List.any, I.names, aopsI, astep, ev, setd, List.set, List.getD, List.getElem?_cons_zero, List.getElem?_cons_succ, List.cons_append, List.nil_append, List.length_cons, List.length_nil, then_normal, Option.getD_some, Bool.or_false, Bool.or_true, Bool.false_eq_true, Nat.reduceAdd, ↓opt_def, AV.isAny, AV.cells, eq_self, fillA, Option.map, AV.fits, AV.one, List.all_cons, List.all_nil, Nat.reduceBEq, Bool.not_false, Bool.and_self, Nat.zero_add, splice, List.take, List.drop, Nat.reduceLeDiff, and_self]
  have hlt : ∀ n x, σ.res n = some x → n < σ.next := fun n x hr => by
    rcases Nat.lt_or_ge n σ.next with h' | h'
    · exact h'
    · rw [wf n h'] at hr; cases hr
  have q0 := set_quiet wf (Nat.le_refl _) (fun _ _ h => h) (k := 5) (.obj [.int .i64 (8 * k : Nat), .int .i64 h, .sl [] .nil]) (a := σ.next + 3) (by omega)
  have b0 : Bl ((σ.up 5).set (σ.next + 3) (.obj [.int .i64 (8 * k : Nat), .int .i64 h, .sl [] .nil])) (σ.next + 3) [] .nil (8 * k) h k [] :=
    ⟨by simp [refs], rfl, by simp, fun i n b h1 _ => by simp at h1⟩
  have n0 : ((σ.up 5).set (σ.next + 3) (.obj [.int .i64 (8 * k : Nat), .int .i64 h, .sl [] .nil])).next = σ.next + 5 := rfl
  generalize ((σ.up 5).set (σ.next + 3) (.obj [.int .i64 (8 * k : Nat), .int .i64 h, .sl [] .nil])) = σ1 at q0 b0 n0 ⊢
  have hp0 : σ.next ≤ σ.next + 3 := by omega
  have hp1 : σ.next + 3 < σ1.next := by omega
  generalize σ.next + 3 = p at b0 hp0 hp1 ⊢
  refine h1 _ _ ?_
  try clear h1 K_h1
  refine T.seq_k (fun K_h1 h1 => ?_)
  refine T.seq_k (fun K_h0 h0 => ?_)
  refine T.regi hm ?_
  simp only [↓reduceIte, namesOf, List.any, I.names, aopsI, astep, ev, setd, List.set, List.getD, List.getElem?_cons_zero, then_normal, Option.getD_some, Bool.or_false, Bool.false_eq_true, up_zero]
  refine h0 _ _ ?_
  try clear h0 K_h0
  refine T.block ?_
  refine T.gh (Gh.keep [1, 8, 41, 42]) ?_
  refine T.loopi (fun i ρ t => ∃ ns v, Bl t p ns v (8 * k) h k (List.replicate i (List.replicate k 0)) ∧ (∀ n ∈ ns, σ.next ≤ n ∧ n < t.next) ∧ p < t.next ∧ ((v = .nil ∧ i = 0) ∨ ∃ g, v = .tip g ∧ t.res g = some (.tip 1) ∧ σ.next ≤ g ∧ g < t.next) ∧
      (∀ n x, σ.res n = some x → t.res n = some x) ∧ σ.next ≤ t.next ∧ ρ = [.any, .int .i64 (8 * k : Nat), .any, .any, .any, .any, .any, .any, .ptr p 0] ++ List.replicate 32 .any ++ [.int .i64 s, .int .i64 (i : Int)] ++ List.replicate 15 .any)
    s 0 (Nat.zero_le _) ⟨[], .nil, b0, by simp, hp1, .inl ⟨rfl, rfl⟩, q0, by omega, rfl⟩ ?_
  clear q0 b0 n0 hp1 σ1
  rintro i ρ t hi ⟨ns, v, hB, hns, hpt, hv, ho, hn, rfl⟩
  refine T.seq_k (fun K_h0 h0 => ?_)
  refine T.regi hm ?_
  simp only [↓reduceIte, namesOf, List.any, I.names, aopsI, astep, ev, setd, List.set, List.getD, List.getElem?_cons_zero, List.getElem?_cons_succ, List.cons_append, List.nil_append, List.replicate, then_normal, Option.getD_some, Bool.or_false, Bool.false_eq_true, up_zero, binv, ↓opt_def, eq_self, reduceCtorEq]
  refine h0 _ _ ?_
  try clear h0 K_h0
  refine T.seq_k (fun K_h2 h2 => ?_)
  by_cases hil : i < s
  case neg =>
    refine T.cond (b := false) (by simp [ev]; omega) (fun h => by cases h) (fun _ => T.exit ?_)
    have : i = s := by omega
    subst this
    try simp only [List.cons_append, List.nil_append, List.replicate, then_normal, reduceCtorEq, inBlock_exit, then_exit]
    refine h1 _ _ ?_
    try clear h1 K_h1
    refine T.seq_k (fun K_h0 h0 => ?_)
    refine T.regi hm ?_
    simp only [↓reduceIte, namesOf, List.any, I.names, aopsI, astep, ev, setd, List.set, List.getD, List.getElem?_cons_zero, List.getElem?_cons_succ, then_normal, Option.getD_some, Bool.or_false, Bool.false_eq_true, up_zero]
    refine h0 _ _ ?_
    try clear h0 K_h0
    exact T.ret (Fin.ret rfl ⟨p, ns, v, rfl, hB, hp0, hpt, hns, ho⟩)
  refine T.cond (b := true) (by simp [ev]; omega) (fun _ => T.skip ?_) (fun h => by cases h)
  refine h2 _ _ ?_
  try clear h2 K_h2
  refine T.seq_k (fun K_h2 h2 => ?_)
  refine T.block ?_
  have ek : IntKind.i64.wrap ((((8 * k : Nat) : Int)).tdiv 8) = (k : Int) := by
    have : (((8 * k : Nat) : Int).tdiv 8) = (((8 * k) / 8 : Nat) : Int) := rfl
    rw [this, Nat.mul_div_cancel_left _ (by decide)]
    exact wrap64 (by omega) (by omega)
  have hq : p + 4 < t.next + 4 := by omega
  have hkk : ((0 : Int) ≤ (k : Int) ∧ (k : Int) ≤ (k : Int) ∧ (k : Int) * ((1 : Nat) : Int) ≤ 140737488355328 ∧ (k : Int) ≤ 9223372036854775807 ∧ AV.fits 1 (.int .u8 0) = true ∧ (k : Int) = (k : Int)) :=
    ⟨by omega, by omega, by omega, by omega, rfl, rfl⟩
  have hnl : ns.length = i := by have := hB.len; simpa using this
  have hobj := hB.obj
  have hnp : ∀ n ∈ ns, n ≠ p := fun n hn e => by subst e; exact (List.nodup_cons.1 hB.nd).1 hn
  have hle' : decide ((ns.length + 1) * 24 ≤ 70368744177664 ∧ ns.length ≤ 4611686018427387903) = true := decide_eq_true (by omega)
  have hiw := inc64' hil (by omega)
  -- what stands behind the round
  have nxt : ∀ (t2 : St) (w : Ver) (ρ' : List AV), t2.next = t.next + 13 → t2.res (t.next + 7) = some (.obj (bytesAV (List.replicate k 0))) → (∀ n x, n ∈ ns → t.res n = some x → t2.res n = some x) → (∀ n x, σ.res n = some x → t2.res n = some x) →
      t2.res p = some (.obj [.int .i64 (8 * k : Nat), .int .i64 h, .sl (refs k (ns ++ [t.next + 7])) (.tip (t.next + 9))]) → t2.res (t.next + 9) = some (.tip 1) →
      keep [1, 8, 41, 42] 0 ρ' = [.any, .int .i64 (8 * k : Nat), .any, .any, .any, .any, .any, .any, .ptr p 0] ++ List.replicate 32 .any ++ [.int .i64 s, .int .i64 (i : Int)] ++ List.replicate 15 .any → K_h2 ρ' t2 := by
    intro t2 w ρ' g1 g2 g3 g4 g5 g6 hρ
    refine h2 _ _ ?_
    try clear h2 K_h2
    refine T.gh (Gh.keep [1, 8, 41, 42]) ?_
    rw [hρ]
    refine T.regi hm ?_
    simp only [↓reduceIte, namesOf, List.any, I.names, aopsI, astep, ev, setd, List.set, List.getD, List.getElem?_cons_zero, List.getElem?_cons_succ, List.cons_append, List.nil_append, List.replicate, then_normal, Option.getD_some, Bool.or_false, Bool.false_eq_true, up_zero, binv, ↓opt_def, eq_self, reduceCtorEq, hiw]
    refine ⟨hil, _, _, Gh.keep [1, 8, 41, 42], ns ++ [t.next + 7], .tip (t.next + 9), ⟨g5, by simp [hnl], ?_, fun j n b h1 h2 => ?_⟩, fun n hn => ?_, by omega, .inr ⟨_, rfl, g6, by omega, by omega⟩, g4, by omega, rfl⟩
    · rw [← List.cons_append]
      refine List.nodup_append.2 ⟨hB.nd, by simp, fun a ha b hb => ?_⟩
      simp only [List.mem_singleton] at hb
      subst hb
      rcases List.mem_cons.1 ha with rfl | ha
      · omega
      · have := hns a ha; omega
    · rw [List.getElem?_append] at h1
      rw [← List.replicate_succ, List.getElem?_replicate] at h2
      split at h2
      · simp only [Option.some.injEq] at h2; subst h2
        split at h1
        · rename_i hji hjl
          refine ⟨g3 n _ (List.mem_of_getElem? h1) (hB.row j n (List.replicate k 0) h1 (by rw [List.getElem?_replicate, if_pos (by omega)])).1, by simp⟩
        · have : j - ns.length = 0 := by omega
          rw [this] at h1
          simp at h1; subst h1
          exact ⟨g2, by simp⟩
      · cases h2
    · rcases List.mem_append.1 hn with hn | hn
      · have := hns n hn; omega
      · simp only [List.mem_singleton] at hn; omega
  rcases hv with ⟨rfl, h0⟩ | ⟨g, rfl, hg, hg0, hg1⟩
  · have hns0 : ns = [] := List.eq_nil_of_length_eq_zero (by omega)
    have hpp : (((t.up 13).set (t.next + 7) (.obj (bytesAV (List.replicate k 0)))).set (t.next + 9) (.tip 1)).res p = some (.obj [.int .i64 (8 * k : Nat), .int .i64 h, .sl (refs k ns) .nil]) := by
      rw [St.set_other _ _ (by omega), St.set_other _ _ (by omega)]; exact hobj
    refine T.regi hm ?_
    simp only [↓reduceIte, namesOf, List.any, I.names, aopsI, astep, ev, setd, List.set, List.getD, List.getElem?_cons_zero, List.getElem?_cons_succ, List.cons_append, List.nil_append, List.length_cons, List.length_nil, List.replicate, then_normal, inBlock_normal, Option.getD_some, Bool.or_false, Bool.or_true, Bool.false_eq_true, Nat.reduceAdd, binv, ↓opt_def, AV.isAny, AV.cells, ldc, List.map_cons, List.map_nil, Int.toNat_natCast, and_true, eq_self, reduceCtorEq, decide_true, hobj, hq, ek, h8, hkk, held, List.length_replicate, St.up_res, zrow_av, bytes_flat, srcOf, AV.er, AV.er1, refs_app, refs_len, refs_fits, List.isEmpty, hle', hpp, bytesAV_len, AV.fits, AV.one, List.all_cons, List.all_nil, Nat.reduceBEq, Bool.not_false, Bool.and_self, Nat.zero_add, splice, List.take, List.drop, Nat.reduceLeDiff]
    subst hns0
    refine nxt _ .nil _ rfl ?_ (fun n x hn => by cases hn) (fun n x hr => ?_) (by simp [refs]) ?_ rfl
    · rw [St.set_other _ _ (by omega), St.set_other _ _ (by omega)]; simp
    · have := hlt n x hr
      rw [St.set_other _ _ (by omega), St.set_other _ _ (by omega), St.set_other _ _ (by omega)]; exact ho n x hr
    · rw [St.set_other _ _ (by omega)]; simp
  · have hgp : g ≠ p := by rintro rfl; rw [hobj] at hg; cases hg
    have hgn : ∀ n ∈ ns, n ≠ g := by
      rintro n hn rfl
      obtain ⟨j, hj⟩ := List.getElem?_of_mem hn
      have hjl : j < i := by rw [← hnl]; exact (List.getElem?_eq_some_iff.1 hj).1
      have := (hB.row j n (List.replicate k 0) hj (by rw [List.getElem?_replicate, if_pos hjl])).1
      rw [hg] at this; cases this
    have hgg : ((t.up 13).set (t.next + 7) (.obj (bytesAV (List.replicate k 0)))).res g = some (.tip 1) := by
      rw [St.set_other _ _ (by omega)]; exact hg
    have hdel : ∀ (u : St) n, n ≠ g → (u.del g).res n = u.res n := fun u n h => by simp [St.del, h]
    have hpp : ((((t.up 13).set (t.next + 7) (.obj (bytesAV (List.replicate k 0)))).del g).set (t.next + 9) (.tip 1)).res p = some (.obj [.int .i64 (8 * k : Nat), .int .i64 h, .sl (refs k ns) (.tip g)]) := by
      rw [St.set_other _ _ (by omega), hdel _ _ (Ne.symm hgp), St.set_other _ _ (by omega)]; exact hobj
    refine T.regi hm ?_
    simp only [↓reduceIte, namesOf, List.any, I.names, aopsI, astep, ev, setd, List.set, List.getD, List.getElem?_cons_zero, List.getElem?_cons_succ, List.cons_append, List.nil_append, List.length_cons, List.length_nil, List.replicate, then_normal, inBlock_normal, Option.getD_some, Bool.or_false, Bool.or_true, Nat.reduceAdd, binv, ↓opt_def, AV.isAny, AV.cells, ldc, List.map_cons, List.map_nil, Int.toNat_natCast, and_true, eq_self, reduceCtorEq, decide_true, hobj, hq, ek, h8, hkk, held, List.length_replicate, St.up_res, zrow_av, bytes_flat, srcOf, AV.er, AV.er1, refs_app, refs_len, refs_fits, hle', hgg, hpp, bytesAV_len, AV.fits, AV.one, List.all_cons, List.all_nil, Nat.reduceBEq, Bool.not_false, Bool.and_self, Nat.zero_add, splice, List.take, List.drop, Nat.reduceLeDiff]
    refine nxt _ .nil _ rfl ?_ (fun n x hn hr => ?_) (fun n x hr => ?_) (by simp) ?_ rfl
    · rw [St.set_other _ _ (by omega), St.set_other _ _ (by omega), hdel _ _ (by omega)]; simp
    · have := hns n hn
      rw [St.set_other _ _ (hnp n hn), St.set_other _ _ (by omega), hdel _ _ (hgn n hn), St.set_other _ _ (by omega)]; exact hr
    · have := hlt n x hr
      rw [St.set_other _ _ (by omega), St.set_other _ _ (by omega), hdel _ _ (by omega), St.set_other _ _ (by omega)]; exact ho n x hr
    · rw [St.set_other _ _ (by omega)]; simp
end Go.VL

/- Contracts: a filter's bits: set, and asked for. -/
namespace Go.VL
open Go.Proofs

def orBit (b : UInt8) (j : Nat) : UInt8 := UInt8.ofNat (b.toNat ||| 2 ^ j)
def setBit (row : List UInt8) (a : Nat) : List UInt8 := row.set (a / 8) (orBit (row.getD (a / 8) 0) (a % 8))
def getBit (row : List UInt8) (a : Nat) : Bool := (row.getD (a / 8) 0).toNat.testBit (a % 8)
theorem setBit_len (row : List UInt8) (a : Nat) : (setBit row a).length = row.length := by simp [setBit]

theorem orBit_int : ∀ (b : _root_.Fin 256) (j : _root_.Fin 8), IntKind.u8.wrap ((BitVec.ofInt IntKind.u8.bits ((b.val : Nat) : Int) ||| BitVec.ofInt IntKind.u8.bits (IntKind.u8.wrap ((1 : Int) * 2 ^ min j.val IntKind.u8.bits))).toNat) = (((b.val ||| 2 ^ j.val) : Nat) : Int) := by decide +kernel
theorem orBit_eq (b : UInt8) (j : Nat) (hj : j < 8) : IntKind.u8.wrap ((BitVec.ofInt IntKind.u8.bits (b.toNat : Int) ||| BitVec.ofInt IntKind.u8.bits (IntKind.u8.wrap ((1 : Int) * 2 ^ min j IntKind.u8.bits))).toNat) = ((orBit b j).toNat : Int) := by
  have h := orBit_int ⟨b.toNat, b.toNat_lt⟩ ⟨j, hj⟩
  simp only at h
  rw [h]
  unfold orBit
  rw [UInt8.toNat_ofNat', Nat.mod_eq_of_lt]
  exact Nat.or_lt_two_pow (n := 8) b.toNat_lt (by
    have : 2 ^ j < 2 ^ 8 := Nat.pow_lt_pow_right (by decide) hj
    exact this)
theorem testBit_int : ∀ (b : _root_.Fin 256) (j : _root_.Fin 8), (IntKind.u8.wrap ((BitVec.ofInt IntKind.u8.bits (Int.fdiv ((b.val : Nat) : Int) (2 ^ min j.val IntKind.u8.bits)) &&& BitVec.ofInt IntKind.u8.bits 1).toNat) == 1) = b.val.testBit j.val := by decide +kernel
theorem testBit_eq (b : UInt8) (j : Nat) (hj : j < 8) : (IntKind.u8.wrap ((BitVec.ofInt IntKind.u8.bits (Int.fdiv (b.toNat : Int) (2 ^ min j IntKind.u8.bits)) &&& BitVec.ofInt IntKind.u8.bits 1).toNat) == 1) = b.toNat.testBit j :=
  testBit_int ⟨b.toNat, b.toNat_lt⟩ ⟨j, hj⟩

theorem tdiv8 (a : Nat) : ((a : Int)).tdiv 8 = ((a / 8 : Nat) : Int) := rfl
theorem tmod8 (a : Nat) : ((a : Int)).tmod 8 = ((a % 8 : Nat) : Int) := rfl
theorem badd1_ok {row : List UInt8} {a n : Nat} {σ : St} (hr : σ.res n = some (.obj (bytesAV row))) (ha : a / 8 < row.length) (hl : row.length ≤ 1000000) :
    ACalls Try.prog n_badd1 [.ref n 0 row.length, .int .i64 a] σ (fun v σ' => v = .tup [] ∧ σ' = σ.set n (.obj (bytesAV (setBit row a)))) := by
  refine s_badd1 (fun wf => ?_)
  unfold c_badd1
  have h8 : ¬ ((8 : Int) = 0) := by decide
  have h80 : ¬ (((a % 8 : Nat) : Int) < 0) := by omega
  have e1 : IntKind.i64.wrap ((a / 8 : Nat) : Int) = ((a / 8 : Nat) : Int) := wrap64 (by omega) (by omega)
  have e2 : ((a / 8 : Nat) : Int) < (row.length : Int) := by omega
  have e3 := bytes_get ha
  have e4 := orBit_eq row[a / 8] (a % 8) (Nat.mod_lt _ (by decide))
  have e5 : a / 8 + 1 ≤ row.length := by omega
  refine T.regi hm ?_
  simp only [↓reduceIte, namesOf, List.any, I.names, aopsI, astep, ev, setd, List.set, List.getD, List.getElem?_cons_zero, List.getElem?_cons_succ, List.cons_append, List.nil_append, List.length_cons, List.length_nil, List.replicate, Option.getD_some, Bool.or_false, Bool.false_eq_true, up_zero, Nat.reduceAdd, Nat.reduceSub, binv, ↓opt_def, AV.isAny, AV.cells, ldc, Int.natCast_nonneg, Int.toNat_natCast, and_true, eq_self, decide_true, hr, tdiv8, tmod8, e1, e2, e3, h8, h80, e4, e5, Nat.zero_add, Nat.mul_one, AV.fits, AV.one, List.all_cons, List.all_nil, Nat.reduceBEq, Bool.not_false, Bool.and_self, bytesAV_len]
  refine Fin.retn rfl ⟨rfl, ?_⟩
  congr 2
  unfold splice setBit bytesAV
  rw [List.map_set, List.set_eq_take_append_cons_drop, if_pos (by simpa using ha)]
  have : row.getD (a / 8) 0 = row[a / 8] := by simp [ha]
  rw [this]
  simp

theorem bhas1_ok {row : List UInt8} {a n c : Nat} {b : Bool} {σ : St} (hr : σ.res n = some (.obj (bytesAV row))) (hc : σ.res c = some (.obj [.bool b])) (ha : a / 8 < row.length) (hl : row.length ≤ 1000000) :
    ACalls Try.prog n_bhas1 [.ref n 0 row.length, .int .i64 a, .ptr c 0] σ (fun v σ' => v = .tup [] ∧ σ' = σ.set c (.obj [.bool (b && getBit row a)])) := by
  refine s_bhas1 (fun wf => ?_)
  unfold c_bhas1
  have h8 : ¬ ((8 : Int) = 0) := by decide
  have h80 : ¬ (((a % 8 : Nat) : Int) < 0) := by omega
  have e1 : IntKind.i64.wrap ((a / 8 : Nat) : Int) = ((a / 8 : Nat) : Int) := wrap64 (by omega) (by omega)
  have e2 : ((a / 8 : Nat) : Int) < (row.length : Int) := by omega
  have e3 := bytes_get ha
  have e4 := testBit_eq row[a / 8] (a % 8) (Nat.mod_lt _ (by decide))
  have e6 : getBit row a = row[a / 8].toNat.testBit (a % 8) := by unfold getBit; simp [ha]
  cases b with
  | false =>
    refine T.regi hm ?_
    simp only [↓reduceIte, namesOf, List.any, I.names, aopsI, astep, ev, setd, List.set, List.getD, List.getElem?_cons_zero, List.getElem?_cons_succ, List.cons_append, List.nil_append, List.length_cons, List.length_nil, List.replicate, Option.getD_some, Bool.or_false, Bool.false_eq_true, up_zero, Nat.reduceAdd, Nat.reduceSub, ↓opt_def, AV.isAny, AV.cells, ldc, eq_self, decide_true, hc, AV.fits, AV.one, List.all_cons, List.all_nil, Nat.reduceBEq, Bool.not_false, Bool.and_self, Nat.zero_add, splice, List.take, List.drop, Nat.reduceLeDiff]
    exact Fin.retn rfl ⟨rfl, rfl⟩
  | true =>
    refine T.regi hm ?_
    simp only [↓reduceIte, namesOf, List.any, I.names, aopsI, astep, ev, setd, List.set, List.getD, List.getElem?_cons_zero, List.getElem?_cons_succ, List.cons_append, List.nil_append, List.length_cons, List.length_nil, List.replicate, Option.getD_some, Bool.or_false, Bool.false_eq_true, up_zero, Nat.reduceAdd, Nat.reduceSub, binv, ↓opt_def, AV.isAny, AV.cells, ldc, Int.natCast_nonneg, Int.toNat_natCast, and_true, eq_self, decide_true, hr, hc, tdiv8, tmod8, e1, e2, e3, h8, h80, e4, Nat.zero_add, Nat.mul_one, AV.fits, AV.one, List.all_cons, List.all_nil, Nat.reduceBEq, Bool.not_false, Bool.and_self, Nat.zero_add, splice, List.take, List.drop, Nat.reduceLeDiff]
    exact Fin.retn rfl ⟨rfl, by rw [e6]; rfl⟩

/-- an Id's places -/
def placeB (id bits i : Nat) : Nat := (crcOf (beB 8 id) + i * crcOf (beB 8 id ++ [1])) % bits

set_option maxRecDepth 10000 in
set_option maxHeartbeats 1000000 in
theorem beach_ok {σ : St} {p : Nat} {ns : List Nat} {v : Ver} {bits hashes k : Nat} {rows : List (List UInt8)} {id : Nat} (hB : Bl σ p ns v bits hashes k rows) (hb : 1 ≤ bits ∧ bits ≤ 4096) (hh : hashes ≤ 8) (hl : 1 ≤ rows.length ∧ rows.length ≤ 16) (_ : id < 18446744073709551616)
    {f s : Nat} {cap : List AV} (hs : ns[id % rows.length]? = some s) (S : Nat → St) (hS0 : S 0 = σ) (hSn : ∀ i, (S i).next = σ.next) (hSp : ∀ i, (S i).res p = σ.res p)
    (step : ∀ i τ, i < hashes → Like (S i) τ → ACalls Try.prog f ([.ref s 0 k, .int .i64 (placeB id bits i)] ++ cap) τ (fun _ τ' => Like (S (i + 1)) τ')) :
    ACalls Try.prog n_beach [.ptr p 0, .int .u64 id, .func f [] cap] σ (fun _ τ => Like (S hashes) τ) := by
  refine s_beach (fun wf => ?_)
  unfold c_beach
  have hp := wf.lt hB.obj
  have hx := crcOf_lt (beB 8 id)
  have hy := crcOf_lt (beB 8 id ++ [1])
  refine T.seq_k (fun K_h1 h1 => ?_)
  have hnil : AV.sl [] .nil = .sl (bytesAV []) .nil := rfl
  rw [hnil]
  refine T.regi hm ?_
  simp only [↓reduceIte, namesOf, List.any, I.names, aopsI, astep, ev, setd, List.set, List.getD, List.getElem?_cons_zero, List.getElem?_cons_succ, List.cons_append, List.nil_append, List.length_cons, List.length_nil, List.replicate, then_normal, Option.getD_some, Bool.or_false, Bool.false_eq_true, up_zero, Nat.reduceAdd, Nat.reduceSub, ↓opt_def, List.map_cons, List.map_nil]
  refine (wput_ok (l := []) (w := 8) (by simp) rfl (fun h => by omega)).mono ?_
  rintro w σ1 ⟨h, o1, rfl⟩
  rw [List.nil_append]
  try simp only [List.getElem?_cons_zero, List.getElem?_cons_succ]
  refine h1 _ _ ?_
  try clear h1 K_h1
  refine T.seq_k (fun K_h1 h1 => ?_)
  refine T.seq_k (fun K_h0 h0 => ?_)
  refine T.regi hm ?_
  simp only [↓reduceIte, namesOf, List.any, I.names, aopsI, astep, ev, setd, List.set, List.getD, List.getElem?_cons_zero, List.getElem?_cons_succ, then_normal, Option.getD_some, Bool.or_false, Bool.false_eq_true, up_zero, eq_self, eqIv, bne_self_eq_false]
  refine h0 _ _ ?_
  try clear h0 K_h0
  refine T.cond rfl (fun h => by cases h) (fun _ => T.skip ?_)
  refine h1 _ _ ?_
  try clear h1 K_h1
  refine T.seq_k (fun K_h1 h1 => ?_)
  refine T.regi hm ?_
  simp only [↓reduceIte, namesOf, List.any, I.names, aopsI, astep, ev, setd, List.set, List.getD, List.getElem?_cons_zero, List.getElem?_cons_succ, List.length_cons, List.length_nil, then_normal, Option.getD_some, Bool.or_false, Bool.or_true, Nat.reduceAdd, List.map_cons, List.map_nil, eq_self]
  refine (csum_ok (by rw [beB_len]; omega)).mono ?_
  rintro w σ2 ⟨rfl, rfl⟩
  have hb1 : [AV.int .u8 1] = bytesAV [1] := rfl
  have hat : (σ1.up 10).res h = some (.tip 1) := o1.at_
  try simp only [↓reduceIte, List.length_cons, List.length_nil, Nat.reduceAdd, eq_self, decide_true, held, u64_crc, hb1, bytesAV_er, srcOf, bytesAV_app, bytes_all, hat, Bool.and_self, bytesAV_len, beB_len, Nat.reduceMul, Nat.reduceLeDiff, and_self]
  refine (csum_ok (by simp [beB_len])).mono ?_
  rintro w σ2 ⟨rfl, rfl⟩
  try simp only [u64_crc]
  have k0 : Like σ (((σ1.up 10).del h).set (σ1.next + 5) (Res.tip 1)) := (((Like.one o1).up 10).del o1.lo).set _ (by have := o1.lo; have := o1.hi; omega)
  generalize (((σ1.up 10).del h).set (σ1.next + 5) (Res.tip 1)) = τ at k0 ⊢
  clear hat o1
  refine h1 _ _ ?_
  try clear h1 K_h1
  have hobj := k0.get hp hB.obj
  refine T.seq_k (fun K_h0 h0 => ?_)
  refine T.regi hm ?_
  simp only [↓reduceIte, namesOf, List.any, I.names, aopsI, astep, ev, setd, List.set, List.getD, List.getElem?_cons_zero, List.getElem?_cons_succ, then_normal, Option.getD_some, Bool.or_false, Bool.false_eq_true, up_zero, Nat.reduceAdd, ↓opt_def, ldc, hobj]
  refine h0 _ _ ?_
  try clear h0 K_h0
  refine T.block ?_
  refine T.gh (Gh.keep [0, 1, 2, 8, 9, 29, 30]) ?_
  refine T.loopi (fun i ρ t => Like (S i) t ∧ ρ = [.ptr p 0, .int .u64 id, .func f [] cap, .any, .any, .any, .any, .any, .int .u64 (crcOf (beB 8 id) : Int), .int .u64 (crcOf (beB 8 id ++ [1]) : Int)] ++ List.replicate 19 .any ++ [.int .i64 hashes, .int .i64 (i : Int)] ++ List.replicate 32 .any)
    hashes 0 (Nat.zero_le _) ⟨by rw [hS0]; exact k0, rfl⟩ ?_
  clear hobj k0 τ
  rintro i ρ τ hi ⟨k0, rfl⟩
  refine T.seq_k (fun K_h0 h0 => ?_)
  refine T.regi hm ?_
  simp only [↓reduceIte, namesOf, List.any, I.names, aopsI, astep, ev, setd, List.set, List.getD, List.getElem?_cons_zero, List.getElem?_cons_succ, List.cons_append, List.nil_append, List.replicate, then_normal, Option.getD_some, Bool.or_false, Bool.false_eq_true, up_zero, binv, ↓opt_def, eq_self]
  refine h0 _ _ ?_
  try clear h0 K_h0
  refine T.seq_k (fun K_h2 h2 => ?_)
  by_cases hil : i < hashes
  case neg =>
    refine T.cond (b := false) (by simp [ev]; omega) (fun h => by cases h) (fun _ => T.exit ?_)
    have : i = hashes := by omega
    subst this
    try simp only [List.cons_append, List.nil_append, List.replicate, inBlock_exit, then_exit]
    exact Fin.retn rfl k0
  refine T.cond (b := true) (by simp [ev]; omega) (fun _ => T.skip ?_) (fun h => by cases h)
  refine h2 _ _ ?_
  try clear h2 K_h2
  have hobj := k0.get (by rw [hSn]; exact hp) (by rw [hSp]; exact hB.obj)
  have hnl := hB.len
  have e1 := u64w (n := i) (by omega)
  have e2 : IntKind.u64.wrap ((i : Int) * (crcOf (beB 8 id ++ [1]) : Int)) = ((i * crcOf (beB 8 id ++ [1]) : Nat) : Int) := by
    have : i * crcOf (beB 8 id ++ [1]) ≤ 8 * 4294967296 := Nat.mul_le_mul (by omega) (by omega)
    rw [← Int.natCast_mul]; exact u64w (by omega)
  have e3 : IntKind.u64.wrap ((crcOf (beB 8 id) : Int) + ((i * crcOf (beB 8 id ++ [1]) : Nat) : Int)) = ((crcOf (beB 8 id) + i * crcOf (beB 8 id ++ [1]) : Nat) : Int) := by
    have : i * crcOf (beB 8 id ++ [1]) ≤ 8 * 4294967296 := Nat.mul_le_mul (by omega) (by omega)
    rw [← Int.natCast_add]; exact u64w (by omega)
  have e4 := u64w (n := rows.length) (by omega)
  have e5 := u64w (n := bits) (by omega)
  have e6 : ¬ ((rows.length : Int) = 0) := by omega
  have e7 : ¬ ((bits : Int) = 0) := by omega
  have hmo := Nat.mod_lt id (show 0 < rows.length by omega)
  have e8 : ((id % rows.length : Nat) : Int) < (rows.length : Int) := by omega
  have e9 := refs_get (k := k) hs
  have hpl : placeB id bits i < bits := Nat.mod_lt _ (by omega)
  have e10 : IntKind.i64.wrap (((crcOf (beB 8 id) + i * crcOf (beB 8 id ++ [1])) % bits : Nat) : Int) = (placeB id bits i : Int) := wrap64 (by omega) (by unfold placeB at hpl; omega)
  have hiw := inc64' hil (by omega)
  refine T.seq_k (fun K_h2 h2 => ?_)
  refine T.block ?_
  refine T.seq_k (fun K_h0 h0 => ?_)
  refine T.regi hm ?_
  simp only [↓reduceIte, namesOf, List.any, I.names, aopsI, astep, ev, setd, List.set, List.getD, List.getElem?_cons_zero, List.getElem?_cons_succ, List.cons_append, List.nil_append, List.replicate, then_normal, Option.getD_some, Bool.or_false, Bool.false_eq_true, up_zero]
  refine h0 _ _ ?_
  try clear h0 K_h0
  refine T.regi hm ?_
  simp only [↓reduceIte, namesOf, List.any, I.names, aopsI, astep, ev, setd, List.set, List.getD, List.getElem?_cons_zero, List.getElem?_cons_succ, List.cons_append, List.nil_append, List.length_cons, List.length_nil, List.replicate, then_normal, inBlock_normal, Option.getD_some, Bool.or_false, Bool.false_eq_true, up_zero, Nat.reduceAdd, binv, ↓opt_def, AV.cells, ldc, List.map_cons, List.map_nil, Int.natCast_nonneg, Int.toNat_natCast, and_true, eq_self, hobj, refs_len, hnl, e1, e2, e3, e4, e5, e6, e7, e8, e9, e10, tmodN]
  refine (step i τ hil k0).mono ?_
  rintro w τ' k1
  refine h2 _ _ ?_
  try clear h2 K_h2
  refine T.regi hm ?_
  simp only [↓reduceIte, namesOf, List.any, I.names, aopsI, astep, ev, setd, List.set, List.getD, List.getElem?_cons_zero, List.getElem?_cons_succ, List.cons_append, List.nil_append, List.replicate, then_normal, Option.getD_some, Bool.or_false, Bool.false_eq_true, up_zero, binv, ↓opt_def, eq_self, hiw]
  exact ⟨hil, _, _, Gh.keep [0, 1, 2, 8, 9, 29, 30], k1, rfl⟩

/-- a filter that may be -/
structure BlOk (bits hashes k : Nat) (rows : List (List UInt8)) : Prop where
  hk : 1 ≤ k ∧ k ≤ 512
  hb : bits = 8 * k
  hh : 1 ≤ hashes ∧ hashes ≤ 8
  hr : 1 ≤ rows.length ∧ rows.length ≤ 16

/-- a row, n of an Id's places set -/
def putN (id bits : Nat) (row : List UInt8) : Nat → List UInt8
  | 0 => row
  | i + 1 => setBit (putN id bits row i) (placeB id bits i)
theorem putN_len (id bits : Nat) (row : List UInt8) : ∀ i, (putN id bits row i).length = row.length
  | 0 => rfl
  | i + 1 => by rw [putN, setBit_len, putN_len]
theorem place_lt {id k i : Nat} (hk : 1 ≤ k) : placeB id (8 * k) i / 8 < k := by
  have : placeB id (8 * k) i < 8 * k := Nat.mod_lt _ (by omega)
  omega
/-- what a row has of an Id -/
def hasN (id bits : Nat) (row : List UInt8) (n : Nat) : Bool := (List.range n).all fun i => getBit row (placeB id bits i)
theorem hasN_succ (id bits : Nat) (row : List UInt8) (n : Nat) : hasN id bits row (n + 1) = (hasN id bits row n && getBit row (placeB id bits n)) := by
  simp [hasN, List.range_succ]

/-- the rows, an Id added -/
def addF (id bits hashes : Nat) (rows : List (List UInt8)) : List (List UInt8) := rows.set (id % rows.length) (putN id bits (rows.getD (id % rows.length) []) hashes)
def hasF (id bits hashes : Nat) (rows : List (List UInt8)) : Bool := hasN id bits (rows.getD (id % rows.length) []) hashes

theorem nodup_idx {ns : List Nat} (hd : ns.Nodup) {i j n : Nat} (hi : ns[i]? = some n) (hj : ns[j]? = some n) : i = j := by
  exact (List.getElem?_inj (List.getElem?_eq_some_iff.1 hi).1 hd).1 (hi.trans hj.symm)

theorem nb_rowsAV (m : Nat) (b : List UInt8) : (Res.obj (bytesAV b)).nb m := nb_bytes m b

theorem badd_ok {σ : St} {p : Nat} {ns : List Nat} {v : Ver} {bits hashes k : Nat} {rows : List (List UInt8)} {id : Nat} (hB : Bl σ p ns v bits hashes k rows) (ho : BlOk bits hashes k rows) (hid : id < 18446744073709551616) :
    ACalls Try.prog n_badd [.ptr p 0, .int .u64 id] σ (fun w σ' => w = .tup [] ∧ Bl σ' p ns v bits hashes k (addF id bits hashes rows) ∧ σ'.next = σ.next ∧ ∀ n, n ∉ ns → σ'.res n = σ.res n) := by
  refine s_badd (fun wf => ?_)
  unfold c_badd
  obtain ⟨hk, hbits, hhs, hrl⟩ := ho
  have hmo := Nat.mod_lt id (show 0 < rows.length by omega)
  have hnl := hB.len
  obtain ⟨s, hs⟩ : ∃ s, ns[id % rows.length]? = some s := ⟨ns[id % rows.length]'(by omega), by simp [hnl, hmo]⟩
  obtain ⟨row, hrow⟩ : ∃ b, rows[id % rows.length]? = some b := ⟨rows[id % rows.length], by simp [hmo]⟩
  obtain ⟨hr1, hr2⟩ := hB.row _ _ _ hs hrow
  have hsp : s ≠ p := fun e => (List.nodup_cons.1 hB.nd).1 (e ▸ List.mem_of_getElem? hs)
  have hslt := wf.lt hr1
  refine T.regi hm ?_
  simp only [↓reduceIte, namesOf, List.any, I.names, aopsI, astep, ev, setd, List.set, List.getD, List.getElem?_cons_zero, List.getElem?_cons_succ, List.cons_append, List.nil_append, List.length_cons, List.length_nil, List.replicate, Option.getD_some, Bool.or_false, Bool.false_eq_true, up_zero, Nat.reduceAdd, Nat.reduceSub, List.map_cons, List.map_nil]
  refine (beach_ok hB (by omega) hhs.2 hrl hid hs (fun i => σ.set s (.obj (bytesAV (putN id bits row i)))) (St.set_self hr1) (fun _ => rfl) (fun i => St.set_other _ _ (Ne.symm hsp)) (fun i τ hi hL => ?_)).mono ?_
  · have hpl := place_lt (id := id) (i := i) hk.1
    rw [← hbits] at hpl
    have hlen := putN_len id bits row i
    have hg := hL.get (n := s) hslt (St.set_same _ _ _)
    have := badd1_ok (a := placeB id bits i) hg (by rw [hlen, hr2]; exact hpl) (by rw [hlen, hr2]; omega)
    rw [hlen, hr2] at this
    refine this.mono ?_
    rintro w τ' ⟨_, rfl⟩
    have h1 := hL.put s (.obj (bytesAV (setBit (putN id bits row i) (placeB id bits i))))
    rw [St.set_set] at h1
    exact h1
  · rintro w τ hL
    try simp only [↓reduceIte, namesOf, List.any, I.names, aops, aopsI, aopsT, qstep, CPt, qget, Tbl.get, astep, ev, setd, List.set, List.getD, List.getElem?_cons_zero, List.getElem?_cons_succ, List.getElem?_nil, List.cons_append, List.nil_append, List.length_cons, List.length_nil, List.replicate, then_normal, inBlock_normal, Option.getD_some, Option.getD_none, Bool.or_false, Bool.or_true, Bool.true_or, Bool.false_or, Bool.false_eq_true, if_false, if_true, up_zero, Nat.reduceAdd, Nat.reduceSub, binv, ↓opt_def, AV.isAny, AV.cells, ldc, List.map_cons, List.map_nil, St.set_next, St.set_same, St.up_next, Int.natCast_nonneg, lt_len, le_len, Int.toNat_natCast, true_and, and_true, eq_self, reduceCtorEq, decide_true, List.length_singleton, er_int, er_bool, er_str, up_zero]
    refine ⟨_, _, [], .tup [], σ.set s (.obj (bytesAV (putN id bits row hashes))), .refl, rfl, .like hL rfl trivial (fun n r hn => ?_), rfl, ⟨by rw [St.set_other _ _ (Ne.symm hsp)]; exact hB.obj, ?_, hB.nd, fun i n b h1 h2 => ?_⟩, rfl, fun n hn => ?_⟩
    · by_cases hns : n = s
      · subst hns
        rw [St.set_same] at hn
        simp only [Option.some.injEq] at hn; subst hn
        exact ⟨hslt, .inr (nb_rowsAV _ _)⟩
      · rw [St.set_other _ _ hns] at hn
        exact ⟨wf.lt hn, .inl hn⟩
    · rw [addF, List.length_set]; exact hnl
    · have hgd : rows.getD (id % rows.length) [] = row := by simp [List.getD, hrow]
      rw [addF, hgd, List.getElem?_set] at h2
      split at h2
      · rename_i hii
        subst hii
        simp only [Option.some.injEq] at h2; subst h2
        rw [hs] at h1
        simp only [Option.some.injEq] at h1; subst h1
        exact ⟨by simp, by rw [putN_len, hr2]⟩
      · rename_i hii
        have hne : n ≠ s := by
          rintro rfl
          exact hii (nodup_idx (List.nodup_cons.1 hB.nd).2 hs h1)
        rw [St.set_other _ _ hne]
        exact hB.row i n b h1 h2
    · exact St.set_other _ _ (fun e => hn (e ▸ List.mem_of_getElem? hs))

theorem bhas_ok {σ : St} {p : Nat} {ns : List Nat} {v : Ver} {bits hashes k : Nat} {rows : List (List UInt8)} {id : Nat} (hB : Bl σ p ns v bits hashes k rows) (ho : BlOk bits hashes k rows) (hid : id < 18446744073709551616) :
    ACalls Try.prog n_bhas [.ptr p 0, .int .u64 id] σ (fun w σ' => w = .bool (hasF id bits hashes rows) ∧ σ' = σ) := by
  refine s_bhas (fun wf => ?_)
  unfold c_bhas
  obtain ⟨hk, hbits, hhs, hrl⟩ := ho
  have hmo := Nat.mod_lt id (show 0 < rows.length by omega)
  have hnl := hB.len
  obtain ⟨s, hs⟩ : ∃ s, ns[id % rows.length]? = some s := ⟨ns[id % rows.length]'(by omega), by simp [hnl, hmo]⟩
  obtain ⟨row, hrow⟩ : ∃ b, rows[id % rows.length]? = some b := ⟨rows[id % rows.length], by simp [hmo]⟩
  obtain ⟨hr1, hr2⟩ := hB.row _ _ _ hs hrow
  have hslt := wf.lt hr1
  have hplt := wf.lt hB.obj
  have hF : hasF id bits hashes rows = hasN id bits row hashes := by simp [hasF, List.getD, hrow]
  refine T.seq_k (fun K_h0 h0 => ?_)
  refine T.regi hm ?_
  simp only [↓reduceIte, namesOf, List.any, I.names, aopsI, astep, ev, setd, List.set, List.cons_append, List.nil_append, List.length_cons, List.length_nil, List.replicate, then_normal, Bool.or_false, Bool.false_eq_true, up_zero, Nat.reduceAdd, Nat.reduceSub]
  refine h0 _ _ ?_
  try clear h0 K_h0
  refine T.seq_k (fun K_h1 h1 => ?_)
  refine T.regi hm ?_
  simp only [↓reduceIte, namesOf, List.any, I.names, aopsI, astep, ev, setd, List.set, List.getD, List.getElem?_cons_zero, List.getElem?_cons_succ, List.cons_append, List.nil_append, List.length_cons, List.length_nil, then_normal, Option.getD_some, Bool.or_false, Nat.reduceAdd, AV.isAny, AV.cells, St.set_same, eq_self, decide_true, AV.fits, AV.one, List.all_cons, List.all_nil, Nat.reduceBEq, Bool.not_false, Bool.and_self, Nat.zero_add, splice, List.take, List.drop, Nat.reduceLeDiff, St.set_set, Nat.add_zero]
  have q1 := set_quiet wf (Nat.le_refl _) (fun _ _ h => h) (k := 2) (.obj [.bool true]) (a := σ.next) (by omega)
  have hL0 : Like σ ((σ.up 2).set σ.next (.obj [.bool true])) := ((Like.refl σ).up 2).set _ (by omega)
  have hB1 := hB.mono q1
  have hc1 : ((σ.up 2).set σ.next (.obj [.bool true])).res σ.next = some (.obj [.bool true]) := by simp
  have hn1 : σ.next < ((σ.up 2).set σ.next (.obj [.bool true])).next := by simp
  generalize ((σ.up 2).set σ.next (.obj [.bool true])) = σ1 at q1 hL0 hB1 hc1 hn1 ⊢
  have hcs : σ.next ≠ s := by omega
  have hcp : σ.next ≠ p := by omega
  generalize hcc : σ.next = c at hc1 hn1 hcs hcp ⊢
  have hr1' := q1 _ _ hr1
  refine h1 _ _ ?_
  try clear h1 K_h1
  refine T.seq_k (fun K_h1 h1 => ?_)
  refine T.regi hm ?_
  simp only [↓reduceIte, namesOf, List.any, I.names, aopsI, astep, ev, setd, List.set, List.getD, List.getElem?_cons_zero, List.getElem?_cons_succ, then_normal, Option.getD_some, Bool.or_false, Bool.false_eq_true, up_zero, List.map_cons, List.map_nil]
  refine (beach_ok hB1 (by omega) hhs.2 hrl hid hs (fun i => σ1.set c (.obj [.bool (hasN id bits row i)])) (St.set_self hc1) (fun _ => rfl) (fun i => St.set_other _ _ (Ne.symm hcp)) (fun i τ hi hL => ?_)).mono ?_
  · have hpl := place_lt (id := id) (i := i) hk.1
    rw [← hbits] at hpl
    have hcτ := hL.get (n := c) hn1 (St.set_same _ _ _)
    have hsτ := hL.get (n := s) (show s < σ1.next by omega) (by rw [St.set_other _ _ (Ne.symm hcs)]; exact hr1')
    have := bhas1_ok (a := placeB id bits i) hsτ hcτ (by rw [hr2]; exact hpl) (by rw [hr2]; omega)
    rw [hr2] at this
    refine this.mono ?_
    rintro w τ' ⟨_, rfl⟩
    have h1 := hL.put c (.obj [.bool (hasN id bits row i && getBit row (placeB id bits i))])
    rw [St.set_set] at h1
    rw [hasN_succ]
    exact h1
  · rintro w τ hL
    have hcτ := hL.get (n := c) hn1 (St.set_same _ _ _)
    try simp only [↓reduceIte, namesOf, List.any, I.names, aops, aopsI, aopsT, qstep, CPt, qget, Tbl.get, astep, ev, setd, List.set, List.getD, List.getElem?_cons_zero, List.getElem?_cons_succ, List.getElem?_nil, List.cons_append, List.nil_append, List.length_cons, List.length_nil, List.replicate, then_normal, inBlock_normal, Option.getD_some, Option.getD_none, Bool.or_false, Bool.or_true, Bool.true_or, Bool.false_or, Bool.false_eq_true, if_false, if_true, up_zero, Nat.reduceAdd, Nat.reduceSub, binv, ↓opt_def, AV.isAny, AV.cells, ldc, List.map_cons, List.map_nil, St.set_next, St.set_same, St.up_next, Int.natCast_nonneg, lt_len, le_len, Int.toNat_natCast, true_and, and_true, eq_self, reduceCtorEq, decide_true, List.length_singleton, er_int, er_bool, er_str, up_zero]
    refine h1 _ _ ?_
    try clear h1 K_h1
    refine T.seq_k (fun K_h0 h0 => ?_)
    refine T.regi hm ?_
    simp only [↓reduceIte, namesOf, List.any, I.names, aopsI, astep, ev, setd, List.set, List.getD, List.getElem?_cons_zero, List.getElem?_cons_succ, then_normal, Option.getD_some, Bool.or_false, Bool.false_eq_true, up_zero, ↓opt_def, ldc, hcτ]
    refine h0 _ _ ?_
    try clear h0 K_h0
    refine T.ret (Fin.quiet rfl trivial (fun n x hn => ?_) ⟨by rw [hF]; rfl, rfl⟩)
    have hlt := wf.lt hn
    exact hL.get (show n < σ1.next by omega) (by rw [St.set_other _ _ (by omega)]; exact q1 _ _ hn)
end Go.VL

/- Contracts: a filter's bytes, and a filter out of bytes. -/
namespace Go.VL
open Go.Proofs

def headB (s bits hashes : Nat) : List UInt8 := [UInt8.ofNat s, UInt8.ofNat hashes, UInt8.ofNat (bits / 256), UInt8.ofNat bits]
def filterB (bits hashes : Nat) (rows : List (List UInt8)) : List UInt8 := sealB (headB rows.length bits hashes ++ rows.flatten)
theorem u8w (n : Nat) : IntKind.u8.wrap (n : Int) = ((UInt8.ofNat n).toNat : Int) := by
  rw [UInt8.toNat_ofNat']
  simp [IntKind.wrap, IntKind.bits, IntKind.signed]
theorem shr8 (n : Nat) : Int.fdiv (n : Int) (2 ^ min (8 : Int).toNat IntKind.i64.bits) = ((n / 256 : Nat) : Int) := by
  have : (2 : Int) ^ min (8 : Int).toNat IntKind.i64.bits = ((256 : Nat) : Int) := by decide
  rw [this]
  exact Int.fdiv_eq_ediv_of_nonneg _ (by omega)
theorem shr8' (n : Nat) : Int.fdiv (n : Int) (2 ^ min 8 IntKind.i64.bits) = ((n / 256 : Nat) : Int) := shr8 n
theorem flat_len_le {rows : List (List UInt8)} {k : Nat} (h : ∀ b ∈ rows, b.length = k) : rows.flatten.length = rows.length * k := by
  induction rows with
  | nil => simp
  | cons b r ih =>
    rw [List.flatten_cons, List.length_append, h b (by simp), ih (fun x hx => h x (List.mem_cons_of_mem _ hx)), List.length_cons, Nat.add_mul]; omega
theorem Bl.lens {σ : St} {p : Nat} {ns : List Nat} {v : Ver} {bits hashes k : Nat} {rows : List (List UInt8)} (hB : Bl σ p ns v bits hashes k rows) : ∀ b ∈ rows, b.length = k := by
  intro b hb
  obtain ⟨i, hi⟩ := List.getElem?_of_mem hb
  have hil := (List.getElem?_eq_some_iff.1 hi).1
  exact (hB.row i (ns[i]'(by rw [hB.len]; exact hil)) b (by simp [hB.len, hil]) hi).2
theorem Bl.rowsE {σ : St} {p : Nat} {ns : List Nat} {v : Ver} {bits hashes k : Nat} {rows : List (List UInt8)} (hB : Bl σ p ns v bits hashes k rows) : BytesL σ (refs k ns) rows := by
  refine ⟨by rw [refs_len, hB.len], fun i hi => ?_⟩
  have h1 : ns[i]? = some (ns[i]'(by rw [hB.len]; exact hi)) := by simp [hB.len, hi]
  have h2 : rows[i]? = some rows[i] := by simp [hi]
  obtain ⟨h3, h4⟩ := hB.row i _ _ h1 h2
  exact ⟨_, refs_get h1, .inr ⟨_, by rw [h4], h3⟩⟩

theorem bbytes_ok {σ : St} {p : Nat} {ns : List Nat} {v : Ver} {bits hashes k : Nat} {rows : List (List UInt8)} (hB : Bl σ p ns v bits hashes k rows) (ho : BlOk bits hashes k rows) :
    ACalls Try.prog n_bbytes [.ptr p 0] σ (fun w σ' => w = .sl (bytesAV (filterB bits hashes rows)) .none ∧ σ' = σ) := by
  refine s_bbytes (fun wf => ?_)
  unfold c_bbytes
  obtain ⟨hk, hbits, hhs, hrl⟩ := ho
  have hobj := hB.obj
  have hfl := flat_len_le hB.lens
  have hfb : rows.flatten.length ≤ 16 * 512 := by rw [hfl]; exact Nat.mul_le_mul hrl.2 hk.2
  refine T.seq_k (fun K_h0 h0 => ?_)
  refine T.regi hm ?_
  simp only [↓reduceIte, namesOf, List.any, I.names, aopsI, astep, ev, setd, List.set, List.cons_append, List.nil_append, List.length_cons, List.length_nil, List.replicate, then_normal, Bool.or_false, Bool.false_eq_true, up_zero, Nat.reduceAdd, Nat.reduceSub]
  refine h0 _ _ ?_
  try clear h0 K_h0
  refine T.seq_k (fun K_h1 h1 => ?_)
  have h80 : ¬ ((8 : Int) < 0) := by decide
  have hhd : [AV.int .u8 ((UInt8.ofNat rows.length).toNat : Int), .int .u8 ((UInt8.ofNat hashes).toNat : Int), .int .u8 ((UInt8.ofNat (bits / 256)).toNat : Int), .int .u8 ((UInt8.ofNat bits).toNat : Int)] = bytesAV (headB rows.length bits hashes) := rfl
  refine T.regi hm ?_
  simp only [↓reduceIte, namesOf, List.any, I.names, aopsI, astep, ev, setd, List.set, List.getD, List.getElem?_cons_zero, List.getElem?_cons_succ, List.length_cons, List.length_nil, then_normal, Option.getD_some, Bool.or_false, Bool.or_true, Nat.reduceAdd, binv, ↓opt_def, ldc, List.map_cons, List.map_nil, eq_self, hobj, refs_len, hB.len, u8w, shr8, h80, held, hhd, St.up_res, bytesAV_er]
  have o1 : OneTip σ ((σ.up 24).set (σ.next + 22) (.tip 1)) (σ.next + 22) 1 := OneTip.new (by omega)
  generalize ((σ.up 24).set (σ.next + 22) (.tip 1)) = σ1 at o1 ⊢
  generalize σ.next + 22 = h at o1 ⊢
  refine h1 _ _ ?_
  try clear h1 K_h1
  refine T.seq_k (fun K_h1 h1 => ?_)
  have hobj1 := o1.quiet wf _ _ hobj
  refine T.regi hm ?_
  simp only [↓reduceIte, namesOf, List.any, I.names, aopsI, astep, ev, setd, List.set, List.getD, List.getElem?_cons_zero, List.getElem?_cons_succ, List.length_cons, List.length_nil, then_normal, Option.getD_some, Bool.or_false, Bool.or_true, Nat.reduceAdd, ↓opt_def, ldc, List.map_cons, List.map_nil, eq_self, hobj1, St.up_res]
  have hB1 : Bl (σ1.up 9) p ns v bits hashes k rows := hB.mono (fun n x hn => o1.quiet wf n x hn)
  refine (concatb_ok hB1.rowsE (by omega) (by omega)).mono ?_
  rintro w σ2 ⟨rfl, rfl⟩
  have hat : (σ1.up 9).res h = some (.tip 1) := o1.at_
  have hlh : (headB rows.length bits hashes).length = 4 := rfl
  have hle : decide ((4 + rows.flatten.length) * 1 ≤ 70368744177664 ∧ 4 + rows.flatten.length ≤ 4611686018427387904) = true := decide_eq_true (by omega)
  try simp only [↓reduceIte, eq_self, srcOf, bytesAV_er, bytesAV_app, bytes_all, hat, bytesAV_len, hlh, hle, Bool.and_self]
  have o2 : OneTip σ (((σ1.up 9).del h).set (σ1.next + 6) (Res.tip 1)) (σ1.next + 6) 1 := (o1.up 9).mv wf (by have := o1.lo; have := o1.hi; omega) (by simp)
  refine (cseal_q (by rw [List.length_append, hlh]; omega)).mono ?_
  rintro w σ3 ⟨rfl, rfl⟩
  try simp only [↓reduceIte, namesOf, List.any, I.names, aops, aopsI, aopsT, qstep, CPt, qget, Tbl.get, astep, ev, setd, List.set, List.getD, List.getElem?_cons_zero, List.getElem?_cons_succ, List.getElem?_nil, List.cons_append, List.nil_append, List.length_cons, List.length_nil, List.replicate, then_normal, inBlock_normal, Option.getD_some, Option.getD_none, Bool.or_false, Bool.or_true, Bool.true_or, Bool.false_or, Bool.false_eq_true, if_false, if_true, up_zero, Nat.reduceAdd, Nat.reduceSub, binv, ↓opt_def, AV.isAny, AV.cells, ldc, List.map_cons, List.map_nil, St.set_next, St.set_same, St.up_next, Int.natCast_nonneg, lt_len, le_len, Int.toNat_natCast, true_and, and_true, eq_self, reduceCtorEq, decide_true, List.length_singleton, er_int, er_bool, er_str, up_zero]
  refine h1 _ _ ?_
  try clear h1 K_h1
  exact T.ret (Fin.quiet rfl ⟨nb_bytes _ _, trivial⟩ (o2.quiet wf) ⟨rfl, rfl⟩)

/-- what bytes without a sum are the filter of: bits, hashes, rows -/
def fS (b : List UInt8) : Nat := rW b r0 1
def fH (b : List UInt8) : Nat := rW b (rN b r0 1) 1
def fB (b : List UInt8) : Nat := rW b (rN b (rN b r0 1) 1) 2
def fR (b : List UInt8) : Rs := rN b (rN b (rN b r0 1) 1) 2
def fLeft (b : List UInt8) : Int := b.length - (fR b).at_
def fIs (b : List UInt8) : Bool := rightF (fS b) (fB b) (fH b) && decide (fLeft b = ((fS b * fB b / 8 : Nat) : Int))
/-- rows of k bytes, one behind the other -/
def cutB (k : Nat) : Nat → List UInt8 → List (List UInt8)
  | 0, _ => []
  | s + 1, l => l.take k :: cutB k s (l.drop k)
theorem cutB_len (k : Nat) : ∀ (s : Nat) (l : List UInt8), (cutB k s l).length = s
  | 0, _ => rfl
  | s + 1, l => by simp [cutB, cutB_len]
theorem cutB_get (k : Nat) : ∀ (s i : Nat) (l : List UInt8), i < s → (cutB k s l)[i]? = some ((l.drop (i * k)).take k)
  | 0, i, _, h => by omega
  | s + 1, 0, l, _ => by simp [cutB]
  | s + 1, i + 1, l, h => by
    rw [cutB, List.getElem?_cons_succ, cutB_get k s i _ (by omega), List.drop_drop]
    congr 3
    rw [Nat.add_mul]; omega
def fRows (b : List UInt8) : List (List UInt8) := cutB (fB b / 8) (fS b) (b.drop (b.length - (fLeft b).toNat))

theorem right_nat {s b h : Nat} (hf : rightF s b h = true) : (1 ≤ s ∧ s ≤ 16) ∧ (8 ≤ b ∧ b ≤ 4096) ∧ b = 8 * (b / 8) ∧ (1 ≤ h ∧ h ≤ 8) := by
  unfold rightF at hf
  simp only [Bool.and_eq_true, decide_eq_true_eq, tmod8] at hf
  omega
theorem fR_ok {b : List UInt8} (hl : b.length ≤ 1000000) : (fR b).ok b := rN_ok (rN_ok (rN_ok (Rs.ok_r0 (by omega))))

/-- what a filter's bytes come to: an error's number -/
def gotC (x : List UInt8) : Int := if (openB x).1 = 0 then (if fIs (openB x).2 then 0 else 2) else (openB x).1

set_option maxRecDepth 10000 in
set_option maxHeartbeats 2000000 in
theorem bget_ok {x : List UInt8} {g : Ver} {σ : St} (hl : x.length ≤ 1000000) :
    ACalls Try.prog n_bget [.sl (bytesAV x) g] σ (fun v σ' => (gotC x ≠ 0 ∧ v = .tup [.nilp, errAV (gotC x)] ∧ σ' = σ) ∨
      (gotC x = 0 ∧ ∃ p ns w, v = .tup [.ptr p 0, .nili] ∧ Bl σ' p ns w (fB (openB x).2) (fH (openB x).2) (fB (openB x).2 / 8) (fRows (openB x).2) ∧ σ.next ≤ p ∧ p < σ'.next ∧ (∀ n ∈ ns, σ.next ≤ n ∧ n < σ'.next) ∧ ∀ n x, σ.res n = some x → σ'.res n = some x)) := by
  refine s_bget (fun wf => ?_)
  unfold c_bget
  refine T.seq_k (fun K_h0 h0 => ?_)
  refine T.regi hm ?_
  simp only [↓reduceIte, namesOf, List.any, I.names, aopsI, astep, ev, setd, List.set, List.cons_append, List.nil_append, List.length_cons, List.length_nil, List.replicate, then_normal, Bool.or_false, Bool.false_eq_true, up_zero, Nat.reduceAdd, Nat.reduceSub]
  refine h0 _ _ ?_
  try clear h0 K_h0
  refine T.seq_k (fun K_h1 h1 => ?_)
  refine T.regi hm ?_
  simp only [↓reduceIte, namesOf, List.any, I.names, aopsI, astep, ev, setd, List.set, List.getD, List.getElem?_cons_zero, List.getElem?_cons_succ, then_normal, Option.getD_some, Bool.or_false, Bool.false_eq_true, up_zero, ↓opt_def, List.map_cons, List.map_nil]
  refine (copen_ok (by omega)).mono ?_
  rintro v σ' ⟨rfl, rfl⟩
  try simp only [List.getElem?_cons_zero, List.getElem?_cons_succ]
  refine h1 _ _ ?_
  try clear h1 K_h1
  have hol := openB_le x
  have hgc : gotC x = if (openB x).1 = 0 then (if fIs (openB x).2 then 0 else 2) else (openB x).1 := rfl
  generalize gotC x = G at hgc ⊢
  generalize (openB x).2 = b at hol hgc ⊢
  generalize (openB x).1 = c at hgc ⊢
  refine T.seq_k (fun K_h1 h1 => ?_)
  by_cases hc0 : c = 0
  case neg =>
    rw [if_neg hc0] at hgc
    rw [hgc]
    clear hgc
    rw [errAV_eq c hc0]
    refine T.seq_k (fun K_h0 h0 => ?_)
    refine T.regi hm ?_
    simp only [↓reduceIte, namesOf, List.any, I.names, aopsI, astep, ev, setd, List.set, List.getD, List.getElem?_cons_zero, List.getElem?_cons_succ, then_normal, Option.getD_some, Bool.or_false, Bool.false_eq_true, up_zero, eqIv, Bool.bne_true, Bool.not_false]
    refine h0 _ _ ?_
    try clear h0 K_h0
    refine T.cond rfl (fun _ => ?_) (fun h => by cases h)
    refine T.seq_k (fun K_h0 h0 => ?_)
    refine T.regi hm ?_
    simp only [↓reduceIte, namesOf, List.any, I.names, aopsI, astep, ev, setd, List.set, List.getD, List.getElem?_cons_zero, List.getElem?_cons_succ, then_normal, Option.getD_some, Bool.or_false, Bool.false_eq_true, up_zero]
    refine h0 _ _ ?_
    try clear h0 K_h0
    exact T.ret (Fin.ret rfl (.inl ⟨hc0, by simp [pack], rfl⟩))
  rw [if_pos hc0] at hgc
  have e0 : errAV c = .nili := by unfold errAV; rw [if_pos hc0]
  rw [e0]
  refine T.seq_k (fun K_h0 h0 => ?_)
  refine T.regi hm ?_
  simp only [↓reduceIte, namesOf, List.any, I.names, aopsI, astep, ev, setd, List.set, List.getD, List.getElem?_cons_zero, List.getElem?_cons_succ, then_normal, Option.getD_some, Bool.or_false, Bool.false_eq_true, up_zero, eq_self, eqIv, bne_self_eq_false]
  refine h0 _ _ ?_
  try clear h0 K_h0
  refine T.cond rfl (fun h => by cases h) (fun _ => T.skip ?_)
  refine h1 _ _ ?_
  try clear h1 K_h1
  have hb : b.length ≤ 1000000 := by omega
  have k0 : Rs.ok b r0 := Rs.ok_r0 (by omega)
  have k1 := rN_ok (w := 1) k0
  have k2 := rN_ok (w := 1) k1
  have k3 := rN_ok (w := 2) k2
  have l1 := rW_lt (w := 1) k0
  have l2 := rW_lt (w := 1) k1
  have l3 := rW_lt (w := 2) k2
  refine T.seq_k (fun K_h1 h1 => ?_)
  refine T.regi hm ?_
  simp only [↓reduceIte, namesOf, List.any, I.names, aopsI, astep, ev, setd, List.set, List.getD, List.getElem?_cons_zero, List.getElem?_cons_succ, then_normal, Option.getD_some, Bool.or_false, Bool.false_eq_true, up_zero, List.map_cons, List.map_nil]
  refine wreadF.mono ?_
  rintro v σ1 ⟨nm, rfl, hr1, hn1, hn2, ho1⟩
  try simp only [↓reduceIte, namesOf, List.any, I.names, aops, aopsI, aopsT, qstep, CPt, qget, Tbl.get, astep, ev, setd, List.set, List.getD, List.getElem?_cons_zero, List.getElem?_cons_succ, List.getElem?_nil, List.cons_append, List.nil_append, List.length_cons, List.length_nil, List.replicate, then_normal, inBlock_normal, Option.getD_some, Option.getD_none, Bool.or_false, Bool.or_true, Bool.true_or, Bool.false_or, Bool.false_eq_true, if_false, if_true, up_zero, Nat.reduceAdd, Nat.reduceSub, binv, ↓opt_def, AV.isAny, AV.cells, ldc, List.map_cons, List.map_nil, St.set_next, St.set_same, St.up_next, Int.natCast_nonneg, lt_len, le_len, Int.toNat_natCast, true_and, and_true, eq_self, reduceCtorEq, decide_true, List.length_singleton, er_int, er_bool, er_str, up_zero]
  refine h1 _ _ ?_
  try clear h1 K_h1
  refine T.seq_k (fun K_h1 h1 => ?_)
  refine T.regi hm ?_
  simp only [↓reduceIte, namesOf, List.any, I.names, aopsI, astep, ev, setd, List.set, List.getD, List.getElem?_cons_zero, List.getElem?_cons_succ, then_normal, Option.getD_some, Bool.or_false, Bool.false_eq_true, up_zero, List.map_cons, List.map_nil]
  refine (wwordF k0 rfl hr1).mono ?_
  rintro v σ2 ⟨rfl, rfl⟩
  try simp only []
  refine h1 _ _ ?_
  try clear h1 K_h1
  refine T.seq_k (fun K_h1 h1 => ?_)
  refine T.regi hm ?_
  simp only [↓reduceIte, namesOf, List.any, I.names, aopsI, astep, ev, setd, List.set, List.getD, List.getElem?_cons_zero, List.getElem?_cons_succ, then_normal, Option.getD_some, Bool.or_false, Bool.false_eq_true, up_zero, List.map_cons, List.map_nil]
  refine (wwordF k1 rfl (St.set_same _ _ _)).mono ?_
  rintro v σ2 ⟨rfl, rfl⟩
  try simp only []
  refine h1 _ _ ?_
  try clear h1 K_h1
  refine T.seq_k (fun K_h1 h1 => ?_)
  refine T.regi hm ?_
  simp only [↓reduceIte, namesOf, List.any, I.names, aopsI, astep, ev, setd, List.set, List.getD, List.getElem?_cons_zero, List.getElem?_cons_succ, then_normal, Option.getD_some, Bool.or_false, Bool.false_eq_true, up_zero, List.map_cons, List.map_nil]
  refine (wwordF k2 rfl (St.set_same _ _ _)).mono ?_
  rintro v σ2 ⟨rfl, rfl⟩
  rw [St.set_set, St.set_set]
  have w1 : IntKind.i64.wrap (rW b r0 1 : Int) = (rW b r0 1 : Int) := wrap64 (by omega) (by omega)
  have w2 : IntKind.i64.wrap (rW b (rN b r0 1) 1 : Int) = (rW b (rN b r0 1) 1 : Int) := wrap64 (by omega) (by omega)
  have w3 : IntKind.i64.wrap (rW b (rN b (rN b r0 1) 1) 2 : Int) = (rW b (rN b (rN b r0 1) 1) 2 : Int) := wrap64 (by omega) (by omega)
  try simp only [w1, w2, w3]
  have z1 : fS b = rW b r0 1 := rfl
  have z2 : fH b = rW b (rN b r0 1) 1 := rfl
  have z3 : fB b = rW b (rN b (rN b r0 1) 1) 2 := rfl
  have z4 : fR b = rN b (rN b (rN b r0 1) 1) 2 := rfl
  rw [← z1] at l1 ⊢
  rw [← z2] at l2 ⊢
  rw [← z3] at l3 ⊢
  rw [← z4] at k3 ⊢
  clear w1 w2 w3 k0 k1 k2 hr1 z1 z2 z3 z4
  have hr2 : (σ1.set nm (rdS b .none (fR b))).res nm = some (rdS b .none (fR b)) := St.set_same _ _ _
  have ho2 : ∀ m, m < σ'.next → (σ1.set nm (rdS b .none (fR b))).res m = σ'.res m := fun m hm => by rw [St.set_other _ _ (by omega)]; exact ho1 m hm
  have hn3 : nm < (σ1.set nm (rdS b .none (fR b))).next := hn2
  generalize (σ1.set nm (rdS b .none (fR b))) = σ2 at hr2 ho2 hn3 ⊢
  clear ho1 hn2 σ1
  have hq2 : ∀ n x, σ'.res n = some x → σ2.res n = some x := fun n x hx => by rw [ho2 n (wf.lt hx)]; exact hx
  refine h1 _ _ ?_
  try clear h1 K_h1
  refine T.seq_k (fun K_h1 h1 => ?_)
  cases hf : rightF (fS b) (fB b) (fH b) with
  | false =>
    refine T.regi hm ?_
    simp only [↓reduceIte, namesOf, List.any, I.names, aopsI, astep, ev, setd, List.set, List.getD, List.getElem?_cons_zero, List.getElem?_cons_succ, then_normal, Option.getD_some, Bool.or_false, Bool.false_eq_true, up_zero, ↓opt_def, List.map_cons, List.map_nil]
    refine (bnew_bad hf).mono ?_
    rintro v σ3 ⟨rfl, rfl⟩
    try simp only [List.getElem?_cons_zero, List.getElem?_cons_succ]
    refine h1 _ _ ?_
    try clear h1 K_h1
    refine T.seq_k (fun K_h1 h1 => ?_)
    refine T.seq_k (fun K_h0 h0 => ?_)
    refine T.regi hm ?_
    simp only [↓reduceIte, namesOf, List.any, I.names, aopsI, astep, ev, setd, List.set, List.getD, List.getElem?_cons_zero, List.getElem?_cons_succ, then_normal, Option.getD_some, Bool.or_false, Bool.false_eq_true, up_zero, eq_self, reduceCtorEq, eqIv, Bool.bne_true, Bool.not_false]
    refine h0 _ _ ?_
    try clear h0 K_h0
    refine T.cond rfl (fun _ => ?_) (fun h => by cases h)
    refine T.seq_k (fun K_h0 h0 => ?_)
    refine T.regi hm ?_
    simp only [↓reduceIte, namesOf, List.any, I.names, aopsI, astep, ev, setd, List.set, List.getD, List.getElem?_cons_zero, List.getElem?_cons_succ, then_normal, Option.getD_some, Bool.or_false, Bool.false_eq_true, up_zero]
    refine h0 _ _ ?_
    try clear h0 K_h0
    have hG : G = 2 := by rw [hgc, if_neg]; unfold fIs; rw [hf]; simp
    exact T.ret (Fin.quiet rfl ⟨trivial, trivial, trivial⟩ hq2 (.inl ⟨by rw [hG]; decide, by rw [hG]; rfl, rfl⟩))
  | true =>
    obtain ⟨f1, f2, f3, f4⟩ := right_nat hf
    have hnew := bnew_ok (σ := σ2) (s := fS b) (k := fB b / 8) (h := fH b) f1 (by omega) f4
    rw [← f3] at hnew
    refine T.regi hm ?_
    simp only [↓reduceIte, namesOf, List.any, I.names, aopsI, astep, ev, setd, List.set, List.getD, List.getElem?_cons_zero, List.getElem?_cons_succ, then_normal, Option.getD_some, Bool.or_false, Bool.false_eq_true, up_zero, ↓opt_def, List.map_cons, List.map_nil]
    refine hnew.mono ?_
    rintro v σ3 ⟨p, ns, w, rfl, hB, hp0, hp1, hns, ho3⟩
    clear hnew
    try simp only [List.getElem?_cons_zero, List.getElem?_cons_succ]
    refine h1 _ _ ?_
    try clear h1 K_h1
    refine T.seq_k (fun K_h1 h1 => ?_)
    have hr3 := ho3 _ _ hr2
    refine T.seq_k (fun K_h2 h2 => ?_)
    refine T.regi hm ?_
    simp only [↓reduceIte, namesOf, List.any, I.names, aopsI, astep, ev, setd, List.set, List.getD, List.getElem?_cons_zero, List.getElem?_cons_succ, then_normal, Option.getD_some, Bool.or_false, Bool.false_eq_true, up_zero, binv, ↓opt_def, List.map_cons, List.map_nil, eq_self, eqIv, bne_self_eq_false]
    refine (wleft_ok k3.1.len k3.1.lo k3.1.hi hr3).mono ?_
    rintro v σ4 ⟨rfl, rfl⟩
    have m1 : IntKind.i64.wrap ((fS b : Int) * (fB b : Int)) = ((fS b * fB b : Nat) : Int) := by
      have : fS b * fB b ≤ 16 * 4096 := Nat.mul_le_mul (by omega) (by omega)
      rw [← Int.natCast_mul]; exact wrap64 (by omega) (by omega)
    have m2 : IntKind.i64.wrap ((fS b * fB b / 8 : Nat) : Int) = ((fS b * fB b / 8 : Nat) : Int) := by
      have : fS b * fB b ≤ 16 * 4096 := Nat.mul_le_mul (by omega) (by omega)
      exact wrap64 (by omega) (by omega)
    have h8 : ¬ ((8 : Int) = 0) := by decide
    have zl : (b.length : Int) - (fR b).at_ = fLeft b := rfl
    have hq4 : ∀ n x, σ'.res n = some x → σ4.res n = some x := fun n x hx => ho3 _ _ (hq2 _ _ hx)
    have hm8 : fS b * fB b / 8 = fS b * (fB b / 8) := by
      conv => lhs; rw [f3]
      rw [← Nat.mul_assoc, Nat.mul_comm (fS b) 8, Nat.mul_assoc, Nat.mul_div_cancel_left _ (by decide)]
    by_cases c2 : fLeft b = ((fS b * fB b / 8 : Nat) : Int)
    case neg =>
      have e2 : (fLeft b != ((fS b * fB b / 8 : Nat) : Int)) = true := by simpa using c2
      try simp only [↓reduceIte, eq_self, m1, tdiv8, m2, h8, zl, e2]
      refine h2 _ _ ?_
      try clear h2 K_h2
      refine T.cond rfl (fun _ => ?_) (fun h => by cases h)
      refine T.seq_k (fun K_h0 h0 => ?_)
      refine T.regi hm ?_
      simp only [↓reduceIte, namesOf, List.any, I.names, aopsI, astep, ev, setd, List.set, List.getD, List.getElem?_cons_zero, List.getElem?_cons_succ, then_normal, Option.getD_some, Bool.or_false, Bool.false_eq_true, up_zero]
      refine h0 _ _ ?_
      try clear h0 K_h0
      have hG : G = 2 := by rw [hgc, if_neg]; unfold fIs; rw [decide_eq_false c2]; simp
      exact T.ret (Fin.quiet rfl ⟨trivial, trivial, trivial⟩ hq4 (.inl ⟨by rw [hG]; decide, by rw [hG]; rfl, rfl⟩))
    have e2 : (fLeft b != ((fS b * fB b / 8 : Nat) : Int)) = false := by simpa using c2
    try simp only [↓reduceIte, eq_self, m1, tdiv8, m2, h8, zl, e2]
    refine h2 _ _ ?_
    try clear h2 K_h2
    refine T.cond rfl (fun h => by cases h) (fun _ => T.skip ?_)
    refine h1 _ _ ?_
    try clear h1 K_h1
    have hG : G = 0 := by rw [hgc, if_pos]; unfold fIs; rw [hf, decide_eq_true c2]; rfl
    refine T.seq_k (fun K_h1 h1 => ?_)
    refine T.regi hm ?_
    simp only [↓reduceIte, namesOf, List.any, I.names, aopsI, astep, ev, setd, List.set, List.getD, List.getElem?_cons_zero, List.getElem?_cons_succ, then_normal, Option.getD_some, Bool.or_false, Bool.false_eq_true, up_zero, binv, ↓opt_def, List.map_cons, List.map_nil]
    refine (wleft_ok k3.1.len k3.1.lo k3.1.hi hr3).mono ?_
    rintro v σ5 ⟨rfl, rfl⟩
    have hsk : fS b * (fB b / 8) ≤ 16 * 512 := Nat.mul_le_mul (by omega) (by omega)
    have hat0 := k3.1.lo
    obtain ⟨j, hj⟩ : ∃ j : Nat, b.length = j + fS b * (fB b / 8) := ⟨b.length - fS b * (fB b / 8), by rw [hm8] at c2; omega⟩
    have m3 : IntKind.i64.wrap ((b.length : Int) - fLeft b) = (j : Int) := by rw [c2, hm8]; rw [wrap64 (by omega) (by omega)]; omega
    have m4 : (j : Int) ≤ (b.length : Int) := by omega
    have hrest : fRows b = cutB (fB b / 8) (fS b) (b.drop j) := by
      unfold fRows; rw [c2, hm8]; congr 2; omega
    generalize hR : b.drop j = R at hrest
    have hRl : R.length = fS b * (fB b / 8) := by rw [← hR, List.length_drop]; omega
    have hT : List.take ((b.length : Int) - (j : Int)).toNat (bytesAV R) = bytesAV R := List.take_of_length_le (by rw [bytesAV_len, hRl]; omega)
    try simp only [↓reduceIte, ev, List.getD, List.getElem?_cons_zero, List.getElem?_cons_succ, Option.getD_some, Int.natCast_nonneg, lt_len, Int.toNat_natCast, true_and, eq_self, zl, bytesAV_len, m3, idx, m4, bytes_all, Int.toNat_natCast, Int.le_refl, bytes_drop, and_self, hR, hT, ite_self]
    refine h1 _ _ ?_
    try clear h1 K_h1
    refine T.seq_k (fun K_h1 h1 => ?_)
    have hnl : ns.length = fS b := by rw [hB.len]; simp
    have hobj := hB.obj
    refine T.seq_k (fun K_h0 h0 => ?_)
    refine T.regi hm ?_
    simp only [↓reduceIte, namesOf, List.any, I.names, aopsI, astep, ev, setd, List.set, List.getD, List.getElem?_cons_zero, List.getElem?_cons_succ, then_normal, Option.getD_some, Bool.or_false, Bool.false_eq_true, up_zero, Nat.reduceAdd, ↓opt_def, ldc, hobj, refs_len, hnl]
    refine h0 _ _ ?_
    try clear h0 K_h0
    generalize hk : fB b / 8 = k at hB hRl hrest hobj hsk
    have hk0 : 1 ≤ k := by omega
    have hz : ∀ idx n, ns[idx]? = some n → σ5.res n = some (.obj (bytesAV (List.replicate k 0))) := fun idx n hn =>
      (hB.row idx n (List.replicate k 0) hn (by rw [List.getElem?_replicate, if_pos (by rw [← hnl]; exact (List.getElem?_eq_some_iff.1 hn).1)])).1
    have hnd := hB.nd
    have hns' : ∀ n ∈ ns, n ≠ p := fun n hn e => by subst e; exact (List.nodup_cons.1 hnd).1 hn
    have hσn : σ'.next ≤ σ2.next := by omega
    refine T.block ?_
    refine T.gh (Gh.keep [10, 11, 62, 63, 64]) ?_
    refine T.loopi (fun i ρ t => t.res p = some (.obj [.int .i64 (fB b : Nat), .int .i64 (fH b), .sl (refs k ns) w]) ∧ (∀ (idx n : Nat), ns[idx]? = some n → idx < i → t.res n = some (.obj (bytesAV ((R.drop (idx * k)).take k)))) ∧
        (∀ (idx n : Nat), ns[idx]? = some n → i ≤ idx → t.res n = some (.obj (bytesAV (List.replicate k 0)))) ∧ (∀ n x, σ'.res n = some x → t.res n = some x) ∧ σ5.next ≤ t.next ∧
        ρ = List.replicate 10 .any ++ [.ptr p 0, .sl (bytesAV (R.drop (i * k))) .none] ++ List.replicate 50 .any ++ [.sl (refs k ns) w, .int .i64 (fS b : Nat), .int .i64 (i : Int)] ++ List.replicate 10 .any)
      (fS b) 0 (Nat.zero_le _) ⟨hobj, fun _ _ _ h => by omega, fun idx n hn _ => hz idx n hn, hq4, Nat.le_refl _, by rw [Nat.zero_mul, List.drop_zero]; rfl⟩ ?_
    rintro i ρ t hi ⟨g1, g2, g3, g4, g5, rfl⟩
    refine T.seq_k (fun K_h0 h0 => ?_)
    refine T.regi hm ?_
    simp only [↓reduceIte, namesOf, List.any, I.names, aopsI, astep, ev, setd, List.set, List.getD, List.getElem?_cons_zero, List.getElem?_cons_succ, List.cons_append, List.nil_append, List.replicate, then_normal, Option.getD_some, Bool.or_false, Bool.false_eq_true, up_zero, binv, ↓opt_def, eq_self]
    refine h0 _ _ ?_
    try clear h0 K_h0
    refine T.seq_k (fun K_h2 h2 => ?_)
    by_cases hil : i < fS b
    case neg =>
      refine T.cond (b := false) (by simp [ev]; omega) (fun h => by cases h) (fun _ => T.exit ?_)
      have : i = fS b := by omega
      subst this
      try simp only [List.cons_append, List.nil_append, List.replicate, then_normal, inBlock_exit, then_exit]
      refine h1 _ _ ?_
      try clear h1 K_h1
      refine T.seq_k (fun K_h0 h0 => ?_)
      refine T.regi hm ?_
      simp only [↓reduceIte, namesOf, List.any, I.names, aopsI, astep, ev, setd, List.set, List.getD, List.getElem?_cons_zero, List.getElem?_cons_succ, then_normal, Option.getD_some, Bool.or_false, Bool.false_eq_true, up_zero]
      refine h0 _ _ ?_
      try clear h0 K_h0
      subst hk
      refine T.ret (Fin.ret rfl (.inr ⟨hG, p, ns, w, rfl, ⟨g1, by rw [hrest, cutB_len, hnl], hnd, fun idx n b' h1 h2 => ?_⟩, by omega, by omega, fun n hn => by have := hns n hn; omega, g4⟩))
      have hil := (List.getElem?_eq_some_iff.1 h1).1
      rw [hrest, cutB_get _ _ _ _ (by omega)] at h2
      simp only [Option.some.injEq] at h2; subst h2
      refine ⟨g2 idx n h1 (by omega), ?_⟩
      rw [List.length_take, List.length_drop, hRl]
      have : (idx + 1) * (fB b / 8) ≤ fS b * (fB b / 8) := Nat.mul_le_mul_right _ (by omega)
      rw [Nat.add_mul] at this
      omega
    refine T.cond (b := true) (by simp [ev]; omega) (fun _ => T.skip ?_) (fun h => by cases h)
    refine h2 _ _ ?_
    try clear h2 K_h2
    obtain ⟨n, hn⟩ : ∃ n, ns[i]? = some n := ⟨ns[i]'(by omega), by simp [hnl, hil]⟩
    have hzn := g3 i n hn (Nat.le_refl _)
    have hnp := hns' n (List.mem_of_getElem? hn)
    have hig : (refs k ns)[i]? = some (.ref n 0 k) := refs_get hn
    have hik : i * k + k ≤ fS b * k := by
      have : (i + 1) * k ≤ fS b * k := Nat.mul_le_mul_right _ (by omega)
      rw [Nat.add_mul] at this; omega
    have hRil : (R.drop (i * k)).length = fS b * k - i * k := by rw [List.length_drop, hRl]
    have hiw := inc64' hil (by omega)
    have hil' : (i : Int) < (fS b : Int) := by omega
    have hdd : (R.drop (i * k)).drop k = R.drop ((i + 1) * k) := by rw [List.drop_drop, Nat.add_mul, Nat.one_mul]
    generalize hQ : R.drop (i * k) = Q at hRil hdd ⊢
    have hlk : (bytesAV (List.replicate k 0)).length = k := by rw [bytesAV_len, List.length_replicate]
    have hfit : decide (0 + k * 1 ≤ k) = true := decide_eq_true (by omega)
    have hsp : splice (bytesAV (List.replicate k 0)) 0 (bytesAV (Q.take k)) = bytesAV (Q.take k) := by
      unfold splice
      rw [List.take_zero, List.nil_append, bytesAV_len, List.length_take, List.drop_of_length_le (by rw [hlk]; omega), List.append_nil]
    have hmin : ((min Q.length k : Nat) : Int) = (k : Int) := by omega
    have hs1 : (k : Int) ≤ (Q.length : Int) := by omega
    have hTk : List.take ((Q.length : Int) - (k : Int)).toNat (bytesAV (Q.drop k)) = bytesAV (Q.drop k) := List.take_of_length_le (by rw [bytesAV_len, List.length_drop]; omega)
    refine T.seq_k (fun K_h2 h2 => ?_)
    refine T.block ?_
    refine T.seq_k (fun K_h0 h0 => ?_)
    refine T.regi hm ?_
    simp only [↓reduceIte, namesOf, List.any, I.names, aopsI, astep, ev, setd, List.set, List.getD, List.getElem?_cons_zero, List.getElem?_cons_succ, List.cons_append, List.nil_append, List.length_cons, List.length_nil, List.replicate, then_normal, Option.getD_some, Bool.or_false, Bool.false_eq_true, up_zero, Nat.reduceAdd, ↓opt_def, AV.cells, ldc, Int.natCast_nonneg, Int.toNat_natCast, and_true, eq_self, decide_true, refs_len, hnl, hig, hil']
    refine h0 _ _ ?_
    try clear h0 K_h0
    refine T.regi hm ?_
    simp only [↓reduceIte, namesOf, List.any, I.names, aopsI, astep, ev, setd, List.set, List.getD, List.getElem?_cons_zero, List.getElem?_cons_succ, List.cons_append, List.nil_append, List.replicate, then_normal, inBlock_normal, Option.getD_some, Bool.or_false, Bool.false_eq_true, up_zero, Int.natCast_nonneg, lt_len, Int.toNat_natCast, true_and, eq_self, hzn, srcOf, bytesAV_er, bytes_all, hlk, hfit, Bool.and_self, bytes_take, bytes_flat, hsp, bytesAV_len, hmin, idx, hs1, Int.toNat_natCast, Int.le_refl, bytes_drop, and_self, hTk, ite_self]
    refine h2 _ _ ?_
    try clear h2 K_h2
    refine T.regi hm ?_
    simp only [↓reduceIte, namesOf, List.any, I.names, aopsI, astep, ev, setd, List.set, List.getD, List.getElem?_cons_zero, List.getElem?_cons_succ, List.cons_append, List.nil_append, List.replicate, then_normal, Option.getD_some, Bool.or_false, Bool.false_eq_true, up_zero, binv, ↓opt_def, eq_self, hiw]
    refine ⟨hil, _, _, Gh.keep [10, 11, 62, 63, 64], by rw [St.set_other _ _ (Ne.symm hnp)]; exact g1, fun idx m h1 h2 => ?_, fun idx m h1 h2 => ?_, fun m x hm => ?_, g5, by rw [← hdd]; rfl⟩
    · by_cases he : idx = i
      · subst he
        rw [hn] at h1
        simp only [Option.some.injEq] at h1; subst h1
        rw [St.set_same, hQ]
      · have hne : m ≠ n := fun e => he (nodup_idx (List.nodup_cons.1 hnd).2 h1 (e ▸ hn))
        rw [St.set_other _ _ hne]; exact g2 idx m h1 (by omega)
    · have hne : m ≠ n := fun e => by
        have := nodup_idx (List.nodup_cons.1 hnd).2 h1 (e ▸ hn); omega
      rw [St.set_other _ _ hne]; exact g3 idx m h1 (by omega)
    · have hne : m ≠ n := fun e => by
        have := hns n (List.mem_of_getElem? hn)
        have := wf.lt hm
        omega
      rw [St.set_other _ _ hne]; exact g4 m x hm
end Go.VL

/- Contracts: the document's filter: made, added to, asked. -/
namespace Go.VL
open Go.Proofs

def boolsAV (l : List Bool) : List AV := l.map .bool
theorem bools_len (l : List Bool) : (boolsAV l).length = l.length := by simp [boolsAV]
theorem bools_get {l : List Bool} {i : Nat} (h : i < l.length) : (boolsAV l)[i]? = some (.bool l[i]) := by simp [boolsAV, h]
theorem bools_flat : ∀ l : List Bool, (boolsAV l).flatMap AV.cells = boolsAV l
  | [] => rfl
  | b :: r => by
    have := bools_flat r
    unfold boolsAV at this ⊢
    rw [List.map_cons, List.flatMap_cons, this]; rfl
theorem bools_set {l : List Bool} {i : Nat} (h : i < l.length) (b : Bool) : splice (boolsAV l) i [.bool b] = boolsAV (l.set i b) := by
  unfold splice boolsAV
  rw [List.map_set, List.set_eq_take_append_cons_drop, if_pos (by simpa using h)]
  simp
theorem nb_bools (m : Nat) (l : List Bool) : (Res.obj (boolsAV l)).nb m := by
  show nbs m (boolsAV l)
  rw [nbs_iff]
  intro x hx
  obtain ⟨b, _, rfl⟩ := List.mem_map.1 hx
  trivial
theorem zrowb_av (k : Nat) : (List.replicate k (AV.bool false)) = boolsAV (List.replicate k false) := by simp [boolsAV]

/-- the document's filter stands at p, its shards at ns -/
structure Rf (σ : St) (p : Nat) (ns : List Nat) (v : Ver) (bits hashes : Nat) (rows : List (List Bool)) : Prop where
  obj : σ.res p = some (.obj [.int .i64 bits, .int .i64 hashes, .sl (refs bits ns) v])
  len : ns.length = rows.length
  nd : (p :: ns).Nodup
  row : ∀ (i n : Nat) (b : List Bool), ns[i]? = some n → rows[i]? = some b → σ.res n = some (.obj (boolsAV b)) ∧ b.length = bits
theorem Rf.mono {σ σ' : St} {p : Nat} {ns : List Nat} {v : Ver} {bits hashes : Nat} {rows : List (List Bool)} (h : Rf σ p ns v bits hashes rows) (ho : ∀ n x, σ.res n = some x → σ'.res n = some x) : Rf σ' p ns v bits hashes rows :=
  ⟨ho _ _ h.obj, h.len, h.nd, fun i n b h1 h2 => ⟨ho _ _ (h.row i n b h1 h2).1, (h.row i n b h1 h2).2⟩⟩

theorem rbright_ok {s b h : Int} {σ : St} : ACalls Try.prog n_rbright [.int .i64 s, .int .i64 b, .int .i64 h] σ (fun v σ' => v = .bool (rightF s b h) ∧ σ' = σ) := by
  refine s_rbright (fun wf => ?_)
  unfold c_rbright
  have h8 : ¬ ((8 : Int) = 0) := by decide
  have g1 : decide (s ≥ 1) = decide (1 ≤ s) := rfl
  have g2 : decide (b ≥ 8) = decide (8 ≤ b) := rfl
  have g3 : decide (h ≥ 1) = decide (1 ≤ h) := rfl
  have g4 : (b.tmod 8 == 0) = decide (b.tmod 8 = 0) := rfl
  unfold rightF
  refine T.seq_k (fun K_h0 h0 => ?_)
  refine T.regi hm ?_
  simp only [↓reduceIte, namesOf, List.any, I.names, aopsI, astep, ev, setd, List.set, List.cons_append, List.nil_append, List.length_cons, List.length_nil, List.replicate, then_normal, Bool.or_false, Bool.false_eq_true, up_zero, Nat.reduceAdd, Nat.reduceSub]
  refine h0 _ _ ?_
  try clear h0 K_h0
  refine T.seq_k (fun K_h1 h1 => ?_)
  cases d1 : decide (1 ≤ s)
  · refine T.regi hm ?_
    simp only [↓reduceIte, namesOf, List.any, I.names, aopsI, astep, ev, setd, List.set, List.getD, List.getElem?_cons_zero, List.getElem?_cons_succ, then_normal, Option.getD_some, Bool.or_false, Bool.false_eq_true, up_zero, binv, ↓opt_def, eq_self, g1, d1]
    refine h1 _ _ ?_
    try clear h1 K_h1
    exact T.ret (Fin.ret rfl ⟨by simp_all [pack] <;> omega, rfl⟩)
  cases d2 : decide (s ≤ 16)
  · refine T.regi hm ?_
    simp only [↓reduceIte, namesOf, List.any, I.names, aopsI, astep, ev, setd, List.set, List.getD, List.getElem?_cons_zero, List.getElem?_cons_succ, then_normal, Option.getD_some, Bool.or_false, Bool.false_eq_true, up_zero, binv, ↓opt_def, eq_self, g1, d1, d2]
    refine h1 _ _ ?_
    try clear h1 K_h1
    exact T.ret (Fin.ret rfl ⟨by simp_all [pack] <;> omega, rfl⟩)
  cases d3 : decide (8 ≤ b)
  · refine T.regi hm ?_
    simp only [↓reduceIte, namesOf, List.any, I.names, aopsI, astep, ev, setd, List.set, List.getD, List.getElem?_cons_zero, List.getElem?_cons_succ, then_normal, Option.getD_some, Bool.or_false, Bool.false_eq_true, up_zero, binv, ↓opt_def, eq_self, g1, d1, d2, g2, d3]
    refine h1 _ _ ?_
    try clear h1 K_h1
    exact T.ret (Fin.ret rfl ⟨by simp_all [pack] <;> omega, rfl⟩)
  cases d4 : decide (b ≤ 4096)
  · refine T.regi hm ?_
    simp only [↓reduceIte, namesOf, List.any, I.names, aopsI, astep, ev, setd, List.set, List.getD, List.getElem?_cons_zero, List.getElem?_cons_succ, then_normal, Option.getD_some, Bool.or_false, Bool.false_eq_true, up_zero, binv, ↓opt_def, eq_self, g1, d1, d2, g2, d3, d4]
    refine h1 _ _ ?_
    try clear h1 K_h1
    exact T.ret (Fin.ret rfl ⟨by simp_all [pack] <;> omega, rfl⟩)
  cases d5 : decide (b.tmod 8 = 0)
  · refine T.regi hm ?_
    simp only [↓reduceIte, namesOf, List.any, I.names, aopsI, astep, ev, setd, List.set, List.getD, List.getElem?_cons_zero, List.getElem?_cons_succ, then_normal, Option.getD_some, Bool.or_false, Bool.false_eq_true, up_zero, binv, ↓opt_def, eq_self, g1, d1, d2, g2, d3, d4, h8, g4, d5]
    refine h1 _ _ ?_
    try clear h1 K_h1
    exact T.ret (Fin.ret rfl ⟨by simp_all [pack] <;> omega, rfl⟩)
  cases d6 : decide (1 ≤ h)
  · refine T.regi hm ?_
    simp only [↓reduceIte, namesOf, List.any, I.names, aopsI, astep, ev, setd, List.set, List.getD, List.getElem?_cons_zero, List.getElem?_cons_succ, then_normal, Option.getD_some, Bool.or_false, Bool.false_eq_true, up_zero, binv, ↓opt_def, eq_self, g1, d1, d2, g2, d3, d4, h8, g4, d5, g3, d6]
    refine h1 _ _ ?_
    try clear h1 K_h1
    exact T.ret (Fin.ret rfl ⟨by simp_all [pack] <;> omega, rfl⟩)
  refine T.regi hm ?_
  simp only [↓reduceIte, namesOf, List.any, I.names, aopsI, astep, ev, setd, List.set, List.getD, List.getElem?_cons_zero, List.getElem?_cons_succ, then_normal, Option.getD_some, Bool.or_false, Bool.false_eq_true, up_zero, binv, ↓opt_def, eq_self, g1, d1, d2, g2, d3, d4, h8, g4, d5, g3, d6]
  refine h1 _ _ ?_
  try clear h1 K_h1
  exact T.ret (Fin.ret rfl ⟨by simp_all [pack] <;> omega, rfl⟩)

set_option maxRecDepth 10000 in
set_option maxHeartbeats 1000000 in
theorem rbnew_ok {s k h : Nat} {σ : St} (hs : 1 ≤ s ∧ s ≤ 16) (hk : 1 ≤ k ∧ k ≤ 4096) :
    ACalls Try.prog n_rbnew [.int .i64 s, .int .i64 k, .int .i64 h] σ (fun v σ' => ∃ p ns w, v = .ptr p 0 ∧ Rf σ' p ns w k h (List.replicate s (List.replicate k false)) ∧ σ.next ≤ p ∧ p < σ'.next ∧ (∀ n ∈ ns, σ.next ≤ n ∧ n < σ'.next) ∧ ∀ n x, σ.res n = some x → σ'.res n = some x) := by
  refine s_rbnew (fun wf => ?_)
  unfold c_rbnew
  refine T.seq_k (fun K_h0 h0 => ?_)
  refine T.regi hm ?_
  simp only [↓reduceIte, namesOf, List.any, I.names, aopsI, astep, ev, setd, List.set, List.cons_append, List.nil_append, List.length_cons, List.length_nil, List.replicate, then_normal, Bool.or_false, Bool.false_eq_true, up_zero, Nat.reduceAdd, Nat.reduceSub]
  refine h0 _ _ ?_
  try clear h0 K_h0
  refine T.seq_k (fun K_h1 h1 => ?_)
  refine T.regi hm ?_
  simp only [↓reduceIte, namesOf, List.any, I.names, aopsI, astep, ev, setd, List.set, List.getD, List.getElem?_cons_zero, List.getElem?_cons_succ, List.cons_append, List.nil_append, List.length_cons, List.length_nil, then_normal, Option.getD_some, Bool.or_false, Bool.or_true, Bool.false_eq_true, Nat.reduceAdd, ↓opt_def, AV.isAny, AV.cells, eq_self, fillA, Option.map, AV.fits, AV.one, List.all_cons, List.all_nil, Nat.reduceBEq, Bool.not_false, Bool.and_self, Nat.zero_add, splice, List.take, List.drop, Nat.reduceLeDiff, and_self]
  have hlt : ∀ n x, σ.res n = some x → n < σ.next := fun n x hr => wf.lt hr
  have q0 := set_quiet wf (Nat.le_refl _) (fun _ _ h => h) (k := 5) (.obj [.int .i64 k, .int .i64 h, .sl [] .nil]) (a := σ.next + 3) (by omega)
  have b0 : Rf ((σ.up 5).set (σ.next + 3) (.obj [.int .i64 k, .int .i64 h, .sl [] .nil])) (σ.next + 3) [] .nil k h [] :=
    ⟨by simp [refs], rfl, by simp, fun i n b h1 _ => by simp at h1⟩
  have n0 : ((σ.up 5).set (σ.next + 3) (.obj [.int .i64 k, .int .i64 h, .sl [] .nil])).next = σ.next + 5 := rfl
  generalize ((σ.up 5).set (σ.next + 3) (.obj [.int .i64 k, .int .i64 h, .sl [] .nil])) = σ1 at q0 b0 n0 ⊢
  have hp0 : σ.next ≤ σ.next + 3 := by omega
  have hp1 : σ.next + 3 < σ1.next := by omega
  generalize σ.next + 3 = p at b0 hp0 hp1 ⊢
  refine h1 _ _ ?_
  try clear h1 K_h1
  refine T.seq_k (fun K_h1 h1 => ?_)
  refine T.seq_k (fun K_h0 h0 => ?_)
  refine T.regi hm ?_
  simp only [↓reduceIte, namesOf, List.any, I.names, aopsI, astep, ev, setd, List.set, then_normal, Bool.or_false, Bool.false_eq_true, up_zero]
  refine h0 _ _ ?_
  try clear h0 K_h0
  refine T.block ?_
  refine T.gh (Gh.keep [0, 1, 7, 8]) ?_
  refine T.loopi (fun i ρ t => ∃ ns v, Rf t p ns v k h (List.replicate i (List.replicate k false)) ∧ (∀ n ∈ ns, σ.next ≤ n ∧ n < t.next) ∧ p < t.next ∧ ((v = .nil ∧ i = 0) ∨ ∃ g, v = .tip g ∧ t.res g = some (.tip 1) ∧ σ.next ≤ g ∧ g < t.next) ∧
      (∀ n x, σ.res n = some x → t.res n = some x) ∧ σ.next ≤ t.next ∧ ρ = [.int .i64 s, .int .i64 k, .any, .any, .any, .any, .any, .ptr p 0, .int .i64 (i : Int)] ++ List.replicate 21 .any)
    s 0 (Nat.zero_le _) ⟨[], .nil, b0, by simp, hp1, .inl ⟨rfl, rfl⟩, q0, by omega, rfl⟩ ?_
  clear q0 b0 n0 hp1 σ1
  rintro i ρ t hi ⟨ns, v, hB, hns, hpt, hv, ho, hn, rfl⟩
  refine T.seq_k (fun K_h2 h2 => ?_)
  refine T.seq_k (fun K_h0 h0 => ?_)
  refine T.regi hm ?_
  simp only [↓reduceIte, namesOf, List.any, I.names, aopsI, astep, ev, setd, List.set, List.getD, List.getElem?_cons_zero, List.getElem?_cons_succ, List.cons_append, List.nil_append, List.replicate, then_normal, Option.getD_some, Bool.or_false, Bool.false_eq_true, up_zero, binv, ↓opt_def, eq_self, reduceCtorEq]
  refine h0 _ _ ?_
  try clear h0 K_h0
  by_cases hil : i < s
  case neg =>
    refine T.cond (b := false) (by simp [ev]; omega) (fun h => by cases h) (fun _ => T.exit ?_)
    have : i = s := by omega
    subst this
    try simp only [List.cons_append, List.nil_append, List.replicate, then_normal, reduceCtorEq, inBlock_exit, then_exit]
    refine h1 _ _ ?_
    try clear h1 K_h1
    refine T.seq_k (fun K_h0 h0 => ?_)
    refine T.regi hm ?_
    simp only [↓reduceIte, namesOf, List.any, I.names, aopsI, astep, ev, setd, List.set, List.getD, List.getElem?_cons_zero, List.getElem?_cons_succ, then_normal, Option.getD_some, Bool.or_false, Bool.false_eq_true, up_zero]
    refine h0 _ _ ?_
    try clear h0 K_h0
    exact T.ret (Fin.ret rfl ⟨p, ns, v, rfl, hB, hp0, hpt, hns, ho⟩)
  refine T.cond (b := true) (by simp [ev]; omega) (fun _ => T.skip ?_) (fun h => by cases h)
  refine h2 _ _ ?_
  try clear h2 K_h2
  refine T.seq_k (fun K_h2 h2 => ?_)
  refine T.block ?_
  have hq : p + 4 < t.next + 4 := by omega
  have hkk : ((0 : Int) ≤ (k : Int) ∧ (k : Int) ≤ (k : Int) ∧ (k : Int) * ((1 : Nat) : Int) ≤ 140737488355328 ∧ (k : Int) ≤ 9223372036854775807 ∧ AV.fits 1 (.bool false) = true ∧ (k : Int) = (k : Int)) :=
    ⟨by omega, by omega, by omega, by omega, rfl, rfl⟩
  have hnl : ns.length = i := by have := hB.len; simpa using this
  have hobj := hB.obj
  have hnp : ∀ n ∈ ns, n ≠ p := fun n hn e => by subst e; exact (List.nodup_cons.1 hB.nd).1 hn
  have hle' : decide ((ns.length + 1) * 24 ≤ 70368744177664 ∧ ns.length ≤ 4611686018427387903) = true := decide_eq_true (by omega)
  have hiw := inc64' hil (by omega)
  have nxt : ∀ (t2 : St) (ρ' : List AV), t2.next = t.next + 12 → t2.res (t.next + 6) = some (.obj (boolsAV (List.replicate k false))) → (∀ n x, n ∈ ns → t.res n = some x → t2.res n = some x) → (∀ n x, σ.res n = some x → t2.res n = some x) →
      t2.res p = some (.obj [.int .i64 k, .int .i64 h, .sl (refs k (ns ++ [t.next + 6])) (.tip (t.next + 8))]) → t2.res (t.next + 8) = some (.tip 1) →
      keep [0, 1, 7, 8] 0 ρ' = [.int .i64 s, .int .i64 k, .any, .any, .any, .any, .any, .ptr p 0, .int .i64 (i : Int)] ++ List.replicate 21 .any → K_h2 ρ' t2 := by
    intro t2 ρ' g1 g2 g3 g4 g5 g6 hρ
    refine h2 _ _ ?_
    try clear h2 K_h2
    refine T.gh (Gh.keep [0, 1, 7, 8]) ?_
    rw [hρ]
    refine T.regi hm ?_
    simp only [↓reduceIte, namesOf, List.any, I.names, aopsI, astep, ev, setd, List.set, List.getD, List.getElem?_cons_zero, List.getElem?_cons_succ, List.cons_append, List.nil_append, List.replicate, then_normal, Option.getD_some, Bool.or_false, Bool.false_eq_true, up_zero, binv, ↓opt_def, eq_self, reduceCtorEq, hiw]
    refine ⟨hil, _, _, Gh.keep [0, 1, 7, 8], ns ++ [t.next + 6], .tip (t.next + 8), ⟨g5, by simp [hnl], ?_, fun j n b h1 h2 => ?_⟩, fun n hn => ?_, by omega, .inr ⟨_, rfl, g6, by omega, by omega⟩, g4, by omega, rfl⟩
    · rw [← List.cons_append]
      refine List.nodup_append.2 ⟨hB.nd, by simp, fun a ha b hb => ?_⟩
      simp only [List.mem_singleton] at hb
      subst hb
      rcases List.mem_cons.1 ha with rfl | ha
      · omega
      · have := hns a ha; omega
    · rw [List.getElem?_append] at h1
      rw [← List.replicate_succ, List.getElem?_replicate] at h2
      split at h2
      · simp only [Option.some.injEq] at h2; subst h2
        split at h1
        · rename_i hji hjl
          refine ⟨g3 n _ (List.mem_of_getElem? h1) (hB.row j n (List.replicate k false) h1 (by rw [List.getElem?_replicate, if_pos (by omega)])).1, by simp⟩
        · have : j - ns.length = 0 := by omega
          rw [this] at h1
          simp at h1; subst h1
          exact ⟨g2, by simp⟩
      · cases h2
    · rcases List.mem_append.1 hn with hn | hn
      · have := hns n hn; omega
      · simp only [List.mem_singleton] at hn; omega
  rcases hv with ⟨rfl, h0⟩ | ⟨g, rfl, hg, hg0, hg1⟩
  · have hns0 : ns = [] := List.eq_nil_of_length_eq_zero (by omega)
    have hpp : (((t.up 12).set (t.next + 6) (.obj (boolsAV (List.replicate k false)))).set (t.next + 8) (.tip 1)).res p = some (.obj [.int .i64 k, .int .i64 h, .sl (refs k ns) .nil]) := by
      rw [St.set_other _ _ (by omega), St.set_other _ _ (by omega)]; exact hobj
    refine T.regi hm ?_
    simp only [↓reduceIte, namesOf, List.any, I.names, aopsI, astep, ev, setd, List.set, List.getD, List.getElem?_cons_zero, List.getElem?_cons_succ, List.cons_append, List.nil_append, List.length_cons, List.length_nil, List.replicate, then_normal, inBlock_normal, Option.getD_some, Bool.or_false, Bool.or_true, Bool.false_eq_true, Nat.reduceAdd, ↓opt_def, AV.isAny, AV.cells, ldc, List.map_cons, List.map_nil, Int.toNat_natCast, and_true, eq_self, reduceCtorEq, decide_true, hobj, hq, hkk, held, List.length_replicate, St.up_res, zrowb_av, bools_flat, srcOf, AV.er, AV.er1, refs_app, refs_len, refs_fits, List.isEmpty, hle', hpp, bools_len, AV.fits, AV.one, List.all_cons, List.all_nil, Nat.reduceBEq, Bool.not_false, Bool.and_self, Nat.zero_add, splice, List.take, List.drop, Nat.reduceLeDiff]
    subst hns0
    refine nxt _ _ rfl ?_ (fun n x hn => by cases hn) (fun n x hr => ?_) (by simp [refs]) ?_ rfl
    · rw [St.set_other _ _ (by omega), St.set_other _ _ (by omega)]; simp
    · have := hlt n x hr
      rw [St.set_other _ _ (by omega), St.set_other _ _ (by omega), St.set_other _ _ (by omega)]; exact ho n x hr
    · rw [St.set_other _ _ (by omega)]; simp
  · have hgp : g ≠ p := by rintro rfl; rw [hobj] at hg; cases hg
    have hgn : ∀ n ∈ ns, n ≠ g := by
      rintro n hn rfl
      obtain ⟨j, hj⟩ := List.getElem?_of_mem hn
      have hjl : j < i := by rw [← hnl]; exact (List.getElem?_eq_some_iff.1 hj).1
      have := (hB.row j n (List.replicate k false) hj (by rw [List.getElem?_replicate, if_pos hjl])).1
      rw [hg] at this; cases this
    have hgg : ((t.up 12).set (t.next + 6) (.obj (boolsAV (List.replicate k false)))).res g = some (.tip 1) := by
      rw [St.set_other _ _ (by omega)]; exact hg
    have hdel : ∀ (u : St) n, n ≠ g → (u.del g).res n = u.res n := fun u n h => by simp [St.del, h]
    have hpp : ((((t.up 12).set (t.next + 6) (.obj (boolsAV (List.replicate k false)))).del g).set (t.next + 8) (.tip 1)).res p = some (.obj [.int .i64 k, .int .i64 h, .sl (refs k ns) (.tip g)]) := by
      rw [St.set_other _ _ (by omega), hdel _ _ (Ne.symm hgp), St.set_other _ _ (by omega)]; exact hobj
    refine T.regi hm ?_
    simp only [↓reduceIte, namesOf, List.any, I.names, aopsI, astep, ev, setd, List.set, List.getD, List.getElem?_cons_zero, List.getElem?_cons_succ, List.cons_append, List.nil_append, List.length_cons, List.length_nil, List.replicate, then_normal, inBlock_normal, Option.getD_some, Bool.or_false, Bool.or_true, Nat.reduceAdd, ↓opt_def, AV.isAny, AV.cells, ldc, List.map_cons, List.map_nil, Int.toNat_natCast, and_true, eq_self, reduceCtorEq, decide_true, hobj, hq, hkk, held, List.length_replicate, St.up_res, zrowb_av, bools_flat, srcOf, AV.er, AV.er1, refs_app, refs_len, refs_fits, hle', hgg, hpp, bools_len, AV.fits, AV.one, List.all_cons, List.all_nil, Nat.reduceBEq, Bool.not_false, Bool.and_self, Nat.zero_add, splice, List.take, List.drop, Nat.reduceLeDiff]
    refine nxt _ _ rfl ?_ (fun n x hn hr => ?_) (fun n x hr => ?_) (by simp) ?_ rfl
    · rw [St.set_other _ _ (by omega), St.set_other _ _ (by omega), hdel _ _ (by omega)]; simp
    · have := hns n hn
      rw [St.set_other _ _ (hnp n hn), St.set_other _ _ (by omega), hdel _ _ (hgn n hn), St.set_other _ _ (by omega)]; exact hr
    · have := hlt n x hr
      rw [St.set_other _ _ (by omega), St.set_other _ _ (by omega), hdel _ _ (by omega), St.set_other _ _ (by omega)]; exact ho n x hr
    · rw [St.set_other _ _ (by omega)]; simp
end Go.VL

/- Contracts: the document's filter: an Id's places; added to; asked. -/
namespace Go.VL
open Go.Proofs

def placesI (id bits n : Nat) : List Int := (List.range n).map fun i => (placeB id bits i : Int)
theorem placesI_succ (id bits n : Nat) : placesI id bits (n + 1) = placesI id bits n ++ [(placeB id bits n : Int)] := by simp [placesI, List.range_succ]
theorem placesI_len (id bits n : Nat) : (placesI id bits n).length = n := by simp [placesI]
theorem placesI_get {id bits n i : Nat} (h : i < n) : (nums .i64 (placesI id bits n))[i]? = some (.int .i64 (placeB id bits i : Int)) := by simp [nums, placesI, h]

set_option maxRecDepth 10000 in
set_option maxHeartbeats 1000000 in
theorem rplaces_ok {σ : St} {p : Nat} {ns : List Nat} {v : Ver} {bits hashes : Nat} {rows : List (List Bool)} {id : Nat} (hB : Rf σ p ns v bits hashes rows) (hb : 1 ≤ bits ∧ bits ≤ 4096) (hh : hashes ≤ 8) (hl : 1 ≤ rows.length ∧ rows.length ≤ 16) (hid : id < 18446744073709551616) :
    ACalls Try.prog n_rplaces [.ptr p 0, .int .u64 id] σ (fun w σ' => w = .tup [.int .i64 (id % rows.length : Nat), .sl (nums .i64 (placesI id bits hashes)) .none] ∧ σ' = σ) := by
  refine s_rplaces (fun wf => ?_)
  unfold c_rplaces
  have hp := wf.lt hB.obj
  have hx := crcOf_lt (beB 8 id)
  have hy := crcOf_lt (beB 8 id ++ [1])
  refine T.seq_k (fun K_h0 h0 => ?_)
  refine T.regi hm ?_
  simp only [↓reduceIte, namesOf, List.any, I.names, aopsI, astep, ev, setd, List.set, List.cons_append, List.nil_append, List.length_cons, List.length_nil, List.replicate, then_normal, Bool.or_false, Bool.false_eq_true, up_zero, Nat.reduceAdd, Nat.reduceSub]
  refine h0 _ _ ?_
  try clear h0 K_h0
  refine T.seq_k (fun K_h1 h1 => ?_)
  refine T.regi hm ?_
  simp only [↓reduceIte, namesOf, List.any, I.names, aopsI, astep, ev, setd, List.set, List.getD, List.getElem?_cons_zero, List.getElem?_cons_succ, then_normal, Option.getD_some, Bool.or_false, Bool.false_eq_true, up_zero, List.map_cons, List.map_nil]
  refine (rbytes_ok (w := 8) (by omega) hid).mono ?_
  rintro w σ1 (⟨h, _⟩ | ⟨h, o1, rfl⟩)
  · cases h
  try simp only [↓reduceIte, namesOf, List.any, I.names, aops, aopsI, aopsT, qstep, CPt, qget, Tbl.get, astep, ev, setd, List.set, List.getD, List.getElem?_cons_zero, List.getElem?_cons_succ, List.getElem?_nil, List.cons_append, List.nil_append, List.length_cons, List.length_nil, List.replicate, then_normal, inBlock_normal, Option.getD_some, Option.getD_none, Bool.or_false, Bool.or_true, Bool.true_or, Bool.false_or, Bool.false_eq_true, if_false, if_true, up_zero, Nat.reduceAdd, Nat.reduceSub, binv, ↓opt_def, AV.isAny, AV.cells, ldc, List.map_cons, List.map_nil, St.set_next, St.set_same, St.up_next, Int.natCast_nonneg, lt_len, le_len, Int.toNat_natCast, true_and, and_true, eq_self, reduceCtorEq, decide_true, List.length_singleton, er_int, er_bool, er_str, up_zero]
  refine h1 _ _ ?_
  try clear h1 K_h1
  refine T.seq_k (fun K_h1 h1 => ?_)
  refine T.regi hm ?_
  simp only [↓reduceIte, namesOf, List.any, I.names, aopsI, astep, ev, setd, List.set, List.getD, List.getElem?_cons_zero, List.getElem?_cons_succ, then_normal, Option.getD_some, Bool.or_false, Bool.false_eq_true, up_zero, List.map_cons, List.map_nil]
  refine (rsum_ok (by rw [beB_len]; omega)).mono ?_
  rintro w σ2 ⟨rfl, rfl⟩
  try simp only [u64_crc]
  refine h1 _ _ ?_
  try clear h1 K_h1
  refine T.seq_k (fun K_h1 h1 => ?_)
  have hb1 : [AV.int .u8 1] = bytesAV [1] := rfl
  have hat : ∀ k, (σ2.up k).res h = some (.tip 1) := fun _ => o1.at_
  have hns : List.length [AV.int .u8 1] = 1 := rfl
  refine T.regi hm ?_
  simp only [↓reduceIte, namesOf, List.any, I.names, aopsI, astep, ev, setd, List.set, List.getD, List.getElem?_cons_zero, List.getElem?_cons_succ, List.length_cons, List.length_nil, then_normal, Option.getD_some, Bool.or_false, Bool.or_true, Nat.reduceAdd, List.map_cons, List.map_nil, eq_self, decide_true, held, hb1, bytesAV_er, srcOf, bytesAV_app, bytes_all, hat, Bool.and_self, bytesAV_len, beB_len, Nat.reduceMul, Nat.reduceLeDiff, and_self]
  refine (rsum_ok (l := beB 8 id ++ [1]) (by simp [beB_len])).mono ?_
  rintro w σ3 ⟨rfl, rfl⟩
  try simp only [u64_crc]
  have k0 : Like σ (((σ2.up 6).del h).set (σ2.next + 2) (Res.tip 1)) := (((Like.one o1).up 6).del o1.lo).set _ (by have := o1.lo; have := o1.hi; omega)
  generalize (((σ2.up 6).del h).set (σ2.next + 2) (Res.tip 1)) = τ at k0 ⊢
  clear hat o1
  refine h1 _ _ ?_
  try clear h1 K_h1
  refine T.seq_k (fun K_h0 h0 => ?_)
  refine T.regi hm ?_
  simp only [↓reduceIte, namesOf, List.any, I.names, aopsI, astep, ev, setd, List.set, then_normal, Bool.or_false, Bool.false_eq_true, up_zero]
  refine h0 _ _ ?_
  try clear h0 K_h0
  refine T.seq_k (fun K_h1 h1 => ?_)
  refine T.seq_k (fun K_h0 h0 => ?_)
  refine T.regi hm ?_
  simp only [↓reduceIte, namesOf, List.any, I.names, aopsI, astep, ev, setd, List.set, then_normal, Bool.or_false, Bool.false_eq_true, up_zero]
  refine h0 _ _ ?_
  try clear h0 K_h0
  refine T.block ?_
  refine T.gh (Gh.keep [0, 1, 7, 8, 9, 10]) ?_
  refine T.loopi (fun i ρ t => Like σ t ∧ ∃ vv, ((vv = .nil ∧ i = 0) ∨ ∃ g, vv = .tip g ∧ t.res g = some (.tip 1) ∧ σ.next ≤ g ∧ g < t.next) ∧
      ρ = [.ptr p 0, .int .u64 id, .any, .any, .any, .any, .any, .int .u64 ((crcOf (beB 8 id) + i * crcOf (beB 8 id ++ [1]) : Nat) : Int), .int .u64 (crcOf (beB 8 id ++ [1]) : Int), .sl (nums .i64 (placesI id bits i)) vv, .int .i64 (i : Int)] ++ List.replicate 42 .any)
    hashes 0 (Nat.zero_le _) ⟨k0, .nil, .inl ⟨rfl, rfl⟩, by rw [Nat.zero_mul, Nat.add_zero]; rfl⟩ ?_
  clear k0 τ
  rintro i ρ τ hi ⟨k0, vv, hvv, rfl⟩
  have hobj := k0.get hp hB.obj
  have hnl := hB.len
  refine T.seq_k (fun K_h2 h2 => ?_)
  refine T.seq_k (fun K_h0 h0 => ?_)
  refine T.regi hm ?_
  simp only [↓reduceIte, namesOf, List.any, I.names, aopsI, astep, ev, setd, List.set, List.getD, List.getElem?_cons_zero, List.getElem?_cons_succ, List.cons_append, List.nil_append, List.replicate, then_normal, Option.getD_some, Bool.or_false, Bool.false_eq_true, up_zero, Nat.reduceAdd, binv, ↓opt_def, ldc, eq_self, reduceCtorEq, hobj]
  refine h0 _ _ ?_
  try clear h0 K_h0
  have e4 := u64w (n := rows.length) (by omega)
  have e6 : ¬ ((rows.length : Int) = 0) := by omega
  by_cases hil : i < hashes
  case neg =>
    refine T.cond (b := false) (by simp [ev]; omega) (fun h => by cases h) (fun _ => T.exit ?_)
    have : i = hashes := by omega
    subst this
    try simp only [List.cons_append, List.nil_append, List.replicate, then_normal, reduceCtorEq, inBlock_exit, then_exit]
    refine h1 _ _ ?_
    try clear h1 K_h1
    have hmo := Nat.mod_lt id (show 0 < rows.length by omega)
    have e7 : IntKind.i64.wrap ((id % rows.length : Nat) : Int) = ((id % rows.length : Nat) : Int) := wrap64 (by omega) (by omega)
    refine T.seq_k (fun K_h0 h0 => ?_)
    refine T.regi hm ?_
    simp only [↓reduceIte, namesOf, List.any, I.names, aopsI, astep, ev, setd, List.set, List.getD, List.getElem?_cons_zero, List.getElem?_cons_succ, then_normal, Option.getD_some, Bool.or_false, Bool.false_eq_true, up_zero, Nat.reduceAdd, binv, ↓opt_def, ldc, eq_self, hobj, refs_len, hnl, e4, e6, tmodN, e7]
    refine h0 _ _ ?_
    try clear h0 K_h0
    exact T.ret (Fin.quietw rfl (Wk.tup2r (Wk.sl _ _)) ⟨trivial, ⟨nb_nums _ _ _, trivial⟩, trivial⟩ (fun n x hn => k0.get (wf.lt hn) hn) ⟨rfl, rfl⟩)
  refine T.cond (b := true) (by simp [ev]; omega) (fun _ => T.skip ?_) (fun h => by cases h)
  refine h2 _ _ ?_
  try clear h2 K_h2
  have hmul : (i + 1) * crcOf (beB 8 id ++ [1]) ≤ 9 * 4294967296 := Nat.mul_le_mul (by omega) (by omega)
  have hmul' : (i + 1) * crcOf (beB 8 id ++ [1]) = i * crcOf (beB 8 id ++ [1]) + crcOf (beB 8 id ++ [1]) := by rw [Nat.add_mul, Nat.one_mul]
  have e5 := u64w (n := bits) (by omega)
  have e7 : ¬ ((bits : Int) = 0) := by omega
  have hpl : placeB id bits i < bits := Nat.mod_lt _ (by omega)
  have e8 : IntKind.i64.wrap (((crcOf (beB 8 id) + i * crcOf (beB 8 id ++ [1])) % bits : Nat) : Int) = (placeB id bits i : Int) := wrap64 (by omega) (by unfold placeB at hpl; omega)
  have e9 : IntKind.u64.wrap (((crcOf (beB 8 id) + i * crcOf (beB 8 id ++ [1]) : Nat) : Int) + (crcOf (beB 8 id ++ [1]) : Int)) = ((crcOf (beB 8 id) + (i + 1) * crcOf (beB 8 id ++ [1]) : Nat) : Int) := by
    rw [← Int.natCast_add]
    rw [u64w (by omega)]
    rw [hmul']; omega
  have hiw := inc64' hil (by omega)
  have hnum1 : ∀ x : Int, [AV.int .i64 x] = nums .i64 [x] := fun _ => rfl
  have hnapp : nums .i64 (placesI id bits i) ++ nums .i64 [(placeB id bits i : Int)] = nums .i64 (placesI id bits (i + 1)) := by rw [placesI_succ]; simp [nums]
  have hnall : ∀ l : List Int, (nums .i64 l).all (AV.fits 1) = true := fun l => by simp [nums, AV.fits, AV.isAny, AV.cells, AV.one]
  have hnfit : ∀ x : Int, AV.fits 1 (.int .i64 x) = true := fun _ => rfl
  have hner : ∀ l : List Int, (nums .i64 l).map AV.er = nums .i64 l := fun l => by simp only [nums, List.map_map]; rfl
  have hle : decide ((i + 1) * 8 ≤ 70368744177664 ∧ i + 1 ≤ 4611686018427387904) = true := decide_eq_true (by omega)
  refine T.seq_k (fun K_h2 h2 => ?_)
  refine T.block ?_
  have nxt : ∀ (t2 : St) (g2 : Nat) (ρ' : List AV), Like σ t2 → t2.res g2 = some (.tip 1) → σ.next ≤ g2 → g2 < t2.next →
      keep [0, 1, 7, 8, 9, 10] 0 ρ' = [.ptr p 0, .int .u64 id, .any, .any, .any, .any, .any, .int .u64 ((crcOf (beB 8 id) + (i + 1) * crcOf (beB 8 id ++ [1]) : Nat) : Int), .int .u64 (crcOf (beB 8 id ++ [1]) : Int), .sl (nums .i64 (placesI id bits (i + 1))) (.tip g2), .int .i64 (i : Int)] ++ List.replicate 42 .any → K_h2 ρ' t2 := by
    intro t2 g2 ρ' q1 q2 q3 q4 hρ
    refine h2 _ _ ?_
    try clear h2 K_h2
    refine T.gh (Gh.keep [0, 1, 7, 8, 9, 10]) ?_
    rw [hρ]
    refine T.regi hm ?_
    simp only [↓reduceIte, namesOf, List.any, I.names, aopsI, astep, ev, setd, List.set, List.getD, List.getElem?_cons_zero, List.getElem?_cons_succ, List.cons_append, List.nil_append, List.replicate, then_normal, Option.getD_some, Bool.or_false, Bool.false_eq_true, up_zero, binv, ↓opt_def, eq_self, reduceCtorEq, hiw]
    exact ⟨hil, _, _, Gh.keep [0, 1, 7, 8, 9, 10], q1, _, .inr ⟨g2, rfl, q2, q3, q4⟩, rfl⟩
  have hkn := k0.next
  rcases hvv with ⟨rfl, h0⟩ | ⟨g, rfl, hg, hg0, hg1⟩
  · have hnil : nums .i64 (placesI id bits i) = [] := by rw [h0]; rfl
    have hq := hnapp
    rw [hnil, List.nil_append] at hq
    refine T.seq_k (fun K_h0 h0 => ?_)
    refine T.regi hm ?_
    simp only [↓reduceIte, namesOf, List.any, I.names, aopsI, astep, ev, setd, List.set, List.getD, List.getElem?_cons_zero, List.getElem?_cons_succ, List.cons_append, List.nil_append, List.length_cons, List.length_nil, List.replicate, then_normal, Option.getD_some, Bool.or_false, Bool.or_true, Nat.reduceAdd, binv, ↓opt_def, ldc, List.map_cons, List.map_nil, eq_self, reduceCtorEq, decide_true, hobj, e5, e7, tmodN, e8, held, hnum1, hnil, hnall, hner, Bool.and_self, srcOf, List.nil_append, nums_len, List.isEmpty, St.up_res, Nat.reduceMul, Nat.reduceLeDiff, and_self, Nat.zero_add]
    refine h0 _ _ ?_
    try clear h0 K_h0
    refine T.regi hm ?_
    simp only [↓reduceIte, namesOf, List.any, I.names, aopsI, astep, ev, setd, List.set, List.getD, List.getElem?_cons_zero, List.getElem?_cons_succ, List.cons_append, List.nil_append, List.replicate, then_normal, inBlock_normal, Option.getD_some, Bool.or_false, Bool.false_eq_true, up_zero, binv, ↓opt_def, eq_self, reduceCtorEq, e9]
    refine nxt _ _ _ ((k0.up 12).set _ ?_) (St.set_same _ _ _) ?_ ?_ (by rw [← hq]; rfl)
    all_goals first | omega | (simp; done) | (simp; omega) | (show _ < τ.next + 12; omega)
  · have hgg : ∀ k, (τ.up k).res g = some (.tip 1) := fun _ => hg
    have hle2 : decide ((i + 1) * 8 ≤ 70368744177664 ∧ i ≤ 4611686018427387903) = true := decide_eq_true (by omega)
    refine T.seq_k (fun K_h0 h0 => ?_)
    refine T.regi hm ?_
    simp only [↓reduceIte, namesOf, List.any, I.names, aopsI, astep, ev, setd, List.set, List.getD, List.getElem?_cons_zero, List.getElem?_cons_succ, List.cons_append, List.length_cons, List.length_nil, List.replicate, then_normal, Option.getD_some, Bool.or_false, Bool.or_true, Nat.reduceAdd, binv, ↓opt_def, ldc, List.map_cons, List.map_nil, eq_self, reduceCtorEq, hobj, e5, e7, tmodN, e8, held, hnum1, hnapp, hnall, hner, Bool.and_self, srcOf, nums_len, placesI_len, St.up_res, Nat.reduceLeDiff, hgg, hle2]
    refine h0 _ _ ?_
    try clear h0 K_h0
    refine T.regi hm ?_
    simp only [↓reduceIte, namesOf, List.any, I.names, aopsI, astep, ev, setd, List.set, List.getD, List.getElem?_cons_zero, List.getElem?_cons_succ, List.cons_append, List.nil_append, List.replicate, then_normal, inBlock_normal, Option.getD_some, Bool.or_false, Bool.false_eq_true, up_zero, binv, ↓opt_def, eq_self, reduceCtorEq, e9]
    refine nxt _ _ _ (((k0.up 12).del hg0).set _ ?_) (St.set_same _ _ _) ?_ ?_ rfl
    all_goals first | omega | (simp; done) | (simp; omega) | (show _ < τ.next + 12; omega)

def rputN (id bits : Nat) (row : List Bool) : Nat → List Bool
  | 0 => row
  | i + 1 => (rputN id bits row i).set (placeB id bits i) true
theorem rputN_len (id bits : Nat) (row : List Bool) : ∀ i, (rputN id bits row i).length = row.length
  | 0 => rfl
  | i + 1 => by rw [rputN, List.length_set, rputN_len]
def raddF (id bits hashes : Nat) (rows : List (List Bool)) : List (List Bool) := rows.set (id % rows.length) (rputN id bits (rows.getD (id % rows.length) []) hashes)
def rhasN (id bits : Nat) (row : List Bool) (n : Nat) : Bool := (List.range n).all fun i => row.getD (placeB id bits i) false
def rhasF (id bits hashes : Nat) (rows : List (List Bool)) : Bool := rhasN id bits (rows.getD (id % rows.length) []) hashes

/-- the document's filter, that may be -/
structure RfOk (bits hashes : Nat) (rows : List (List Bool)) : Prop where
  hb : 1 ≤ bits ∧ bits ≤ 4096
  hh : hashes ≤ 8
  hr : 1 ≤ rows.length ∧ rows.length ≤ 16

set_option maxRecDepth 10000 in
set_option maxHeartbeats 1000000 in
theorem rbadd_ok {σ : St} {p : Nat} {ns : List Nat} {v : Ver} {bits hashes : Nat} {rows : List (List Bool)} {id : Nat} (hB : Rf σ p ns v bits hashes rows) (ho : RfOk bits hashes rows) (hid : id < 18446744073709551616) :
    ACalls Try.prog n_rbadd [.ptr p 0, .int .u64 id] σ (fun w σ' => w = .tup [] ∧ Rf σ' p ns v bits hashes (raddF id bits hashes rows) ∧ σ'.next = σ.next ∧ ∀ n, n ∉ ns → σ'.res n = σ.res n) := by
  refine s_rbadd (fun wf => ?_)
  unfold c_rbadd
  obtain ⟨hb, hh, hrl⟩ := ho
  have hmo := Nat.mod_lt id (show 0 < rows.length by omega)
  have hnl := hB.len
  obtain ⟨s, hs⟩ : ∃ s, ns[id % rows.length]? = some s := ⟨ns[id % rows.length]'(by omega), by simp [hnl, hmo]⟩
  obtain ⟨row, hrow⟩ : ∃ b, rows[id % rows.length]? = some b := ⟨rows[id % rows.length], by simp [hmo]⟩
  obtain ⟨hr1, hr2⟩ := hB.row _ _ _ hs hrow
  have hsp : s ≠ p := fun e => (List.nodup_cons.1 hB.nd).1 (e ▸ List.mem_of_getElem? hs)
  refine T.seq_k (fun K_h1 h1 => ?_)
  refine T.regi hm ?_
  simp only [↓reduceIte, namesOf, List.any, I.names, aopsI, astep, ev, setd, List.set, List.getD, List.getElem?_cons_zero, List.getElem?_cons_succ, List.cons_append, List.nil_append, List.length_cons, List.length_nil, List.replicate, then_normal, Option.getD_some, Bool.or_false, Bool.false_eq_true, up_zero, Nat.reduceAdd, Nat.reduceSub, ↓opt_def, List.map_cons, List.map_nil]
  refine (rplaces_ok hB hb hh hrl hid).mono ?_
  rintro w σ1 ⟨rfl, rfl⟩
  try simp only [List.getElem?_cons_zero, List.getElem?_cons_succ]
  refine h1 _ _ ?_
  try clear h1 K_h1
  refine T.seq_k (fun K_h0 h0 => ?_)
  refine T.regi hm ?_
  simp only [↓reduceIte, namesOf, List.any, I.names, aopsI, astep, ev, setd, List.set, then_normal, Bool.or_false, Bool.false_eq_true, up_zero]
  refine h0 _ _ ?_
  try clear h0 K_h0
  refine T.block ?_
  refine T.gh (Gh.keep [0, 4, 5, 6]) ?_
  refine T.loopi (fun i ρ t => t = σ1.set s (.obj (boolsAV (rputN id bits row i))) ∧ ρ = [.ptr p 0, .any, .any, .any, .int .i64 (id % rows.length : Nat), .sl (nums .i64 (placesI id bits hashes)) .none, .int .i64 (i : Int)] ++ List.replicate 24 .any)
    hashes 0 (Nat.zero_le _) ⟨(St.set_self hr1).symm, rfl⟩ ?_
  rintro i ρ t hi ⟨rfl, rfl⟩
  refine T.seq_k (fun K_h2 h2 => ?_)
  refine T.seq_k (fun K_h0 h0 => ?_)
  refine T.regi hm ?_
  simp only [↓reduceIte, namesOf, List.any, I.names, aopsI, astep, ev, setd, List.set, List.getD, List.getElem?_cons_zero, List.getElem?_cons_succ, List.cons_append, List.nil_append, List.replicate, then_normal, Option.getD_some, Bool.or_false, Bool.false_eq_true, up_zero, binv, ↓opt_def, eq_self, nums_len, placesI_len]
  refine h0 _ _ ?_
  try clear h0 K_h0
  by_cases hil : i < hashes
  case neg =>
    refine T.cond (b := false) (by simp [ev]; omega) (fun h => by cases h) (fun _ => T.exit ?_)
    have : i = hashes := by omega
    subst this
    try simp only [List.cons_append, List.nil_append, List.replicate, inBlock_exit, then_exit]
    refine Fin.retn rfl ⟨rfl, ⟨by rw [St.set_other _ _ (Ne.symm hsp)]; exact hB.obj, by rw [raddF, List.length_set]; exact hnl, hB.nd, fun j n b h1 h2 => ?_⟩, rfl, fun n hn => St.set_other _ _ (fun e => hn (e ▸ List.mem_of_getElem? hs))⟩
    have hgd : rows.getD (id % rows.length) [] = row := by simp [List.getD, hrow]
    rw [raddF, hgd, List.getElem?_set] at h2
    split at h2
    · rename_i hii
      subst hii
      simp only [Option.some.injEq] at h2; subst h2
      rw [hs] at h1
      simp only [Option.some.injEq] at h1; subst h1
      exact ⟨by simp, by rw [rputN_len, hr2]⟩
    · rename_i hii
      have hne : n ≠ s := by
        rintro rfl
        exact hii (nodup_idx (List.nodup_cons.1 hB.nd).2 hs h1)
      rw [St.set_other _ _ hne]
      exact hB.row j n b h1 h2
  refine T.cond (b := true) (by simp [ev]; omega) (fun _ => T.skip ?_) (fun h => by cases h)
  refine h2 _ _ ?_
  try clear h2 K_h2
  have hobj : (σ1.set s (.obj (boolsAV (rputN id bits row i)))).res p = some (.obj [.int .i64 bits, .int .i64 hashes, .sl (refs bits ns) v]) := by rw [St.set_other _ _ (Ne.symm hsp)]; exact hB.obj
  have e8 : ((id % rows.length : Nat) : Int) < (ns.length : Int) := by omega
  have e9 := refs_get (k := bits) hs
  have hpl : placeB id bits i < bits := Nat.mod_lt _ (by omega)
  have e10 : (placeB id bits i : Int) < (bits : Int) := by omega
  have e11 := placesI_get (id := id) (bits := bits) hil
  have hili : (i : Int) < (hashes : Int) := by omega
  have hlen := rputN_len id bits row i
  have e12 : placeB id bits i + 1 ≤ (boolsAV (rputN id bits row i)).length := by rw [bools_len, hlen, hr2]; omega
  have e13 := bools_set (l := rputN id bits row i) (i := placeB id bits i) (by rw [hlen, hr2]; exact hpl) true
  have hiw := inc64' hil (by omega)
  refine T.seq_k (fun K_h2 h2 => ?_)
  refine T.block ?_
  refine T.regi hm ?_
  simp only [↓reduceIte, namesOf, List.any, I.names, aopsI, astep, ev, setd, List.set, List.getD, List.getElem?_cons_zero, List.getElem?_cons_succ, List.cons_append, List.nil_append, List.length_cons, List.length_nil, List.replicate, then_normal, inBlock_normal, Option.getD_some, Bool.or_false, Bool.false_eq_true, up_zero, ↓opt_def, AV.isAny, AV.cells, ldc, St.set_same, Int.natCast_nonneg, Int.toNat_natCast, and_true, eq_self, decide_true, hobj, refs_len, e8, e9, e10, e11, e12, nums_len, placesI_len, hili, Nat.zero_add, Nat.mul_one, AV.fits, AV.one, List.all_cons, List.all_nil, Nat.reduceBEq, Bool.not_false, Bool.and_self, Nat.zero_add, splice, St.set_set]
  refine h2 _ _ ?_
  try clear h2 K_h2
  refine T.regi hm ?_
  simp only [↓reduceIte, namesOf, List.any, I.names, aopsI, astep, ev, setd, List.set, List.getD, List.getElem?_cons_zero, List.getElem?_cons_succ, List.cons_append, List.nil_append, List.replicate, then_normal, Option.getD_some, Bool.or_false, Bool.false_eq_true, up_zero, binv, ↓opt_def, eq_self, hiw]
  exact ⟨hil, _, _, Gh.keep [0, 4, 5, 6], by rw [rputN, ← e13]; rfl, rfl⟩

set_option maxRecDepth 10000 in
set_option maxHeartbeats 1000000 in
theorem rbhas_ok {σ : St} {p : Nat} {ns : List Nat} {v : Ver} {bits hashes : Nat} {rows : List (List Bool)} {id : Nat} (hB : Rf σ p ns v bits hashes rows) (ho : RfOk bits hashes rows) (hid : id < 18446744073709551616) :
    ACalls Try.prog n_rbhas [.ptr p 0, .int .u64 id] σ (fun w σ' => w = .bool (rhasF id bits hashes rows) ∧ σ' = σ) := by
  refine s_rbhas (fun wf => ?_)
  unfold c_rbhas
  obtain ⟨hb, hh, hrl⟩ := ho
  have hmo := Nat.mod_lt id (show 0 < rows.length by omega)
  have hnl := hB.len
  obtain ⟨s, hs⟩ : ∃ s, ns[id % rows.length]? = some s := ⟨ns[id % rows.length]'(by omega), by simp [hnl, hmo]⟩
  obtain ⟨row, hrow⟩ : ∃ b, rows[id % rows.length]? = some b := ⟨rows[id % rows.length], by simp [hmo]⟩
  obtain ⟨hr1, hr2⟩ := hB.row _ _ _ hs hrow
  have hF : rhasF id bits hashes rows = rhasN id bits row hashes := by simp [rhasF, List.getD, hrow]
  refine T.seq_k (fun K_h0 h0 => ?_)
  refine T.regi hm ?_
  simp only [↓reduceIte, namesOf, List.any, I.names, aopsI, astep, ev, setd, List.set, List.cons_append, List.nil_append, List.length_cons, List.length_nil, List.replicate, then_normal, Bool.or_false, Bool.false_eq_true, up_zero, Nat.reduceAdd, Nat.reduceSub]
  refine h0 _ _ ?_
  try clear h0 K_h0
  refine T.seq_k (fun K_h1 h1 => ?_)
  refine T.regi hm ?_
  simp only [↓reduceIte, namesOf, List.any, I.names, aopsI, astep, ev, setd, List.set, List.getD, List.getElem?_cons_zero, List.getElem?_cons_succ, then_normal, Option.getD_some, Bool.or_false, Bool.false_eq_true, up_zero, ↓opt_def, List.map_cons, List.map_nil]
  refine (rplaces_ok hB hb hh hrl hid).mono ?_
  rintro w σ1 ⟨rfl, rfl⟩
  try simp only [List.getElem?_cons_zero, List.getElem?_cons_succ]
  refine h1 _ _ ?_
  try clear h1 K_h1
  refine T.seq_k (fun K_h1 h1 => ?_)
  refine T.seq_k (fun K_h0 h0 => ?_)
  refine T.regi hm ?_
  simp only [↓reduceIte, namesOf, List.any, I.names, aopsI, astep, ev, setd, List.set, then_normal, Bool.or_false, Bool.false_eq_true, up_zero]
  refine h0 _ _ ?_
  try clear h0 K_h0
  refine T.block ?_
  refine T.gh (Gh.keep [0, 5, 6, 7]) ?_
  refine T.loopi (fun i ρ t => t = σ1 ∧ rhasN id bits row i = true ∧ ρ = [.ptr p 0, .any, .any, .any, .any, .int .i64 (id % rows.length : Nat), .sl (nums .i64 (placesI id bits hashes)) .none, .int .i64 (i : Int)] ++ List.replicate 26 .any)
    hashes 0 (Nat.zero_le _) ⟨rfl, rfl, rfl⟩ ?_
  rintro i ρ t hi ⟨rfl, hpre, rfl⟩
  refine T.seq_k (fun K_h2 h2 => ?_)
  refine T.seq_k (fun K_h0 h0 => ?_)
  refine T.regi hm ?_
  simp only [↓reduceIte, namesOf, List.any, I.names, aopsI, astep, ev, setd, List.set, List.getD, List.getElem?_cons_zero, List.getElem?_cons_succ, List.cons_append, List.nil_append, List.replicate, then_normal, Option.getD_some, Bool.or_false, Bool.false_eq_true, up_zero, binv, ↓opt_def, eq_self, nums_len, placesI_len]
  refine h0 _ _ ?_
  try clear h0 K_h0
  by_cases hil : i < hashes
  case neg =>
    refine T.cond (b := false) (by simp [ev]; omega) (fun h => by cases h) (fun _ => T.exit ?_)
    have : i = hashes := by omega
    subst this
    try simp only [List.cons_append, List.nil_append, List.replicate, then_normal, inBlock_exit, then_exit]
    refine h1 _ _ ?_
    try clear h1 K_h1
    refine T.seq_k (fun K_h0 h0 => ?_)
    refine T.regi hm ?_
    simp only [↓reduceIte, namesOf, List.any, I.names, aopsI, astep, ev, setd, List.set, then_normal, Bool.or_false, Bool.false_eq_true, up_zero]
    refine h0 _ _ ?_
    try clear h0 K_h0
    exact T.ret (Fin.ret rfl ⟨by rw [hF, hpre]; rfl, rfl⟩)
  refine T.cond (b := true) (by simp [ev]; omega) (fun _ => T.skip ?_) (fun h => by cases h)
  refine h2 _ _ ?_
  try clear h2 K_h2
  have hobj := hB.obj
  have e8 : ((id % rows.length : Nat) : Int) < (ns.length : Int) := by omega
  have e9 := refs_get (k := bits) hs
  have hpl : placeB id bits i < bits := Nat.mod_lt _ (by omega)
  have e10 : (placeB id bits i : Int) < (bits : Int) := by omega
  have e11 := placesI_get (id := id) (bits := bits) hil
  have hili : (i : Int) < (hashes : Int) := by omega
  have e12 := bools_get (l := row) (i := placeB id bits i) (by omega)
  have hiw := inc64' hil (by omega)
  have hgd : row.getD (placeB id bits i) false = row[placeB id bits i]'(by omega) := by simp [List.getD, show placeB id bits i < row.length by omega]
  have hsuc : rhasN id bits row (i + 1) = row[placeB id bits i]'(by omega) := by
    unfold rhasN at hpre ⊢
    rw [List.range_succ, List.all_append, hpre, ← hgd]; simp
  refine T.seq_k (fun K_h2 h2 => ?_)
  refine T.block ?_
  cases hbt : row[placeB id bits i]'(by omega) with
  | true =>
    refine T.seq_k (fun K_h0 h0 => ?_)
    refine T.regi hm ?_
    simp only [↓reduceIte, namesOf, List.any, I.names, aopsI, astep, ev, setd, List.set, List.getD, List.getElem?_cons_zero, List.getElem?_cons_succ, List.cons_append, List.nil_append, List.length_cons, List.length_nil, List.replicate, then_normal, Option.getD_some, Bool.or_false, Bool.false_eq_true, up_zero, ↓opt_def, AV.cells, ldc, Int.natCast_nonneg, Int.toNat_natCast, and_true, eq_self, decide_true, hobj, refs_len, e8, e9, e10, e11, e12, hbt, hr1, nums_len, placesI_len, hili, Nat.zero_add, Nat.mul_one, Bool.not_true]
    refine h0 _ _ ?_
    try clear h0 K_h0
    refine T.cond rfl (fun h => by cases h) (fun _ => T.skip ?_)
    refine h2 _ _ ?_
    try clear h2 K_h2
    refine T.regi hm ?_
    simp only [↓reduceIte, namesOf, List.any, I.names, aopsI, astep, ev, setd, List.set, List.getD, List.getElem?_cons_zero, List.getElem?_cons_succ, List.cons_append, List.nil_append, List.replicate, then_normal, Option.getD_some, Bool.or_false, Bool.false_eq_true, up_zero, binv, ↓opt_def, eq_self, hiw]
    exact ⟨hil, _, _, Gh.keep [0, 5, 6, 7], rfl, by rw [hsuc, hbt], rfl⟩
  | false =>
    refine T.seq_k (fun K_h0 h0 => ?_)
    refine T.regi hm ?_
    simp only [↓reduceIte, namesOf, List.any, I.names, aopsI, astep, ev, setd, List.set, List.getD, List.getElem?_cons_zero, List.getElem?_cons_succ, List.cons_append, List.nil_append, List.length_cons, List.length_nil, List.replicate, then_normal, Option.getD_some, Bool.or_false, Bool.false_eq_true, up_zero, ↓opt_def, AV.cells, ldc, Int.natCast_nonneg, Int.toNat_natCast, and_true, eq_self, decide_true, hobj, refs_len, e8, e9, e10, e11, e12, hbt, hr1, nums_len, placesI_len, hili, Nat.zero_add, Nat.mul_one, Bool.not_false]
    refine h0 _ _ ?_
    try clear h0 K_h0
    refine T.cond rfl (fun _ => ?_) (fun h => by cases h)
    refine T.seq_k (fun K_h0 h0 => ?_)
    refine T.regi hm ?_
    simp only [↓reduceIte, namesOf, List.any, I.names, aopsI, astep, ev, setd, List.set, List.cons_append, List.nil_append, List.replicate, then_normal, Bool.or_false, Bool.false_eq_true, up_zero]
    refine h0 _ _ ?_
    try clear h0 K_h0
    refine T.ret (Fin.ret rfl ⟨?_, rfl⟩)
    have : rhasN id bits row hashes = false := by
      unfold rhasN
      rw [Bool.eq_false_iff]
      intro hh
      have := List.all_eq_true.1 hh i (by simpa using hil)
      rw [hgd, hbt] at this; cases this
    rw [hF, this]; rfl
end Go.VL

/- Contracts: the document's filter: its bytes. -/
namespace Go.VL
open Go.Proofs

/-- eight bits, from the highest down: n of them met -/
def byteN (row : List Bool) (q : Nat) : Nat → Nat
  | 0 => 0
  | n + 1 => 2 * byteN row q n + (if row.getD (8 * q + (7 - n)) false then 1 else 0)
theorem byteN_lt (row : List Bool) (q : Nat) : ∀ n, byteN row q n < 2 ^ n
  | 0 => by simp [byteN]
  | n + 1 => by
    have := byteN_lt row q n
    rw [byteN, Nat.pow_succ]
    split <;> omega
def packB (row : List Bool) (n : Nat) : List UInt8 := (List.range n).map fun q => UInt8.ofNat (byteN row q 8)
theorem packB_succ (row : List Bool) (n : Nat) : packB row (n + 1) = packB row n ++ [UInt8.ofNat (byteN row n 8)] := by simp [packB, List.range_succ]
theorem packB_len (row : List Bool) (n : Nat) : (packB row n).length = n := by simp [packB]
def rfilterB (bits hashes : Nat) (rows : List (List Bool)) : List UInt8 := sealB (([UInt8.ofNat rows.length, UInt8.ofNat hashes] ++ beB 2 bits) ++ rows.flatMap fun r => packB r (bits / 8))

theorem Rf.lens {σ : St} {p : Nat} {ns : List Nat} {v : Ver} {bits hashes : Nat} {rows : List (List Bool)} (hB : Rf σ p ns v bits hashes rows) : ∀ b ∈ rows, b.length = bits := by
  intro b hb
  obtain ⟨i, hi⟩ := List.getElem?_of_mem hb
  have hil := (List.getElem?_eq_some_iff.1 hi).1
  exact (hB.row i (ns[i]'(by rw [hB.len]; exact hil)) b (by simp [hB.len, hil]) hi).2
theorem rflat_take1 {rows : List (List Bool)} {n i : Nat} (h : i < rows.length) : (rows.take (i + 1)).flatMap (fun r => packB r n) = (rows.take i).flatMap (fun r => packB r n) ++ packB rows[i] n := by
  rw [List.take_succ_eq_append_getElem h, List.flatMap_append]; simp
theorem rflat_len {n : Nat} : ∀ rows : List (List Bool), (rows.flatMap (fun r => packB r n)).length = rows.length * n
  | [] => by simp
  | r :: t => by rw [List.flatMap_cons, List.length_append, packB_len, rflat_len t, List.length_cons, Nat.add_mul]; omega

set_option maxRecDepth 10000 in
set_option maxHeartbeats 2000000 in
theorem rbbytes_ok {σ : St} {p : Nat} {ns : List Nat} {v : Ver} {k hashes : Nat} {rows : List (List Bool)} (hB : Rf σ p ns v (8 * k) hashes rows) (ho : RfOk (8 * k) hashes rows) :
    ACalls Try.prog n_rbbytes [.ptr p 0] σ (fun w σ' => w = .sl (bytesAV (rfilterB (8 * k) hashes rows)) .none ∧ σ' = σ) := by
  refine s_rbbytes (fun wf => ?_)
  unfold c_rbbytes
  obtain ⟨hb, hh, hrl⟩ := ho
  have hp := wf.lt hB.obj
  have hobj0 := hB.obj
  have hnl := hB.len
  refine T.seq_k (fun K_h0 h0 => ?_)
  refine T.regi hm ?_
  simp only [↓reduceIte, namesOf, List.any, I.names, aopsI, astep, ev, setd, List.set, List.cons_append, List.nil_append, List.length_cons, List.length_nil, List.replicate, then_normal, Bool.or_false, Bool.false_eq_true, up_zero, Nat.reduceAdd, Nat.reduceSub]
  refine h0 _ _ ?_
  try clear h0 K_h0
  refine T.seq_k (fun K_h1 h1 => ?_)
  have hhd : [AV.int .u8 ((UInt8.ofNat rows.length).toNat : Int), .int .u8 ((UInt8.ofNat hashes).toNat : Int)] = bytesAV [UInt8.ofNat rows.length, UInt8.ofNat hashes] := rfl
  refine T.regi hm ?_
  simp only [↓reduceIte, namesOf, List.any, I.names, aopsI, astep, ev, setd, List.set, List.getD, List.getElem?_cons_zero, List.getElem?_cons_succ, List.length_cons, List.length_nil, then_normal, Option.getD_some, Bool.or_false, Bool.or_true, Nat.reduceAdd, ↓opt_def, ldc, List.map_cons, List.map_nil, eq_self, hobj0, refs_len, hnl, u8w, held, hhd, St.up_res, bytesAV_er]
  have k0 : Like σ ((σ.up 13).set (σ.next + 11) (.tip 1)) := ((Like.refl σ).up 13).set _ (by omega)
  have t0 : ((σ.up 13).set (σ.next + 11) (.tip 1)).res (σ.next + 11) = some (.tip 1) := by simp
  have t1 : σ.next + 11 < ((σ.up 13).set (σ.next + 11) (.tip 1)).next := by simp
  generalize ((σ.up 13).set (σ.next + 11) (.tip 1)) = τ at k0 t0 t1 ⊢
  have t2 : σ.next ≤ σ.next + 11 := by omega
  generalize σ.next + 11 = g at t0 t1 t2 ⊢
  refine h1 _ _ ?_
  try clear h1 K_h1
  refine T.seq_k (fun K_h1 h1 => ?_)
  have hobj := k0.get hp hB.obj
  have eb := u64w (n := 8 * k) (by omega)
  refine T.regi hm ?_
  simp only [↓reduceIte, namesOf, List.any, I.names, aopsI, astep, ev, setd, List.set, List.getD, List.getElem?_cons_zero, List.getElem?_cons_succ, List.length_cons, List.length_nil, then_normal, Option.getD_some, Bool.or_false, Bool.or_true, Nat.reduceAdd, ↓opt_def, ldc, List.map_cons, List.map_nil, eq_self, hobj, St.up_res, eb]
  refine (rbytes_q (w := 2) (by omega) (by omega)).mono ?_
  rintro w σ2 ⟨rfl, rfl⟩
  have hat : ∀ k, (τ.up k).res g = some (.tip 1) := fun _ => t0
  have hl2 : ([UInt8.ofNat rows.length, UInt8.ofNat hashes] : List UInt8).length = 2 := rfl
  try simp only [↓reduceIte, List.cons_append, List.nil_append, Nat.reduceAdd, eq_self, decide_true, srcOf, bytesAV_er, bytesAV_app, bytes_all, hat, bytesAV_len, hl2, beB_len, Bool.and_self, Nat.reduceMul, Nat.reduceLeDiff, and_self]
  have k1 : Like σ (((τ.up 9).del g).set (τ.next + 7) (Res.tip 1)) := ((k0.up 9).del t2).set _ (by have := k0.next; omega)
  have u0 : (((τ.up 9).del g).set (τ.next + 7) (Res.tip 1)).res (τ.next + 7) = some (.tip 1) := by simp
  have u1 : τ.next + 7 < (((τ.up 9).del g).set (τ.next + 7) (Res.tip 1)).next := by simp
  have u2 : σ.next ≤ τ.next + 7 := by have := k0.next; omega
  generalize (((τ.up 9).del g).set (τ.next + 7) (Res.tip 1)) = υ at k1 u0 u1 ⊢
  generalize τ.next + 7 = g1 at u0 u1 u2 ⊢
  clear hat hobj t0 t1 t2 k0
  refine h1 _ _ ?_
  try clear h1 K_h1
  generalize hH : UInt8.ofNat rows.length :: UInt8.ofNat hashes :: beB 2 (8 * k) = H
  have hHl : H.length = 4 := by rw [← hH]; simp [beB_len]
  have hspec : rfilterB (8 * k) hashes rows = sealB (H ++ rows.flatMap fun r => packB r k) := by
    unfold rfilterB; rw [show [UInt8.ofNat rows.length, UInt8.ofNat hashes] ++ beB 2 (8 * k) = H from hH, Nat.mul_div_cancel_left _ (by decide)]
  refine T.seq_k (fun K_h1 h1 => ?_)
  refine T.seq_k (fun K_h0 h0 => ?_)
  refine T.regi hm ?_
  simp only [↓reduceIte, namesOf, List.any, I.names, aopsI, astep, ev, setd, List.set, then_normal, Bool.or_false, Bool.false_eq_true, up_zero]
  refine h0 _ _ ?_
  try clear h0 K_h0
  refine T.block ?_
  refine T.gh (Gh.keep [0, 3, 4]) ?_
  refine T.loopi (fun i ρ t => Like σ t ∧ ∃ g, t.res g = some (.tip 1) ∧ σ.next ≤ g ∧ g < t.next ∧
      ρ = [.ptr p 0, .any, .any, .sl (bytesAV (H ++ (rows.take i).flatMap fun r => packB r k)) (.tip g), .int .i64 (i : Int)] ++ List.replicate 66 .any)
    rows.length 0 (Nat.zero_le _) ⟨k1, g1, u0, u2, u1, by rw [List.take_zero, List.flatMap_nil, List.append_nil]; rfl⟩ ?_
  clear k1 u0 u1 u2 υ g1
  rintro i ρ τ hi ⟨k0, g, t0, t2, t1, rfl⟩
  have hobj := k0.get hp hB.obj
  refine T.seq_k (fun K_h2 h2 => ?_)
  refine T.seq_k (fun K_h0 h0 => ?_)
  refine T.regi hm ?_
  simp only [↓reduceIte, namesOf, List.any, I.names, aopsI, astep, ev, setd, List.set, List.getD, List.getElem?_cons_zero, List.getElem?_cons_succ, List.cons_append, List.nil_append, List.replicate, then_normal, Option.getD_some, Bool.or_false, Bool.false_eq_true, up_zero, Nat.reduceAdd, binv, ↓opt_def, ldc, lt_len, eq_self, hobj, refs_len, hnl]
  refine h0 _ _ ?_
  try clear h0 K_h0
  have hfl := rflat_len (n := k) rows
  have hkk : rows.length * k ≤ 16 * 512 := Nat.mul_le_mul hrl.2 (by omega)
  by_cases hil : i < rows.length
  case neg =>
    refine T.cond (b := false) (by simp [ev]; omega) (fun h => by cases h) (fun _ => T.exit ?_)
    have : i = rows.length := by omega
    subst this
    rw [List.take_length]
    try simp only [List.cons_append, List.nil_append, List.replicate, then_normal, inBlock_exit, then_exit]
    refine h1 _ _ ?_
    try clear h1 K_h1
    refine T.seq_k (fun K_h1 h1 => ?_)
    refine T.regi hm ?_
    simp only [↓reduceIte, namesOf, List.any, I.names, aopsI, astep, ev, setd, List.set, List.getD, List.getElem?_cons_zero, List.getElem?_cons_succ, then_normal, Option.getD_some, Bool.or_false, Bool.false_eq_true, up_zero, List.map_cons, List.map_nil]
    refine (rseal_q (by rw [List.length_append, hfl]; omega)).mono ?_
    rintro w σ3 ⟨rfl, rfl⟩
    try simp only [↓reduceIte, namesOf, List.any, I.names, aops, aopsI, aopsT, qstep, CPt, qget, Tbl.get, astep, ev, setd, List.set, List.getD, List.getElem?_cons_zero, List.getElem?_cons_succ, List.getElem?_nil, List.cons_append, List.nil_append, List.length_cons, List.length_nil, List.replicate, then_normal, inBlock_normal, Option.getD_some, Option.getD_none, Bool.or_false, Bool.or_true, Bool.true_or, Bool.false_or, Bool.false_eq_true, if_false, if_true, up_zero, Nat.reduceAdd, Nat.reduceSub, binv, ↓opt_def, AV.isAny, AV.cells, ldc, List.map_cons, List.map_nil, St.set_next, St.set_same, St.up_next, Int.natCast_nonneg, lt_len, le_len, Int.toNat_natCast, true_and, and_true, eq_self, reduceCtorEq, decide_true, List.length_singleton, er_int, er_bool, er_str, up_zero]
    refine h1 _ _ ?_
    try clear h1 K_h1
    exact T.ret (Fin.quiet rfl ⟨nb_bytes _ _, trivial⟩ (fun n x hn => k0.get (wf.lt hn) hn) ⟨by rw [hspec]; rfl, rfl⟩)
  refine T.cond (b := true) (by simp [ev]; omega) (fun _ => T.skip ?_) (fun h => by cases h)
  refine h2 _ _ ?_
  try clear h2 K_h2
  obtain ⟨s, hs⟩ : ∃ s, ns[i]? = some s := ⟨ns[i]'(by omega), by simp [hnl, hil]⟩
  have hrow : rows[i]? = some rows[i] := by simp [hil]
  have hft := rflat_take1 (n := k) hil
  obtain ⟨hr1, hr2⟩ := hB.row _ _ _ hs hrow
  have hslt := wf.lt hr1
  have hiw := inc64' hil (by omega)
  have hpfl : (((rows.take i).flatMap fun r => packB r k)).length ≤ 16 * 512 := by
    rw [rflat_len, List.length_take]
    exact Nat.mul_le_mul (by omega) (by omega)
  generalize rows[i] = row at hrow hft hr1 hr2
  generalize ((rows.take i).flatMap fun r => packB r k) = pre at hft hpfl ⊢
  refine T.seq_k (fun K_h2 h2 => ?_)
  refine T.block ?_
  refine T.seq_k (fun K_h0 h0 => ?_)
  refine T.regi hm ?_
  simp only [↓reduceIte, namesOf, List.any, I.names, aopsI, astep, ev, setd, List.set, List.cons_append, List.nil_append, List.replicate, then_normal, Bool.or_false, Bool.false_eq_true, up_zero]
  refine h0 _ _ ?_
  try clear h0 K_h0
  refine T.block ?_
  refine T.gh (Gh.keep [0, 3, 4, 5]) ?_
  refine T.loopi (fun q ρ t => Like σ t ∧ ∃ g, t.res g = some (.tip 1) ∧ σ.next ≤ g ∧ g < t.next ∧
      ρ = [.ptr p 0, .any, .any, .sl (bytesAV (H ++ (pre ++ packB row q))) (.tip g), .int .i64 (i : Int), .int .i64 (8 * q : Nat)] ++ List.replicate 65 .any)
    k 0 (Nat.zero_le _) ⟨k0, g, t0, t2, t1, by rw [show packB row 0 = [] from rfl, List.append_nil]; rfl⟩ ?_
  clear k0 t0 t1 t2 hobj τ g
  rintro q ρ τ hq ⟨k0, g, t0, t2, t1, rfl⟩
  have hobj := k0.get hp hB.obj
  refine T.seq_k (fun K_h3 h3 => ?_)
  refine T.seq_k (fun K_h0 h0 => ?_)
  refine T.regi hm ?_
  simp only [↓reduceIte, namesOf, List.any, I.names, aopsI, astep, ev, setd, List.set, List.getD, List.getElem?_cons_zero, List.getElem?_cons_succ, List.cons_append, List.nil_append, List.replicate, then_normal, Option.getD_some, Bool.or_false, Bool.false_eq_true, up_zero, Nat.reduceAdd, binv, ↓opt_def, ldc, eq_self, hobj]
  refine h0 _ _ ?_
  try clear h0 K_h0
  by_cases hqk : q < k
  case neg =>
    refine T.cond (b := false) (by simp [ev]; omega) (fun h => by cases h) (fun _ => T.exit ?_)
    have : q = k := by omega
    subst this
    try simp only [List.cons_append, List.nil_append, List.replicate, then_normal, inBlock_normal, inBlock_exit, then_exit, inBlock_normal]
    refine h2 _ _ ?_
    try clear h2 K_h2
    refine T.regi hm ?_
    simp only [↓reduceIte, namesOf, List.any, I.names, aopsI, astep, ev, setd, List.set, List.getD, List.getElem?_cons_zero, List.getElem?_cons_succ, List.cons_append, List.nil_append, List.replicate, then_normal, Option.getD_some, Bool.or_false, Bool.false_eq_true, up_zero, binv, ↓opt_def, eq_self, hiw]
    exact ⟨hil, _, _, Gh.keep [0, 3, 4], k0, g, t0, t2, t1, by rw [hft]; rfl⟩
  refine T.cond (b := true) (by simp [ev]; omega) (fun _ => T.skip ?_) (fun h => by cases h)
  refine h3 _ _ ?_
  try clear h3 K_h3
  refine T.seq_k (fun K_h3 h3 => ?_)
  refine T.block ?_
  refine T.seq_k (fun K_h0 h0 => ?_)
  refine T.regi hm ?_
  simp only [↓reduceIte, namesOf, List.any, I.names, aopsI, astep, ev, setd, List.set, List.cons_append, List.nil_append, List.replicate, then_normal, Bool.or_false, Bool.false_eq_true, up_zero]
  refine h0 _ _ ?_
  try clear h0 K_h0
  refine T.seq_k (fun K_h4 h4 => ?_)
  refine T.seq_k (fun K_h0 h0 => ?_)
  refine T.regi hm ?_
  simp only [↓reduceIte, namesOf, List.any, I.names, aopsI, astep, ev, setd, List.set, List.cons_append, List.nil_append, List.replicate, then_normal, Bool.or_false, Bool.false_eq_true, up_zero]
  refine h0 _ _ ?_
  try clear h0 K_h0
  refine T.block ?_
  refine T.gh (Gh.keep [0, 3, 4, 5, 6, 7]) ?_
  refine T.loopi (fun n ρ t => t = τ ∧ ρ = [.ptr p 0, .any, .any, .sl (bytesAV (H ++ (pre ++ packB row q))) (.tip g), .int .i64 (i : Int), .int .i64 (8 * q : Nat), .int .u8 (byteN row q n : Int), .int .i64 (7 - (n : Int))] ++ List.replicate 63 .any)
    8 0 (Nat.zero_le _) ⟨rfl, rfl⟩ ?_
  rintro n ρ t hn8 ⟨rfl, rfl⟩
  refine T.seq_k (fun K_h5 h5 => ?_)
  refine T.seq_k (fun K_h0 h0 => ?_)
  refine T.regi hm ?_
  simp only [↓reduceIte, namesOf, List.any, I.names, aopsI, astep, ev, setd, List.set, List.getD, List.getElem?_cons_zero, List.getElem?_cons_succ, List.cons_append, List.nil_append, List.replicate, then_normal, Option.getD_some, Bool.or_false, Bool.false_eq_true, up_zero, binv, ↓opt_def, eq_self]
  refine h0 _ _ ?_
  try clear h0 K_h0
  by_cases hn : n < 8
  case neg =>
    have hn8' : n = 8 := by omega
    subst hn8'
    refine T.cond (b := false) (by simp [ev]) (fun h => by cases h) (fun _ => T.exit ?_)
    try simp only [List.cons_append, List.nil_append, List.replicate, then_normal, Nat.reduceAdd, inBlock_exit, then_exit]
    refine h4 _ _ ?_
    try clear h4 K_h4
    have hby : byteN row q 8 < 256 := byteN_lt row q 8
    have hbe : [AV.int .u8 (byteN row q 8 : Int)] = bytesAV [UInt8.ofNat (byteN row q 8)] := by
      simp only [bytesAV, List.map_cons, List.map_nil, UInt8.toNat_ofNat', Nat.mod_eq_of_lt hby]
    have hfit : AV.fits 1 (.int .u8 (byteN row q 8 : Int)) = true := rfl
    have hat : ∀ k, (t.up k).res g = some (.tip 1) := fun _ => t0
    have hle : decide ((H.length + (pre.length + q) + 1) * 1 ≤ 70368744177664 ∧ H.length + (pre.length + q) ≤ 4611686018427387903) = true := decide_eq_true (by omega)
    have hle2 : decide ((4 + (pre.length + q) + 1) * 1 ≤ 70368744177664 ∧ 4 + (pre.length + q) ≤ 4611686018427387903) = true := decide_eq_true (by omega)
    have hle3 : decide ((4 + (pre.length + q) + 1) * 1 ≤ 70368744177664 ∧ 4 + (pre.length + q) + 1 ≤ 4611686018427387904) = true := decide_eq_true (by omega)
    have hq8 : IntKind.i64.wrap (((8 * q : Nat) : Int) + 8) = ((8 * (q + 1) : Nat) : Int) := by rw [wrap64 (by omega) (by omega)]; omega
    refine T.regi hm ?_
    simp only [↓reduceIte, namesOf, List.any, I.names, aopsI, astep, ev, setd, List.set, List.getD, List.getElem?_cons_zero, List.getElem?_cons_succ, List.cons_append, List.nil_append, List.length_cons, List.length_nil, List.replicate, then_normal, inBlock_normal, Option.getD_some, Bool.or_false, Bool.or_true, Nat.reduceAdd, List.map_cons, List.map_nil, eq_self, held, hbe, Bool.and_self, bytesAV_er, srcOf, bytesAV_app, bytes_all, hat, bytesAV_len, List.length_append, packB_len, hHl, hle3, List.append_assoc]
    refine h3 _ _ ?_
    try clear h3 K_h3
    refine T.regi hm ?_
    simp only [↓reduceIte, namesOf, List.any, I.names, aopsI, astep, ev, setd, List.set, List.getD, List.getElem?_cons_zero, List.getElem?_cons_succ, List.cons_append, List.nil_append, List.replicate, then_normal, Option.getD_some, Bool.or_false, Bool.false_eq_true, up_zero, binv, ↓opt_def, eq_self, hq8]
    refine ⟨hqk, _, _, Gh.keep [0, 3, 4, 5], ((k0.up 5).del t2).set _ ?_, t.next + 3, by simp, ?_, by simp, by rw [packB_succ]; rfl⟩
    all_goals (have := k0.next; omega)
  refine T.cond (b := true) (by simp [ev]; omega) (fun _ => T.skip ?_) (fun h => by cases h)
  refine h5 _ _ ?_
  try clear h5 K_h5
  have hbn := byteN_lt row q n
  have hp7 : 2 ^ n ≤ 2 ^ 7 := Nat.pow_le_pow_right (by decide) (by omega)
  have c1 : IntKind.u8.wrap ((byteN row q n : Int) * 2) = ((2 * byteN row q n : Nat) : Int) := by
    simp [IntKind.wrap, IntKind.bits, IntKind.signed]; omega
  have c2 : IntKind.u8.wrap (((2 * byteN row q n : Nat) : Int) + 1) = ((2 * byteN row q n + 1 : Nat) : Int) := by
    simp [IntKind.wrap, IntKind.bits, IntKind.signed]; omega
  have c3 : IntKind.i64.wrap (((8 * q : Nat) : Int) + (7 - (n : Int))) = ((8 * q + (7 - n) : Nat) : Int) := by rw [wrap64 (by omega) (by omega)]; omega
  have c4 : ((8 * q + (7 - n) : Nat) : Int) < ((8 * k : Nat) : Int) := by omega
  have c5 : IntKind.i64.wrap ((7 - (n : Int)) - 1) = 7 - ((n + 1 : Nat) : Int) := by rw [wrap64 (by omega) (by omega)]; omega
  have c6 : (i : Int) < (ns.length : Int) := by omega
  have c7 := refs_get (k := 8 * k) hs
  have c8 := bools_get (l := row) (i := 8 * q + (7 - n)) (by omega)
  have c9 : row.getD (8 * q + (7 - n)) false = row[8 * q + (7 - n)]'(by omega) := by simp [List.getD, show 8 * q + (7 - n) < row.length by omega]
  have hrt := k0.get hslt hr1
  refine T.seq_k (fun K_h5 h5 => ?_)
  refine T.block ?_
  refine T.seq_k (fun K_h0 h0 => ?_)
  refine T.regi hm ?_
  simp only [↓reduceIte, namesOf, List.any, I.names, aopsI, astep, ev, setd, List.set, List.getD, List.getElem?_cons_zero, List.getElem?_cons_succ, List.cons_append, List.nil_append, List.replicate, then_normal, Option.getD_some, Bool.or_false, Bool.false_eq_true, up_zero, binv, ↓opt_def, eq_self, c1]
  refine h0 _ _ ?_
  try clear h0 K_h0
  cases hbt : row[8 * q + (7 - n)]'(by omega) with
  | true =>
    rw [hbt] at c8 c9
    refine T.seq_k (fun K_h0 h0 => ?_)
    refine T.regi hm ?_
    simp only [↓reduceIte, namesOf, List.any, I.names, aopsI, astep, ev, setd, List.set, List.getD, List.getElem?_cons_zero, List.getElem?_cons_succ, List.cons_append, List.nil_append, List.length_cons, List.length_nil, List.replicate, then_normal, Option.getD_some, Bool.or_false, Bool.false_eq_true, up_zero, binv, ↓opt_def, AV.cells, ldc, Int.natCast_nonneg, Int.toNat_natCast, and_true, eq_self, hobj, refs_len, c6, c7, c3, c4, c8, hrt, Nat.zero_add, Nat.mul_one]
    refine h0 _ _ ?_
    try clear h0 K_h0
    refine T.cond rfl (fun _ => ?_) (fun h => by cases h)
    refine T.regi hm ?_
    simp only [↓reduceIte, namesOf, List.any, I.names, aopsI, astep, ev, setd, List.set, List.getD, List.getElem?_cons_zero, List.getElem?_cons_succ, List.cons_append, List.nil_append, List.replicate, then_normal, inBlock_normal, Option.getD_some, Bool.or_false, Bool.false_eq_true, up_zero, binv, ↓opt_def, eq_self, c2]
    refine h5 _ _ ?_
    try clear h5 K_h5
    refine T.regi hm ?_
    simp only [↓reduceIte, namesOf, List.any, I.names, aopsI, astep, ev, setd, List.set, List.getD, List.getElem?_cons_zero, List.getElem?_cons_succ, List.cons_append, List.nil_append, List.replicate, then_normal, Option.getD_some, Bool.or_false, Bool.false_eq_true, up_zero, binv, ↓opt_def, eq_self, c5]
    exact ⟨hn, _, _, Gh.keep [0, 3, 4, 5, 6, 7], rfl, by rw [byteN, c9]; rfl⟩
  | false =>
    rw [hbt] at c8 c9
    refine T.seq_k (fun K_h0 h0 => ?_)
    refine T.regi hm ?_
    simp only [↓reduceIte, namesOf, List.any, I.names, aopsI, astep, ev, setd, List.set, List.getD, List.getElem?_cons_zero, List.getElem?_cons_succ, List.cons_append, List.nil_append, List.length_cons, List.length_nil, List.replicate, then_normal, Option.getD_some, Bool.or_false, Bool.false_eq_true, up_zero, binv, ↓opt_def, AV.cells, ldc, Int.natCast_nonneg, Int.toNat_natCast, and_true, eq_self, hobj, refs_len, c6, c7, c3, c4, c8, hrt, Nat.zero_add, Nat.mul_one]
    refine h0 _ _ ?_
    try clear h0 K_h0
    refine T.cond rfl (fun h => by cases h) (fun _ => T.skip ?_)
    refine h5 _ _ ?_
    try clear h5 K_h5
    refine T.regi hm ?_
    simp only [↓reduceIte, namesOf, List.any, I.names, aopsI, astep, ev, setd, List.set, List.getD, List.getElem?_cons_zero, List.getElem?_cons_succ, List.cons_append, List.nil_append, List.replicate, then_normal, Option.getD_some, Bool.or_false, Bool.false_eq_true, up_zero, binv, ↓opt_def, eq_self, c5]
    exact ⟨hn, _, _, Gh.keep [0, 3, 4, 5, 6, 7], rfl, by rw [byteN, c9]; rfl⟩
end Go.VL

/- Contracts: the document's filter, out of bytes. -/
namespace Go.VL
open Go.Proofs

def bAt (b : List UInt8) (i : Nat) : Nat := (b.getD i 0).toNat
def rS (b : List UInt8) : Nat := bAt b 0
def rH (b : List UInt8) : Nat := bAt b 1
def rBt (b : List UInt8) : Nat := 256 * bAt b 2 + bAt b 3
def rIs (b : List UInt8) : Bool := decide (4 ≤ b.length) && (rightF (rS b) (rBt b) (rH b) && decide (b.length = 4 + rS b * rBt b / 8))
def bitAt (b : List UInt8) (i q : Nat) : Bool := (bAt b (4 + i * rBt b / 8 + q / 8)).testBit (q % 8)
/-- the first m bits of a shard -/
def rowAt (b : List UInt8) (i m : Nat) : List Bool := (List.range (rBt b)).map fun q => decide (q < m) && bitAt b i q
theorem rowAt_len (b : List UInt8) (i m : Nat) : (rowAt b i m).length = rBt b := by simp [rowAt]
theorem rowAt_zero (b : List UInt8) (i : Nat) : rowAt b i 0 = List.replicate (rBt b) false := by
  apply List.ext_getElem
  · simp [rowAt]
  · intro n h1 h2; simp [rowAt]
theorem rowAt_set (b : List UInt8) (i m : Nat) : (rowAt b i m).set m (bitAt b i m) = rowAt b i (m + 1) := by
  apply List.ext_getElem
  · simp [rowAt]
  · intro n h1 h2
    rw [List.getElem_set]
    simp only [rowAt, List.getElem_map, List.getElem_range]
    split
    · rename_i h; subst h; simp
    · rename_i h
      have : decide (n < m) = decide (n < m + 1) := by rw [decide_eq_decide]; omega
      rw [this]
def rRows (b : List UInt8) : List (List Bool) := (List.range (rS b)).map fun i => rowAt b i (rBt b)
def rgotC (x : List UInt8) : Int := if (openB x).1 = 0 then (if rIs (openB x).2 then 0 else 2) else (openB x).1

theorem bAt_get {b : List UInt8} {i : Nat} (h : i < b.length) : (bytesAV b)[i]? = some (.int .u8 (bAt b i : Int)) := by
  rw [bytes_get h]; simp [bAt, h]
theorem bAt_lt (b : List UInt8) (i : Nat) : bAt b i < 256 := (b.getD i 0).toNat_lt

theorem u8_half (n j : Nat) (h : n < 256) : IntKind.u8.wrap ((((n / 2 ^ j : Nat) : Int)).tdiv 2) = ((n / 2 ^ (j + 1) : Nat) : Int) := by
  have e : (((n / 2 ^ j : Nat) : Int)).tdiv 2 = ((n / 2 ^ j / 2 : Nat) : Int) := rfl
  have h2 : n / 2 ^ j / 2 ≤ n := Nat.le_trans (Nat.div_le_self _ _) (Nat.div_le_self _ _)
  rw [e, Nat.div_div_eq_div_mul, ← Nat.pow_succ]
  rw [Nat.div_div_eq_div_mul, ← Nat.pow_succ] at h2
  generalize n / 2 ^ (j + 1) = y at h2 ⊢
  simp [IntKind.wrap, IntKind.bits, IntKind.signed]; omega
theorem u8_odd (n j : Nat) : ((((n / 2 ^ j : Nat) : Int)).tmod 2 == 1) = n.testBit j := by
  have e : (((n / 2 ^ j : Nat) : Int)).tmod 2 = ((n / 2 ^ j % 2 : Nat) : Int) := rfl
  rw [e, Nat.testBit_eq_decide_div_mod_eq]
  generalize n / 2 ^ j % 2 = y
  rw [Bool.eq_iff_iff, beq_iff_eq, decide_eq_true_eq]; omega

set_option maxRecDepth 10000 in
set_option maxHeartbeats 2000000 in
theorem rfiltered_ok {x : List UInt8} {g : Ver} {σ : St} (hl : x.length ≤ 1000000) :
    ACalls Try.prog n_rfiltered [.sl (bytesAV x) g] σ (fun v σ' => (rgotC x ≠ 0 ∧ v = .tup [.nilp, .int .i64 (rgotC x)] ∧ σ' = σ) ∨
      (rgotC x = 0 ∧ ∃ p ns w, v = .tup [.ptr p 0, .int .i64 0] ∧ Rf σ' p ns w (rBt (openB x).2) (rH (openB x).2) (rRows (openB x).2) ∧ σ.next ≤ p ∧ p < σ'.next ∧ (∀ n ∈ ns, σ.next ≤ n ∧ n < σ'.next) ∧ ∀ n x, σ.res n = some x → σ'.res n = some x)) := by
  refine s_rfiltered (fun wf => ?_)
  unfold c_rfiltered
  refine T.seq_k (fun K_h0 h0 => ?_)
  refine T.regi hm ?_
  simp only [↓reduceIte, namesOf, List.any, I.names, aopsI, astep, ev, setd, List.set, List.cons_append, List.nil_append, List.length_cons, List.length_nil, List.replicate, then_normal, Bool.or_false, Bool.false_eq_true, up_zero, Nat.reduceAdd, Nat.reduceSub]
  refine h0 _ _ ?_
  try clear h0 K_h0
  refine T.seq_k (fun K_h1 h1 => ?_)
  refine T.regi hm ?_
  simp only [↓reduceIte, namesOf, List.any, I.names, aopsI, astep, ev, setd, List.set, List.getD, List.getElem?_cons_zero, List.getElem?_cons_succ, then_normal, Option.getD_some, Bool.or_false, Bool.false_eq_true, up_zero, ↓opt_def, List.map_cons, List.map_nil]
  refine (ropen_ok (by omega)).mono ?_
  rintro v σ' ⟨rfl, rfl⟩
  try simp only [List.getElem?_cons_zero, List.getElem?_cons_succ]
  refine h1 _ _ ?_
  try clear h1 K_h1
  have hol := openB_le x
  have hgc : rgotC x = if (openB x).1 = 0 then (if rIs (openB x).2 then 0 else 2) else (openB x).1 := rfl
  generalize rgotC x = G at hgc ⊢
  generalize (openB x).2 = b at hol hgc ⊢
  generalize (openB x).1 = c at hgc ⊢
  refine T.seq_k (fun K_h1 h1 => ?_)
  by_cases hc0 : c = 0
  case neg =>
    rw [if_neg hc0] at hgc
    rw [hgc]
    clear hgc
    have e0 : (c != 0) = true := by simpa using hc0
    refine T.seq_k (fun K_h0 h0 => ?_)
    refine T.regi hm ?_
    simp only [↓reduceIte, namesOf, List.any, I.names, aopsI, astep, ev, setd, List.set, List.getD, List.getElem?_cons_zero, List.getElem?_cons_succ, then_normal, Option.getD_some, Bool.or_false, Bool.false_eq_true, up_zero, binv, ↓opt_def, eq_self, e0]
    refine h0 _ _ ?_
    try clear h0 K_h0
    refine T.cond rfl (fun _ => ?_) (fun h => by cases h)
    refine T.seq_k (fun K_h0 h0 => ?_)
    refine T.regi hm ?_
    simp only [↓reduceIte, namesOf, List.any, I.names, aopsI, astep, ev, setd, List.set, List.getD, List.getElem?_cons_zero, List.getElem?_cons_succ, then_normal, Option.getD_some, Bool.or_false, Bool.false_eq_true, up_zero]
    refine h0 _ _ ?_
    try clear h0 K_h0
    exact T.ret (Fin.ret rfl (.inl ⟨hc0, rfl, rfl⟩))
  rw [if_pos hc0] at hgc
  have e0 : (c != 0) = false := by simpa using hc0
  refine T.seq_k (fun K_h0 h0 => ?_)
  refine T.regi hm ?_
  simp only [↓reduceIte, namesOf, List.any, I.names, aopsI, astep, ev, setd, List.set, List.getD, List.getElem?_cons_zero, List.getElem?_cons_succ, then_normal, Option.getD_some, Bool.or_false, Bool.false_eq_true, up_zero, binv, ↓opt_def, eq_self, e0]
  refine h0 _ _ ?_
  try clear h0 K_h0
  refine T.cond rfl (fun h => by cases h) (fun _ => T.skip ?_)
  refine h1 _ _ ?_
  try clear h1 K_h1
  refine T.seq_k (fun K_h1 h1 => ?_)
  by_cases h4 : b.length < 4
  · have e1 : decide ((b.length : Int) < 4) = true := decide_eq_true (by omega)
    refine T.seq_k (fun K_h0 h0 => ?_)
    refine T.regi hm ?_
    simp only [↓reduceIte, namesOf, List.any, I.names, aopsI, astep, ev, setd, List.set, List.getD, List.getElem?_cons_zero, List.getElem?_cons_succ, then_normal, Option.getD_some, Bool.or_false, Bool.false_eq_true, up_zero, binv, ↓opt_def, eq_self, bytesAV_len, e1]
    refine h0 _ _ ?_
    try clear h0 K_h0
    refine T.cond rfl (fun _ => ?_) (fun h => by cases h)
    refine T.seq_k (fun K_h0 h0 => ?_)
    refine T.regi hm ?_
    simp only [↓reduceIte, namesOf, List.any, I.names, aopsI, astep, ev, setd, List.set, then_normal, Bool.or_false, Bool.false_eq_true, up_zero]
    refine h0 _ _ ?_
    try clear h0 K_h0
    have hG : G = 2 := by rw [hgc, if_neg]; unfold rIs; rw [decide_eq_false (by omega)]; simp
    exact T.ret (Fin.ret rfl (.inl ⟨by rw [hG]; decide, by rw [hG]; rfl, rfl⟩))
  have e1 : decide ((b.length : Int) < 4) = false := decide_eq_false (by omega)
  refine T.seq_k (fun K_h0 h0 => ?_)
  refine T.regi hm ?_
  simp only [↓reduceIte, namesOf, List.any, I.names, aopsI, astep, ev, setd, List.set, List.getD, List.getElem?_cons_zero, List.getElem?_cons_succ, then_normal, Option.getD_some, Bool.or_false, Bool.false_eq_true, up_zero, binv, ↓opt_def, eq_self, bytesAV_len, e1]
  refine h0 _ _ ?_
  try clear h0 K_h0
  refine T.cond rfl (fun h => by cases h) (fun _ => T.skip ?_)
  refine h1 _ _ ?_
  try clear h1 K_h1
  have g0 := bAt_get (b := b) (i := 0) (by omega)
  have g1 := bAt_get (b := b) (i := 1) (by omega)
  have g2 := bAt_get (b := b) (i := 2) (by omega)
  have g3 := bAt_get (b := b) (i := 3) (by omega)
  have q0 := bAt_lt b 0
  have q1 := bAt_lt b 1
  have q2 := bAt_lt b 2
  have q3 := bAt_lt b 3
  have i0 : (0 : Int) < (b.length : Int) := by omega
  have i1 : (1 : Int) < (b.length : Int) := by omega
  have i2 : (2 : Int) < (b.length : Int) := by omega
  have i3 : (3 : Int) < (b.length : Int) := by omega
  have n0 : (0 : Int).toNat = 0 := rfl
  have n1 : (1 : Int).toNat = 1 := rfl
  have n2 : (2 : Int).toNat = 2 := rfl
  have n3 : (3 : Int).toNat = 3 := rfl
  have p0 : (0 : Int) ≤ 0 := by decide
  have p1 : (0 : Int) ≤ 1 := by decide
  have p2 : (0 : Int) ≤ 2 := by decide
  have p3 : (0 : Int) ≤ 3 := by decide
  have w0 : IntKind.i64.wrap (bAt b 0 : Int) = (rS b : Int) := wrap64 (by omega) (by omega)
  have w1 : IntKind.i64.wrap (bAt b 1 : Int) = (rH b : Int) := wrap64 (by omega) (by omega)
  have w2 : IntKind.i64.wrap (bAt b 2 : Int) = (bAt b 2 : Int) := wrap64 (by omega) (by omega)
  have w3 : IntKind.i64.wrap (bAt b 3 : Int) = (bAt b 3 : Int) := wrap64 (by omega) (by omega)
  have w4 : IntKind.i64.wrap (256 * (bAt b 2 : Int)) = ((256 * bAt b 2 : Nat) : Int) := by rw [wrap64 (by omega) (by omega)]; omega
  have w5 : IntKind.i64.wrap (((256 * bAt b 2 : Nat) : Int) + (bAt b 3 : Int)) = (rBt b : Int) := by rw [wrap64 (by omega) (by omega)]; unfold rBt; omega
  refine T.seq_k (fun K_h0 h0 => ?_)
  refine T.regi hm ?_
  simp only [↓reduceIte, namesOf, List.any, I.names, aopsI, astep, ev, setd, List.set, List.getD, List.getElem?_cons_zero, List.getElem?_cons_succ, List.length_cons, List.length_nil, then_normal, Option.getD_some, Bool.or_false, Bool.false_eq_true, up_zero, Nat.reduceAdd, binv, ↓opt_def, AV.cells, ldc, and_true, eq_self, bytesAV_len, g2, g3, i2, i3, p2, p3, n2, n3, w2, w3, w4, w5]
  refine h0 _ _ ?_
  try clear h0 K_h0
  refine T.seq_k (fun K_h1 h1 => ?_)
  refine T.regt hm (tbl := []) Tbl.ok_nil ?_
  try simp only [↓reduceIte, namesOf, List.any, I.names, aopsT, qstep, qget, Tbl.get, astep, ev, setd, List.set, List.getD, List.getElem?_cons_zero, List.getElem?_cons_succ, List.length_cons, List.length_nil, then_normal, Option.getD_some, Bool.or_false, Bool.false_eq_true, up_zero, Nat.reduceAdd, ↓opt_def, AV.cells, ldc, List.map_cons, List.map_nil, and_true, eq_self, bytesAV_len, g0, g1, i0, i1, p0, p1, n0, n1, w0, w1]
  refine ⟨_, rbright_ok, ?_⟩
  refine h1 _ _ ?_
  try clear h1 K_h1
  have hs0 : rS b = bAt b 0 := rfl
  have hmle : rS b * rBt b ≤ 255 * 65535 := Nat.mul_le_mul (by omega) (by unfold rBt; omega)
  have hbt : rBt b ≤ 65535 := by unfold rBt; omega
  have m1 : IntKind.i64.wrap ((rS b : Int) * (rBt b : Int)) = ((rS b * rBt b : Nat) : Int) := by rw [← Int.natCast_mul]; exact wrap64 (by omega) (by omega)
  have m2 : IntKind.i64.wrap ((rS b * rBt b / 8 : Nat) : Int) = ((rS b * rBt b / 8 : Nat) : Int) := wrap64 (by omega) (by omega)
  have m3 : IntKind.i64.wrap (4 + ((rS b * rBt b / 8 : Nat) : Int)) = ((4 + rS b * rBt b / 8 : Nat) : Int) := by rw [wrap64 (by omega) (by omega)]; omega
  have h8 : ¬ ((8 : Int) = 0) := by decide
  refine T.seq_k (fun K_h1 h1 => ?_)
  cases hf : rightF (rS b) (rBt b) (rH b) with
  | false =>
    refine T.seq_k (fun K_h0 h0 => ?_)
    refine T.regi hm ?_
    simp only [↓reduceIte, namesOf, List.any, I.names, aopsI, astep, ev, setd, List.set, List.getD, List.getElem?_cons_zero, List.getElem?_cons_succ, then_normal, Option.getD_some, Bool.or_false, Bool.false_eq_true, up_zero, eq_self, reduceCtorEq, Bool.not_false]
    refine h0 _ _ ?_
    try clear h0 K_h0
    refine T.cond rfl (fun _ => ?_) (fun h => by cases h)
    refine T.seq_k (fun K_h0 h0 => ?_)
    refine T.regi hm ?_
    simp only [↓reduceIte, namesOf, List.any, I.names, aopsI, astep, ev, setd, List.set, then_normal, Bool.or_false, Bool.false_eq_true, up_zero]
    refine h0 _ _ ?_
    try clear h0 K_h0
    have hG : G = 2 := by rw [hgc, if_neg]; unfold rIs; rw [hf]; simp
    exact T.ret (Fin.ret rfl (.inl ⟨by rw [hG]; decide, by rw [hG]; rfl, rfl⟩))
  | true =>
  by_cases hlen : b.length = 4 + rS b * rBt b / 8
  case neg =>
    have e2 : ((b.length : Int) != ((4 + rS b * rBt b / 8 : Nat) : Int)) = true := by rw [bne_iff_ne]; omega
    refine T.seq_k (fun K_h0 h0 => ?_)
    refine T.regi hm ?_
    simp only [↓reduceIte, namesOf, List.any, I.names, aopsI, astep, ev, setd, List.set, List.getD, List.getElem?_cons_zero, List.getElem?_cons_succ, List.length_cons, List.length_nil, then_normal, Option.getD_some, Bool.or_false, Bool.false_eq_true, up_zero, Nat.reduceAdd, binv, ↓opt_def, AV.cells, ldc, and_true, eq_self, Bool.not_true, bytesAV_len, g0, i0, p0, n0, w0, m1, tdiv8, m2, m3, h8, e2]
    refine h0 _ _ ?_
    try clear h0 K_h0
    refine T.cond rfl (fun _ => ?_) (fun h => by cases h)
    refine T.seq_k (fun K_h0 h0 => ?_)
    refine T.regi hm ?_
    simp only [↓reduceIte, namesOf, List.any, I.names, aopsI, astep, ev, setd, List.set, then_normal, Bool.or_false, Bool.false_eq_true, up_zero]
    refine h0 _ _ ?_
    try clear h0 K_h0
    have hG : G = 2 := by rw [hgc, if_neg]; unfold rIs; rw [decide_eq_false hlen]; simp
    exact T.ret (Fin.ret rfl (.inl ⟨by rw [hG]; decide, by rw [hG]; rfl, rfl⟩))
  have e2 : ((b.length : Int) != ((4 + rS b * rBt b / 8 : Nat) : Int)) = false := by rw [bne_eq_false_iff_eq]; omega
  refine T.seq_k (fun K_h0 h0 => ?_)
  refine T.regi hm ?_
  simp only [↓reduceIte, namesOf, List.any, I.names, aopsI, astep, ev, setd, List.set, List.getD, List.getElem?_cons_zero, List.getElem?_cons_succ, List.length_cons, List.length_nil, then_normal, Option.getD_some, Bool.or_false, Bool.false_eq_true, up_zero, Nat.reduceAdd, binv, ↓opt_def, AV.cells, ldc, and_true, eq_self, Bool.not_true, bytesAV_len, g0, i0, p0, n0, w0, m1, tdiv8, m2, m3, h8, e2]
  refine h0 _ _ ?_
  try clear h0 K_h0
  refine T.cond rfl (fun h => by cases h) (fun _ => T.skip ?_)
  refine h1 _ _ ?_
  try clear h1 K_h1
  have hG : G = 0 := by rw [hgc, if_pos]; unfold rIs; rw [hf, decide_eq_true hlen, decide_eq_true (by omega)]; rfl
  obtain ⟨f1, f2, f3, f4⟩ := right_nat hf
  refine T.seq_k (fun K_h1 h1 => ?_)
  refine T.regi hm ?_
  simp only [↓reduceIte, namesOf, List.any, I.names, aopsI, astep, ev, setd, List.set, List.getD, List.getElem?_cons_zero, List.getElem?_cons_succ, List.length_cons, List.length_nil, then_normal, Option.getD_some, Bool.or_false, Bool.false_eq_true, up_zero, Nat.reduceAdd, ↓opt_def, AV.cells, ldc, List.map_cons, List.map_nil, and_true, eq_self, bytesAV_len, g0, g1, i0, i1, p0, p1, n0, n1, w0, w1]
  refine (rbnew_ok f1 ⟨by omega, f2.2⟩).mono ?_
  rintro v σ2 ⟨p, ns, w, rfl, hB, hp0, hp1, hns, ho⟩
  try simp only [↓reduceIte, namesOf, List.any, I.names, aops, aopsI, aopsT, qstep, CPt, qget, Tbl.get, astep, ev, setd, List.set, List.getD, List.getElem?_cons_zero, List.getElem?_cons_succ, List.getElem?_nil, List.cons_append, List.nil_append, List.length_cons, List.length_nil, List.replicate, then_normal, inBlock_normal, Option.getD_some, Option.getD_none, Bool.or_false, Bool.or_true, Bool.true_or, Bool.false_or, Bool.false_eq_true, if_false, if_true, up_zero, Nat.reduceAdd, Nat.reduceSub, binv, ↓opt_def, AV.isAny, AV.cells, ldc, List.map_cons, List.map_nil, St.set_next, St.set_same, St.up_next, Int.natCast_nonneg, lt_len, le_len, Int.toNat_natCast, true_and, and_true, eq_self, reduceCtorEq, decide_true, List.length_singleton, er_int, er_bool, er_str, up_zero]
  refine h1 _ _ ?_
  try clear h1 K_h1
  clear g0 g1 g2 g3 q0 q1 q2 q3 i0 i1 i2 i3 n0 n1 n2 n3 p0 p1 p2 p3 w0 w1 w2 w3 w4 w5 e0 e1 e2 m2 m3
  have hnl : ns.length = rS b := by rw [hB.len]; simp
  have hobj := hB.obj
  have hnd := hB.nd
  have hnp : ∀ n ∈ ns, n ≠ p := fun n hn e => by subst e; exact (List.nodup_cons.1 hnd).1 hn
  have hz : ∀ (idx n : Nat), ns[idx]? = some n → σ2.res n = some (.obj (boolsAV (rowAt b idx 0))) := fun idx n hn => by
    rw [rowAt_zero]
    exact (hB.row idx n (List.replicate (rBt b) false) hn (by rw [List.getElem?_replicate, if_pos (by rw [← hnl]; exact (List.getElem?_eq_some_iff.1 hn).1)])).1
  refine T.seq_k (fun K_h1 h1 => ?_)
  refine T.seq_k (fun K_h0 h0 => ?_)
  refine T.regi hm ?_
  simp only [↓reduceIte, namesOf, List.any, I.names, aopsI, astep, ev, setd, List.set, then_normal, Bool.or_false, Bool.false_eq_true, up_zero]
  refine h0 _ _ ?_
  try clear h0 K_h0
  refine T.block ?_
  refine T.gh (Gh.keep [4, 6, 8, 9]) ?_
  refine T.loopi (fun i ρ t => (∀ n, n ∉ ns → t.res n = σ2.res n) ∧ t.next = σ2.next ∧ (∀ (idx n : Nat), ns[idx]? = some n → t.res n = some (.obj (boolsAV (rowAt b idx (if idx < i then rBt b else 0))))) ∧
      ρ = [.any, .any, .any, .any, .sl (bytesAV b) .none, .any, .int .i64 (rBt b : Nat), .any, .ptr p 0, .int .i64 (i : Int)] ++ List.replicate 105 .any)
    (rS b) 0 (Nat.zero_le _) ⟨fun _ _ => rfl, rfl, fun idx n hn => by rw [if_neg (by omega)]; exact hz idx n hn, rfl⟩ ?_
  rintro i ρ t hi ⟨t1, t2, t3, rfl⟩
  have hpn : p ∉ ns := fun h => hnp p h rfl
  have hobjt : t.res p = some (.obj [.int .i64 (rBt b), .int .i64 (rH b), .sl (refs (rBt b) ns) w]) := by rw [t1 p hpn]; exact hobj
  refine T.seq_k (fun K_h2 h2 => ?_)
  refine T.seq_k (fun K_h0 h0 => ?_)
  refine T.regi hm ?_
  simp only [↓reduceIte, namesOf, List.any, I.names, aopsI, astep, ev, setd, List.set, List.getD, List.getElem?_cons_zero, List.getElem?_cons_succ, List.cons_append, List.nil_append, List.replicate, then_normal, Option.getD_some, Bool.or_false, Bool.false_eq_true, up_zero, Nat.reduceAdd, binv, ↓opt_def, ldc, eq_self, hobjt, refs_len, hnl]
  refine h0 _ _ ?_
  try clear h0 K_h0
  by_cases hil : i < rS b
  case neg =>
    refine T.cond (b := false) (by simp [ev]; omega) (fun h => by cases h) (fun _ => T.exit ?_)
    have : i = rS b := by omega
    subst this
    try simp only [List.cons_append, List.nil_append, List.replicate, then_normal, inBlock_exit, then_exit]
    refine h1 _ _ ?_
    try clear h1 K_h1
    refine T.seq_k (fun K_h0 h0 => ?_)
    refine T.regi hm ?_
    simp only [↓reduceIte, namesOf, List.any, I.names, aopsI, astep, ev, setd, List.set, List.getD, List.getElem?_cons_zero, List.getElem?_cons_succ, then_normal, Option.getD_some, Bool.or_false, Bool.false_eq_true, up_zero]
    refine h0 _ _ ?_
    try clear h0 K_h0
    refine T.ret (Fin.ret rfl (.inr ⟨hG, p, ns, w, rfl, ⟨hobjt, by rw [hnl]; simp [rRows], hnd, fun idx n r h1 h2 => ?_⟩, hp0, by omega, fun n hn => by have := hns n hn; omega, fun n x hx => ?_⟩))
    · have hlt : idx < rS b := by rw [← hnl]; exact (List.getElem?_eq_some_iff.1 h1).1
      have := t3 idx n h1
      rw [if_pos hlt] at this
      simp only [rRows, List.getElem?_map, List.getElem?_range hlt, Option.map_some, Option.some.injEq] at h2
      subst h2
      exact ⟨this, rowAt_len _ _ _⟩
    · rw [t1 n (fun h => by have := hns n h; have := wf.lt hx; omega)]; exact ho n x hx
  refine T.cond (b := true) (by simp [ev]; omega) (fun _ => T.skip ?_) (fun h => by cases h)
  refine h2 _ _ ?_
  try clear h2 K_h2
  obtain ⟨s, hs⟩ : ∃ s, ns[i]? = some s := ⟨ns[i]'(by omega), by simp [hnl, hil]⟩
  have hsn := List.mem_of_getElem? hs
  have hsp := hnp s hsn
  have ht3 := t3 i s hs
  rw [if_neg (by omega)] at ht3
  have hiw := inc64' hil (by omega)
  have hib : i * rBt b ≤ rS b * rBt b := Nat.mul_le_mul_right _ (by omega)
  have hib1 : (i + 1) * rBt b ≤ rS b * rBt b := Nat.mul_le_mul_right _ (by omega)
  have hibe : (i + 1) * rBt b = i * rBt b + rBt b := by rw [Nat.add_mul, Nat.one_mul]
  have m4 : IntKind.i64.wrap ((i : Int) * (rBt b : Int)) = ((i * rBt b : Nat) : Int) := by rw [← Int.natCast_mul]; exact wrap64 (by omega) (by omega)
  have m5 : IntKind.i64.wrap ((i * rBt b / 8 : Nat) : Int) = ((i * rBt b / 8 : Nat) : Int) := wrap64 (by omega) (by omega)
  have m6 : IntKind.i64.wrap (4 + ((i * rBt b / 8 : Nat) : Int)) = ((4 + i * rBt b / 8 : Nat) : Int) := by rw [wrap64 (by omega) (by omega)]; omega
  have c6 : (i : Int) < (ns.length : Int) := by omega
  have c7 := refs_get (k := rBt b) hs
  refine T.seq_k (fun K_h2 h2 => ?_)
  refine T.block ?_
  refine T.seq_k (fun K_h0 h0 => ?_)
  refine T.regi hm ?_
  simp only [↓reduceIte, namesOf, List.any, I.names, aopsI, astep, ev, setd, List.set, List.cons_append, List.nil_append, List.replicate, then_normal, Bool.or_false, Bool.false_eq_true, up_zero]
  refine h0 _ _ ?_
  try clear h0 K_h0
  refine T.block ?_
  refine T.gh (Gh.keep [4, 6, 8, 9, 10]) ?_
  refine T.loopi (fun k ρ u => u = t.set s (.obj (boolsAV (rowAt b i k))) ∧
      ρ = [.any, .any, .any, .any, .sl (bytesAV b) .none, .any, .int .i64 (rBt b : Nat), .any, .ptr p 0, .int .i64 (i : Int), .int .i64 (k : Int)] ++ List.replicate 104 .any)
    (rBt b) 0 (Nat.zero_le _) ⟨(St.set_self ht3).symm, rfl⟩ ?_
  rintro k ρ u hk ⟨rfl, rfl⟩
  refine T.seq_k (fun K_h3 h3 => ?_)
  refine T.seq_k (fun K_h0 h0 => ?_)
  refine T.regi hm ?_
  simp only [↓reduceIte, namesOf, List.any, I.names, aopsI, astep, ev, setd, List.set, List.getD, List.getElem?_cons_zero, List.getElem?_cons_succ, List.cons_append, List.nil_append, List.replicate, then_normal, Option.getD_some, Bool.or_false, Bool.false_eq_true, up_zero, binv, ↓opt_def, eq_self]
  refine h0 _ _ ?_
  try clear h0 K_h0
  by_cases hkl : k < rBt b
  case neg =>
    refine T.cond (b := false) (by simp [ev]; omega) (fun h => by cases h) (fun _ => T.exit ?_)
    have : k = rBt b := by omega
    subst this
    try simp only [List.cons_append, List.nil_append, List.replicate, then_normal, inBlock_normal, inBlock_exit, then_exit, inBlock_normal]
    refine h2 _ _ ?_
    try clear h2 K_h2
    refine T.regi hm ?_
    simp only [↓reduceIte, namesOf, List.any, I.names, aopsI, astep, ev, setd, List.set, List.getD, List.getElem?_cons_zero, List.getElem?_cons_succ, List.cons_append, List.nil_append, List.replicate, then_normal, Option.getD_some, Bool.or_false, Bool.false_eq_true, up_zero, binv, ↓opt_def, eq_self, hiw]
    refine ⟨hil, _, _, Gh.keep [4, 6, 8, 9], fun n hn => by rw [St.set_other _ _ (fun e => hn (by rw [e]; exact hsn))]; exact t1 n hn, t2, fun idx n h1 => ?_, rfl⟩
    by_cases he : idx = i
    · subst he
      rw [hs] at h1
      simp only [Option.some.injEq] at h1; subst h1
      rw [St.set_same, if_pos (by omega)]
    · have hne : n ≠ s := fun e => he (nodup_idx (List.nodup_cons.1 hnd).2 h1 (e ▸ hs))
      rw [St.set_other _ _ hne, t3 idx n h1]
      by_cases hlt : idx < i
      · rw [if_pos hlt, if_pos (by omega)]
      · rw [if_neg hlt, if_neg (by omega)]
  refine T.cond (b := true) (by simp [ev]; omega) (fun _ => T.skip ?_) (fun h => by cases h)
  refine h3 _ _ ?_
  try clear h3 K_h3
  have hkw := inc64' hkl (by omega)
  have m7 : IntKind.i64.wrap ((k / 8 : Nat) : Int) = ((k / 8 : Nat) : Int) := wrap64 (by omega) (by omega)
  have hpos : 4 + i * rBt b / 8 + k / 8 < b.length := by omega
  have m8 : IntKind.i64.wrap (((4 + i * rBt b / 8 : Nat) : Int) + ((k / 8 : Nat) : Int)) = ((4 + i * rBt b / 8 + k / 8 : Nat) : Int) := by rw [wrap64 (by omega) (by omega)]; omega
  have m9 := bAt_get hpos
  have m10 : ((4 + i * rBt b / 8 + k / 8 : Nat) : Int) < (b.length : Int) := by omega
  have hbl := bAt_lt b (4 + i * rBt b / 8 + k / 8)
  generalize hB0 : bAt b (4 + i * rBt b / 8 + k / 8) = B0 at m9 hbl
  refine T.seq_k (fun K_h3 h3 => ?_)
  refine T.block ?_
  refine T.seq_k (fun K_h0 h0 => ?_)
  refine T.regi hm ?_
  simp only [↓reduceIte, namesOf, List.any, I.names, aopsI, astep, ev, setd, List.set, List.getD, List.getElem?_cons_zero, List.getElem?_cons_succ, List.cons_append, List.nil_append, List.length_cons, List.length_nil, List.replicate, then_normal, Option.getD_some, Bool.or_false, Bool.false_eq_true, up_zero, Nat.reduceAdd, binv, ↓opt_def, AV.cells, ldc, Int.natCast_nonneg, Int.toNat_natCast, and_true, eq_self, m4, tdiv8, m5, m6, m7, m8, m9, m10, bytesAV_len, h8]
  refine h0 _ _ ?_
  try clear h0 K_h0
  refine T.seq_k (fun K_h4 h4 => ?_)
  refine T.seq_k (fun K_h0 h0 => ?_)
  refine T.regi hm ?_
  simp only [↓reduceIte, namesOf, List.any, I.names, aopsI, astep, ev, setd, List.set, List.cons_append, List.nil_append, List.replicate, then_normal, Bool.or_false, Bool.false_eq_true, up_zero]
  refine h0 _ _ ?_
  try clear h0 K_h0
  refine T.block ?_
  refine T.gh (Gh.keep [4, 6, 8, 9, 10, 11, 12]) ?_
  refine T.loopi (fun j ρ u => u = t.set s (.obj (boolsAV (rowAt b i k))) ∧
      ρ = [.any, .any, .any, .any, .sl (bytesAV b) .none, .any, .int .i64 (rBt b : Nat), .any, .ptr p 0, .int .i64 (i : Int), .int .i64 (k : Int), .int .u8 (B0 / 2 ^ j : Nat), .int .i64 (j : Int)] ++ List.replicate 102 .any)
    (k % 8) 0 (Nat.zero_le _) ⟨rfl, by rw [Nat.pow_zero, Nat.div_one]; rfl⟩ ?_
  rintro j ρ u hj ⟨rfl, rfl⟩
  refine T.seq_k (fun K_h5 h5 => ?_)
  refine T.seq_k (fun K_h0 h0 => ?_)
  refine T.regi hm ?_
  simp only [↓reduceIte, namesOf, List.any, I.names, aopsI, astep, ev, setd, List.set, List.getD, List.getElem?_cons_zero, List.getElem?_cons_succ, List.cons_append, List.nil_append, List.replicate, then_normal, Option.getD_some, Bool.or_false, Bool.false_eq_true, up_zero, binv, ↓opt_def, eq_self, tmod8, h8]
  refine h0 _ _ ?_
  try clear h0 K_h0
  by_cases hjl : j < k % 8
  case neg =>
    refine T.cond (b := false) (by simp [ev]; omega) (fun h => by cases h) (fun _ => T.exit ?_)
    have : j = k % 8 := by omega
    subst this
    try simp only [List.cons_append, List.nil_append, List.replicate, then_normal, inBlock_exit, then_exit]
    refine h4 _ _ ?_
    try clear h4 K_h4
    have hobju : (t.set s (.obj (boolsAV (rowAt b i k)))).res p = some (.obj [.int .i64 (rBt b), .int .i64 (rH b), .sl (refs (rBt b) ns) w]) := by rw [St.set_other _ _ (Ne.symm hsp)]; exact hobjt
    have h20 : ¬ ((2 : Int) = 0) := by decide
    have c8 : ((k : Nat) : Int) < (rBt b : Int) := by omega
    have c9 := u8_odd B0 (k % 8)
    have c10 : k + 1 ≤ (boolsAV (rowAt b i k)).length := by rw [bools_len, rowAt_len]; omega
    have c11 := bools_set (l := rowAt b i k) (i := k) (by rw [rowAt_len]; exact hkl) (B0.testBit (k % 8))
    have c12 : (rowAt b i k).set k (B0.testBit (k % 8)) = rowAt b i (k + 1) := by rw [← rowAt_set, ← hB0]; rfl
    rw [c12] at c11
    refine T.regi hm ?_
    simp only [↓reduceIte, namesOf, List.any, I.names, aopsI, astep, ev, setd, List.set, List.getD, List.getElem?_cons_zero, List.getElem?_cons_succ, List.cons_append, List.nil_append, List.length_cons, List.length_nil, List.replicate, then_normal, inBlock_normal, Option.getD_some, Bool.or_false, Bool.false_eq_true, up_zero, binv, ↓opt_def, AV.isAny, AV.cells, ldc, St.set_same, Int.natCast_nonneg, Int.toNat_natCast, and_true, eq_self, decide_true, hobju, refs_len, c6, c7, c8, c9, c10, h20, Nat.zero_add, Nat.mul_one, AV.fits, AV.one, List.all_cons, List.all_nil, Nat.reduceBEq, Bool.not_false, Bool.and_self, Nat.zero_add, splice, St.set_set]
    refine h3 _ _ ?_
    try clear h3 K_h3
    refine T.regi hm ?_
    simp only [↓reduceIte, namesOf, List.any, I.names, aopsI, astep, ev, setd, List.set, List.getD, List.getElem?_cons_zero, List.getElem?_cons_succ, List.cons_append, List.nil_append, List.replicate, then_normal, Option.getD_some, Bool.or_false, Bool.false_eq_true, up_zero, binv, ↓opt_def, eq_self, hkw]
    exact ⟨hkl, _, _, Gh.keep [4, 6, 8, 9, 10], by rw [← c11]; rfl, rfl⟩
  refine T.cond (b := true) (by simp [ev]; omega) (fun _ => T.skip ?_) (fun h => by cases h)
  refine h5 _ _ ?_
  try clear h5 K_h5
  have hjw := inc64' hjl (by omega)
  have h20 : ¬ ((2 : Int) = 0) := by decide
  have d1 := u8_half B0 j hbl
  refine T.seq_k (fun K_h5 h5 => ?_)
  refine T.block ?_
  refine T.regi hm ?_
  simp only [↓reduceIte, namesOf, List.any, I.names, aopsI, astep, ev, setd, List.set, List.getD, List.getElem?_cons_zero, List.getElem?_cons_succ, List.cons_append, List.nil_append, List.replicate, then_normal, inBlock_normal, Option.getD_some, Bool.or_false, Bool.false_eq_true, up_zero, binv, ↓opt_def, eq_self, d1, h20]
  refine h5 _ _ ?_
  try clear h5 K_h5
  refine T.regi hm ?_
  simp only [↓reduceIte, namesOf, List.any, I.names, aopsI, astep, ev, setd, List.set, List.getD, List.getElem?_cons_zero, List.getElem?_cons_succ, List.cons_append, List.nil_append, List.replicate, then_normal, Option.getD_some, Bool.or_false, Bool.false_eq_true, up_zero, binv, ↓opt_def, eq_self, hjw]
  exact ⟨hjl, _, _, Gh.keep [4, 6, 8, 9, 10, 11, 12], rfl, rfl⟩
end Go.VL

/- The plain law of filters: bits in bytes, and as a list; what was put is got; what was added stays. -/
namespace Go.VL
open Go.Proofs

theorem orBit_nat (b : UInt8) {j : Nat} (hj : j < 8) : (orBit b j).toNat = b.toNat ||| 2 ^ j := by
  unfold orBit
  rw [UInt8.toNat_ofNat', Nat.mod_eq_of_lt]
  exact Nat.or_lt_two_pow (n := 8) b.toNat_lt (by
    have : 2 ^ j < 2 ^ 8 := Nat.pow_lt_pow_right (by decide) hj
    exact this)
theorem getBit_set {row : List UInt8} {a a' : Nat} (ha : a / 8 < row.length) : getBit (setBit row a) a' = (decide (a = a') || getBit row a') := by
  unfold getBit setBit
  by_cases h : a / 8 = a' / 8
  · rw [← h]
    have e : (row.set (a / 8) (orBit (row.getD (a / 8) 0) (a % 8))).getD (a / 8) 0 = orBit (row.getD (a / 8) 0) (a % 8) := by simp [List.getD, ha]
    rw [e, orBit_nat _ (Nat.mod_lt _ (by decide)), Nat.testBit_or, Nat.testBit_two_pow, Bool.or_comm]
    congr 1
    rw [decide_eq_decide]; omega
  · have e : (row.set (a / 8) (orBit (row.getD (a / 8) 0) (a % 8))).getD (a' / 8) 0 = row.getD (a' / 8) 0 := by
      simp [List.getD, List.getElem?_set_ne h]
    rw [e, decide_eq_false (by intro e; subst e; exact h rfl)]; simp

/-! ### Bits as a list -/
def unp (n : Nat) (row : List UInt8) : List Bool := (List.range n).map fun q => getBit row q
theorem unp_len (n : Nat) (row : List UInt8) : (unp n row).length = n := by simp [unp]
theorem unp_get {n q : Nat} (row : List UInt8) (h : q < n) : (unp n row).getD q false = getBit row q := by simp [unp, List.getD, h]
theorem unp_zero (n k : Nat) : unp n (List.replicate k 0) = List.replicate n false := by
  apply List.ext_getElem
  · simp [unp]
  · intro i h1 h2
    simp only [unp, List.getElem_map, List.getElem_range, List.getElem_replicate, getBit]
    have : (List.replicate k (0 : UInt8)).getD (i / 8) 0 = 0 := by
      simp only [List.getD, List.getElem?_replicate]; split <;> rfl
    rw [this]; simp
theorem unp_set {k a : Nat} {row : List UInt8} (hr : row.length = k) (ha : a < 8 * k) : unp (8 * k) (setBit row a) = (unp (8 * k) row).set a true := by
  apply List.ext_getElem
  · simp [unp]
  · intro i h1 h2
    rw [List.getElem_set]
    simp only [unp, List.getElem_map, List.getElem_range]
    rw [getBit_set (by omega)]
    split
    · rename_i h; subst h; simp
    · rename_i h; simp [h]
theorem unp_putN {k id : Nat} {row : List UInt8} (hk : 1 ≤ k) (hr : row.length = k) : ∀ i, unp (8 * k) (putN id (8 * k) row i) = rputN id (8 * k) (unp (8 * k) row) i
  | 0 => rfl
  | i + 1 => by
    rw [putN, rputN, ← unp_putN hk hr i]
    exact unp_set (by rw [putN_len, hr]) (Nat.mod_lt _ (by omega))

def okRows (k : Nat) (rows : List (List UInt8)) : Prop := ∀ r ∈ rows, r.length = k
theorem okRows_getD {k : Nat} {rows : List (List UInt8)} {i : Nat} (h : okRows k rows) (hi : i < rows.length) : (rows.getD i []).length = k := by
  have : rows.getD i [] = rows[i] := by simp [List.getD, hi]
  rw [this]; exact h _ (List.getElem_mem hi)
theorem okRows_add {k id h : Nat} {rows : List (List UInt8)} (hr : okRows k rows) (hl : 1 ≤ rows.length) : okRows k (addF id (8 * k) h rows) := by
  intro r hm
  unfold addF at hm
  rcases List.mem_or_eq_of_mem_set hm with hm | rfl
  · exact hr r hm
  · rw [putN_len]; exact okRows_getD hr (Nat.mod_lt _ (by omega))
theorem addF_len (id bits h : Nat) (rows : List (List UInt8)) : (addF id bits h rows).length = rows.length := by simp [addF]
theorem getD_map {α β : Type} (f : α → β) (l : List α) {i : Nat} (hi : i < l.length) (a : α) (b : β) : (l.map f).getD i b = f (l.getD i a) := by simp [List.getD, hi]

theorem radd_map {k id h : Nat} {rows : List (List UInt8)} (hk : 1 ≤ k) (hr : okRows k rows) (hl : 1 ≤ rows.length) : raddF id (8 * k) h (rows.map (unp (8 * k))) = (addF id (8 * k) h rows).map (unp (8 * k)) := by
  have hm := Nat.mod_lt id (show 0 < rows.length by omega)
  unfold raddF addF
  rw [List.length_map, List.map_set, getD_map (unp (8 * k)) rows hm [] [], unp_putN hk (okRows_getD hr hm)]
theorem has_map {k id h : Nat} {rows : List (List UInt8)} (hk : 1 ≤ k) (hl : 1 ≤ rows.length) : rhasF id (8 * k) h (rows.map (unp (8 * k))) = hasF id (8 * k) h rows := by
  have hm := Nat.mod_lt id (show 0 < rows.length by omega)
  unfold rhasF hasF rhasN hasN
  rw [List.length_map, getD_map (unp (8 * k)) rows hm [] []]
  congr 1
  funext i
  exact unp_get _ (Nat.mod_lt _ (by omega))

theorem byteN_bits (row : List UInt8) (k q : Nat) (hq : q < k) (hr : row.length = k) : byteN (unp (8 * k) row) q 8 = (row.getD q 0).toNat := by
  have hb : ∀ j, j < 8 → (unp (8 * k) row).getD (8 * q + j) false = (row.getD q 0).toNat.testBit j := by
    intro j hj
    rw [unp_get _ (by omega)]
    unfold getBit
    rw [show (8 * q + j) / 8 = q by omega, show (8 * q + j) % 8 = j by omega]
  have all : ∀ b : _root_.Fin 256, 2 * (2 * (2 * (2 * (2 * (2 * (2 * (2 * 0 + (if b.val.testBit 7 then 1 else 0)) + (if b.val.testBit 6 then 1 else 0)) + (if b.val.testBit 5 then 1 else 0)) + (if b.val.testBit 4 then 1 else 0)) + (if b.val.testBit 3 then 1 else 0)) + (if b.val.testBit 2 then 1 else 0)) + (if b.val.testBit 1 then 1 else 0)) + (if b.val.testBit 0 then 1 else 0) = b.val := by decide +kernel
  have := all ⟨(row.getD q 0).toNat, (row.getD q 0).toNat_lt⟩
  simp only [byteN, Nat.sub_zero, Nat.reduceSub, hb 7 (by omega), hb 6 (by omega), hb 5 (by omega), hb 4 (by omega), hb 3 (by omega), hb 2 (by omega), hb 1 (by omega), hb 0 (by omega)]
  exact this
theorem packB_unp {k : Nat} {row : List UInt8} (hr : row.length = k) : packB (unp (8 * k) row) k = row := by
  apply List.ext_getElem
  · simp [packB, hr]
  · intro i h1 h2
    have hi : i < k := by simpa [packB] using h1
    simp only [packB, List.getElem_map, List.getElem_range]
    rw [byteN_bits row k i hi hr]
    have : row.getD i 0 = row[i] := by simp [List.getD, h2]
    rw [this]; simp
theorem beB2 (n : Nat) (h : n < 65536) : beB 2 n = [UInt8.ofNat (n / 256), UInt8.ofNat n] := by
  have e1 : UInt8.ofNat (n % 256) = UInt8.ofNat n := by
    apply UInt8.toNat_inj.1; simp
  have e2 : UInt8.ofNat (n / 256 % 256) = UInt8.ofNat (n / 256) := by rw [Nat.mod_eq_of_lt (by omega)]
  simp only [beB, e1, e2, List.nil_append, List.cons_append]
theorem bytes_map {k h : Nat} {rows : List (List UInt8)} (hk : k ≤ 512) (hr : okRows k rows) : rfilterB (8 * k) h (rows.map (unp (8 * k))) = filterB (8 * k) h rows := by
  unfold rfilterB filterB headB
  rw [List.length_map, beB2 _ (by omega), Nat.mul_div_cancel_left _ (by decide)]
  congr 1
  have : ((rows.map (unp (8 * k))).flatMap fun r => packB r k) = rows.flatten := by
    rw [List.flatMap_map]
    induction rows with
    | nil => rfl
    | cons r t ih =>
      rw [List.flatMap_cons, List.flatten_cons, packB_unp (hr r (by simp)), ih (fun x hx => hr x (List.mem_cons_of_mem _ hx))]
  rw [this]; rfl

/-! ### What was added stays -/
theorem getBit_putN {k id : Nat} {row : List UInt8} (hk : 1 ≤ k) (hr : row.length = k) (a : Nat) : ∀ n, getBit (putN id (8 * k) row n) a = (getBit row a || (List.range n).any fun i => decide (placeB id (8 * k) i = a))
  | 0 => by simp [putN]
  | n + 1 => by
    rw [putN, getBit_set (by rw [putN_len, hr]; exact place_lt hk), getBit_putN hk hr a n, List.range_succ, List.any_append]
    simp [Bool.or_comm]
    rw [← Bool.or_assoc, Bool.or_comm (decide _), Bool.or_assoc]
theorem has_add_self {k id h : Nat} {rows : List (List UInt8)} (hk : 1 ≤ k) (hr : okRows k rows) (hl : 1 ≤ rows.length) : hasF id (8 * k) h (addF id (8 * k) h rows) = true := by
  have hm := Nat.mod_lt id (show 0 < rows.length by omega)
  unfold hasF
  rw [addF_len]
  have e : (addF id (8 * k) h rows).getD (id % rows.length) [] = putN id (8 * k) (rows.getD (id % rows.length) []) h := by simp [addF, List.getD, hm]
  rw [e]
  unfold hasN
  rw [List.all_eq_true]
  intro i hi
  rw [getBit_putN hk (okRows_getD hr hm)]
  simp only [Bool.or_eq_true, List.any_eq_true]
  exact .inr ⟨i, hi, by simp⟩
theorem has_add_mono {k id id' h : Nat} {rows : List (List UInt8)} (hk : 1 ≤ k) (hr : okRows k rows) (hl : 1 ≤ rows.length) (hh : hasF id (8 * k) h rows = true) : hasF id (8 * k) h (addF id' (8 * k) h rows) = true := by
  have hm := Nat.mod_lt id (show 0 < rows.length by omega)
  have hm' := Nat.mod_lt id' (show 0 < rows.length by omega)
  unfold hasF at hh ⊢
  rw [addF_len]
  by_cases he : id' % rows.length = id % rows.length
  · have e : (addF id' (8 * k) h rows).getD (id % rows.length) [] = putN id' (8 * k) (rows.getD (id % rows.length) []) h := by
      rw [← he]; simp [addF, List.getD, hm']
    rw [e]
    unfold hasN at hh ⊢
    rw [List.all_eq_true] at hh ⊢
    intro i hi
    rw [getBit_putN hk (okRows_getD hr hm), hh i hi]; rfl
  · have e : (addF id' (8 * k) h rows).getD (id % rows.length) [] = rows.getD (id % rows.length) [] := by
      simp [addF, List.getD, List.getElem?_set_ne he]
    rw [e]; exact hh

/-- all of them added -/
def addAll (k h : Nat) (ids : List Nat) (rows : List (List UInt8)) : List (List UInt8) := ids.foldl (fun r id => addF id (8 * k) h r) rows
theorem addAll_len (k h : Nat) : ∀ (ids : List Nat) (rows : List (List UInt8)), (addAll k h ids rows).length = rows.length
  | [], _ => rfl
  | id :: r, rows => by
    show (addAll k h r (addF id (8 * k) h rows)).length = _
    rw [addAll_len k h r, addF_len]
theorem addAll_ok {k h : Nat} : ∀ {ids : List Nat} {rows : List (List UInt8)}, okRows k rows → 1 ≤ rows.length → okRows k (addAll k h ids rows)
  | [], _, hr, _ => hr
  | id :: r, rows, hr, hl => addAll_ok (ids := r) (okRows_add hr hl) (by rw [addF_len]; exact hl)
theorem addAll_mono {k h id : Nat} (hk : 1 ≤ k) : ∀ {ids : List Nat} {rows : List (List UInt8)}, okRows k rows → 1 ≤ rows.length → hasF id (8 * k) h rows = true → hasF id (8 * k) h (addAll k h ids rows) = true
  | [], _, _, _, hh => hh
  | _ :: r, rows, hr, hl, hh => addAll_mono hk (ids := r) (okRows_add hr hl) (by rw [addF_len]; exact hl) (has_add_mono hk hr hl hh)
theorem addAll_has {k h id : Nat} (hk : 1 ≤ k) : ∀ {ids : List Nat} {rows : List (List UInt8)}, okRows k rows → 1 ≤ rows.length → id ∈ ids → hasF id (8 * k) h (addAll k h ids rows) = true
  | [], _, _, _, hm => by cases hm
  | x :: r, rows, hr, hl, hm => by
    have hok := okRows_add (id := x) (h := h) hr hl
    have hl' : 1 ≤ (addF x (8 * k) h rows).length := by rw [addF_len]; exact hl
    rcases List.mem_cons.1 hm with rfl | hm
    · exact addAll_mono hk (ids := r) hok hl' (has_add_self hk hr hl)
    · exact addAll_has hk (ids := r) hok hl' hm
theorem addAll_snoc (k h : Nat) (ids : List Nat) (id : Nat) (rows : List (List UInt8)) : addAll k h (ids ++ [id]) rows = addF id (8 * k) h (addAll k h ids rows) := by simp [addAll]
end Go.VL

/- The plain law of filters: bytes, and the filter that they are. -/
namespace Go.VL
open Go.Proofs

theorem open_sealF (l : List UInt8) : openB (sealB l) = (0, l) := by
  have h1 : (sealB l).length = l.length + 4 := sealB_len l
  have h2 : (sealB l).take ((sealB l).length - 4) = l := by
    rw [h1, Nat.add_sub_cancel]; simp [sealB]
  unfold openB
  rw [if_neg (by omega), h2, if_pos rfl]
theorem open_zero {x : List UInt8} (h : (openB x).1 = 0) : x = sealB (openB x).2 := by
  unfold openB at h ⊢
  split
  · rename_i hh; rw [if_pos hh] at h; cases h
  · rename_i hh
    rw [if_neg hh] at h
    split
    · rename_i h2; exact h2
    · rename_i h2; rw [if_neg h2] at h; cases h

theorem numB1 (a : UInt8) : numB [a] = a.toNat := by simp [numB]
theorem numB2 (a b : UInt8) : numB [a, b] = 256 * a.toNat + b.toNat := by simp [numB]
theorem f_long (a b c d : UInt8) (r : List UInt8) : fS (a :: b :: c :: d :: r) = a.toNat ∧ fH (a :: b :: c :: d :: r) = b.toNat ∧ fB (a :: b :: c :: d :: r) = 256 * c.toNat + d.toNat ∧ fLeft (a :: b :: c :: d :: r) = (r.length : Int) := by
  have hlen : (((a :: b :: c :: d :: r).length : Nat) : Int) = r.length + 4 := by simp; omega
  have t1 : rT (a :: b :: c :: d :: r) r0 (1 : Nat) = true := by
    rw [rT_iff]; refine ⟨rfl, ?_⟩; rw [hlen]; simp [r0]; omega
  have n1 : rN (a :: b :: c :: d :: r) r0 1 = ⟨1, -1⟩ := by unfold rN; rw [t1]; rfl
  have t2 : rT (a :: b :: c :: d :: r) ⟨1, -1⟩ (1 : Nat) = true := by
    rw [rT_iff]; refine ⟨rfl, ?_⟩; rw [hlen]; simp only; omega
  have n2 : rN (a :: b :: c :: d :: r) ⟨1, -1⟩ 1 = ⟨2, -1⟩ := by unfold rN; rw [t2]; rfl
  have t3 : rT (a :: b :: c :: d :: r) ⟨2, -1⟩ (2 : Nat) = true := by
    rw [rT_iff]; refine ⟨rfl, ?_⟩; rw [hlen]; simp only; omega
  have n3 : rN (a :: b :: c :: d :: r) ⟨2, -1⟩ 2 = ⟨4, -1⟩ := by unfold rN; rw [t3]; rfl
  refine ⟨?_, ?_, ?_, ?_⟩
  · unfold fS rW; rw [t1]; exact numB1 a
  · unfold fH; rw [n1]; unfold rW; rw [t2]; exact numB1 b
  · unfold fB; rw [n1, n2]; unfold rW; rw [t3]; exact numB2 c d
  · unfold fLeft fR; rw [n1, n2, n3, hlen]; simp only; omega
theorem f_short {b : List UInt8} (h : b.length < 4) : fB b = 0 := by
  unfold fB rW
  rw [if_neg]
  intro ht
  rw [rT_iff] at ht
  obtain ⟨h1, h2⟩ := ht
  have e1 : ∀ (s : Rs) (w : Nat), (rN b s w).bad = -1 → 0 ≤ s.at_ → rN b s w = ⟨s.at_ + w, -1⟩ ∧ s.bad = -1 := by
    intro s w hb h0
    unfold rN at hb ⊢
    split
    · rename_i ht
      rw [if_pos ht] at hb
      exact ⟨by rw [show s.bad = -1 from hb], hb⟩
    · rename_i ht
      rw [if_neg ht] at hb
      simp only [rF] at hb
      split at hb <;> omega
  have p0 : 0 ≤ (rN b r0 1).at_ := by
    unfold rN; split <;> simp [r0, rF]
  obtain ⟨g1, g2⟩ := e1 _ _ h1 p0
  obtain ⟨g3, _⟩ := e1 _ _ g2 (by simp [r0])
  rw [g1, g3] at h2
  simp [r0] at h2
  omega

theorem f_eq {b : List UInt8} (h : 4 ≤ b.length) : fS b = rS b ∧ fH b = rH b ∧ fB b = rBt b ∧ fLeft b = ((b.length - 4 : Nat) : Int) := by
  match b, h with
  | a :: b :: c :: d :: r, _ =>
    obtain ⟨h1, h2, h3, h4⟩ := f_long a b c d r
    refine ⟨by rw [h1]; rfl, by rw [h2]; rfl, by rw [h3]; rfl, by rw [h4]; simp⟩
theorem is_eq (b : List UInt8) : fIs b = rIs b := by
  unfold fIs rIs
  by_cases h : 4 ≤ b.length
  · obtain ⟨h1, h2, h3, h4⟩ := f_eq h
    rw [h1, h2, h3, h4, decide_eq_true h, Bool.true_and]
    congr 1
    rw [decide_eq_decide]; omega
  · rw [f_short (by omega), decide_eq_false h, Bool.false_and]
    have : rightF (fS b) ((0 : Nat) : Int) (fH b) = false := by simp [rightF]
    rw [this, Bool.false_and]
theorem got_eq (x : List UInt8) : gotC x = rgotC x := by unfold gotC rgotC; rw [is_eq]

theorem cutB_flat (k : Nat) : ∀ (s : Nat) (l : List UInt8), l.length = s * k → (cutB k s l).flatten = l
  | 0, l, h => by
    have : l = [] := List.eq_nil_of_length_eq_zero (by omega)
    subst this; rfl
  | s + 1, l, h => by
    rw [Nat.add_mul, Nat.one_mul] at h
    rw [cutB, List.flatten_cons, cutB_flat k s (l.drop k) (by rw [List.length_drop]; omega), List.take_append_drop]
theorem cutB_ok (k : Nat) : ∀ (s : Nat) (l : List UInt8), l.length = s * k → okRows k (cutB k s l)
  | 0, l, h => fun r hr => by cases hr
  | s + 1, l, h => by
    rw [Nat.add_mul, Nat.one_mul] at h
    intro r hr
    rw [cutB] at hr
    rcases List.mem_cons.1 hr with rfl | hr
    · rw [List.length_take]; omega
    · exact cutB_ok k s (l.drop k) (by rw [List.length_drop]; omega) r hr

/-- what is known of bytes that are a filter's -/
theorem is_facts {b : List UInt8} (h : fIs b = true) : 4 ≤ b.length ∧ (1 ≤ fS b ∧ fS b ≤ 16) ∧ (8 ≤ fB b ∧ fB b ≤ 4096) ∧ fB b = 8 * (fB b / 8) ∧ (1 ≤ fH b ∧ fH b ≤ 8) ∧ b.length = 4 + fS b * (fB b / 8) ∧ fRows b = cutB (fB b / 8) (fS b) (b.drop 4) := by
  have h4 : 4 ≤ b.length := by
    rcases Nat.lt_or_ge b.length 4 with h' | h'
    · exfalso
      unfold fIs at h
      rw [f_short h'] at h
      have : rightF (fS b) ((0 : Nat) : Int) (fH b) = false := by simp [rightF]
      rw [this] at h; cases h
    · exact h'
  have hl := (f_eq h4).2.2.2
  unfold fIs at h
  simp only [Bool.and_eq_true, decide_eq_true_eq] at h
  obtain ⟨f1, f2, f3, f4⟩ := right_nat h.1
  have hm8 : fS b * fB b / 8 = fS b * (fB b / 8) := by
    conv => lhs; rw [f3]
    rw [← Nat.mul_assoc, Nat.mul_comm (fS b) 8, Nat.mul_assoc, Nat.mul_div_cancel_left _ (by decide)]
  have h2 := h.2
  rw [hm8, hl] at h2
  refine ⟨h4, f1, f2, f3, f4, by omega, ?_⟩
  unfold fRows
  rw [hl]
  congr 2
  omega

theorem head4 {b : List UInt8} (h : 4 ≤ b.length) : headB (rS b) (rBt b) (rH b) = b.take 4 := by
  match b, h with
  | a :: b :: c :: d :: r, _ =>
    have e : ∀ x : UInt8, UInt8.ofNat x.toNat = x := fun x => by simp
    have hc := c.toNat_lt
    have hd := d.toNat_lt
    have e1 : (256 * c.toNat + d.toNat) / 256 = c.toNat := by omega
    have e2 : UInt8.ofNat (256 * c.toNat + d.toNat) = d := by
      apply UInt8.toNat_inj.1
      rw [UInt8.toNat_ofNat']; omega
    show [UInt8.ofNat a.toNat, UInt8.ofNat b.toNat, UInt8.ofNat ((256 * c.toNat + d.toNat) / 256), UInt8.ofNat (256 * c.toNat + d.toNat)] = [a, b, c, d]
    rw [e1, e2, e, e, e]
/-- the bytes of what was got are those it was got of -/
theorem filter_back {b : List UInt8} (h : fIs b = true) : filterB (fB b) (fH b) (fRows b) = sealB b := by
  obtain ⟨h4, h1, h2, h3, h5, h6, h7⟩ := is_facts h
  obtain ⟨e1, e2, e3, _⟩ := f_eq h4
  unfold filterB
  rw [h7, cutB_len, cutB_flat _ _ _ (by rw [List.length_drop]; omega), e1, e2, e3, head4 h4, List.take_append_drop]
theorem rows_ok {b : List UInt8} (h : fIs b = true) : okRows (fB b / 8) (fRows b) := by
  obtain ⟨h4, h1, h2, h3, h5, h6, h7⟩ := is_facts h
  rw [h7]; exact cutB_ok _ _ _ (by rw [List.length_drop]; omega)
theorem rows_len {b : List UInt8} (h : fIs b = true) : (fRows b).length = fS b := by
  obtain ⟨h4, h1, h2, h3, h5, h6, h7⟩ := is_facts h
  rw [h7, cutB_len]
theorem rows_map {b : List UInt8} (h : fIs b = true) : rRows b = (fRows b).map (unp (8 * (fB b / 8))) := by
  obtain ⟨h4, h1, h2, h3, h5, h6, h7⟩ := is_facts h
  obtain ⟨e1, e2, e3, _⟩ := f_eq h4
  rw [← h3]
  apply List.ext_getElem
  · simp [rRows, rows_len h, e1]
  · intro i g1 g2
    have hi : i < fS b := by simpa [rows_len h] using g2
    simp only [rRows, List.getElem_map, List.getElem_range]
    have hr : (fRows b)[i]'(by rw [rows_len h]; exact hi) = ((b.drop 4).drop (i * (fB b / 8))).take (fB b / 8) := by
      have := cutB_get (fB b / 8) (fS b) i (b.drop 4) hi
      rw [← h7] at this
      rw [List.getElem?_eq_getElem (by rw [rows_len h]; exact hi)] at this
      exact Option.some.inj this
    rw [hr]
    unfold rowAt unp
    rw [e3]
    apply List.map_congr_left
    intro q hq
    have hq' : q < rBt b := by simpa using hq
    rw [decide_eq_true hq', Bool.true_and]
    unfold bitAt getBit bAt
    have hq8 : q / 8 < fB b / 8 := by omega
    congr 2
    have hm8 : i * rBt b / 8 = i * (fB b / 8) := by
      rw [← e3]
      conv => lhs; rw [h3]
      rw [← Nat.mul_assoc, Nat.mul_comm i 8, Nat.mul_assoc, Nat.mul_div_cancel_left _ (by decide)]
    rw [hm8]
    have hq9 : q / 8 < rBt b / 8 := by omega
    simp only [List.getD, List.getElem?_take, hq9, if_true, List.getElem?_drop, e3]
    rw [Nat.add_assoc]

/-! ### What was put is got -/
theorem cut_flat {k : Nat} : ∀ {rows : List (List UInt8)}, okRows k rows → cutB k rows.length rows.flatten = rows
  | [], _ => rfl
  | r :: t, hr => by
    have hrl := hr r (by simp)
    rw [List.length_cons, cutB, List.flatten_cons, List.take_left' hrl, List.drop_left' hrl, cut_flat (fun x hx => hr x (List.mem_cons_of_mem _ hx))]
theorem head_f {k h : Nat} {rows : List (List UInt8)} (hk : 1 ≤ k ∧ k ≤ 512) (hh : 1 ≤ h ∧ h ≤ 8) (hl : 1 ≤ rows.length ∧ rows.length ≤ 16) (hr : okRows k rows) :
    fIs (headB rows.length (8 * k) h ++ rows.flatten) = true ∧ fB (headB rows.length (8 * k) h ++ rows.flatten) = 8 * k ∧ fH (headB rows.length (8 * k) h ++ rows.flatten) = h ∧ fRows (headB rows.length (8 * k) h ++ rows.flatten) = rows := by
  have hfl := flat_len_le hr
  obtain ⟨e1, e2, e3, e4⟩ := f_long (UInt8.ofNat rows.length) (UInt8.ofNat h) (UInt8.ofNat (8 * k / 256)) (UInt8.ofNat (8 * k)) rows.flatten
  have hb : UInt8.ofNat rows.length :: UInt8.ofNat h :: UInt8.ofNat (8 * k / 256) :: UInt8.ofNat (8 * k) :: rows.flatten = headB rows.length (8 * k) h ++ rows.flatten := rfl
  rw [hb] at e1 e2 e3 e4
  rw [UInt8.toNat_ofNat', Nat.mod_eq_of_lt (by omega)] at e1 e2
  rw [UInt8.toNat_ofNat', UInt8.toNat_ofNat', Nat.mod_eq_of_lt (by omega)] at e3
  have e3' : fB (headB rows.length (8 * k) h ++ rows.flatten) = 8 * k := by rw [e3]; omega
  have hm8 : rows.length * (8 * k) / 8 = rows.length * k := by
    rw [Nat.mul_comm 8 k, ← Nat.mul_assoc, Nat.mul_div_cancel _ (by decide)]
  have his : fIs (headB rows.length (8 * k) h ++ rows.flatten) = true := by
    unfold fIs
    rw [e1, e2, e3', e4, hm8, hfl]
    have : rightF (rows.length : Nat) ((8 * k : Nat) : Int) (h : Nat) = true := by
      unfold rightF
      have h0 : ((8 * k : Nat) : Int).tmod 8 = 0 := by
        have : (((8 * k : Nat) : Int).tmod 8) = (((8 * k) % 8 : Nat) : Int) := rfl
        rw [this, Nat.mul_mod_right]; rfl
      simp only [Bool.and_eq_true, decide_eq_true_eq]
      omega
    rw [this]; simp
  refine ⟨his, e3', e2, ?_⟩
  obtain ⟨_, _, _, _, _, _, h7⟩ := is_facts his
  rw [h7, e1, e3', Nat.mul_div_cancel_left _ (by decide)]
  have : (headB rows.length (8 * k) h ++ rows.flatten).drop 4 = rows.flatten := rfl
  rw [this]
  exact cut_flat hr
theorem got_put {k h : Nat} {rows : List (List UInt8)} (hk : 1 ≤ k ∧ k ≤ 512) (hh : 1 ≤ h ∧ h ≤ 8) (hl : 1 ≤ rows.length ∧ rows.length ≤ 16) (hr : okRows k rows) :
    gotC (filterB (8 * k) h rows) = 0 ∧ (openB (filterB (8 * k) h rows)).2 = headB rows.length (8 * k) h ++ rows.flatten := by
  unfold filterB gotC
  rw [open_sealF]
  exact ⟨by rw [if_pos rfl, if_pos (head_f hk hh hl hr).1], rfl⟩
end Go.VL

/- Contracts: the head of the filters' laws. -/
namespace Go.VL
open Go.Proofs

def tb11 : FTab := [(n_up11, ⟨c_up11, 46, [(.t 0)]⟩), (n_bnew, ⟨c_bnew, 58, [(.t 6), (.t 7)]⟩), (n_bget, ⟨c_bget, 75, [(.t 2), (.t 3)]⟩), (n_bhas, ⟨c_bhas, 11, [(.t 4)]⟩), (n_bhas1, ⟨c_bhas1, 18, []⟩), (n_badd, ⟨c_badd, 7, []⟩), (n_badd1, ⟨c_badd1, 14, []⟩), (n_beach, ⟨c_beach, 63, []⟩), (n_copen, ⟨c_copen, 26, [(.t 2), (.t 3)]⟩), (n_wput, ⟨c_wput, 43, [(.t 6), (.t 7)]⟩), (n_right, ⟨c_right, 17, [(.t 2)]⟩)]
theorem tb11_ok : FTab.ok Try.prog tb11 := FTab.ok_cons s_up11 (FTab.ok_cons s_bnew (FTab.ok_cons s_bget (FTab.ok_cons s_bhas (FTab.ok_cons s_bhas1 (FTab.ok_cons s_badd (FTab.ok_cons s_badd1 (FTab.ok_cons s_beach (FTab.ok_cons s_copen (FTab.ok_cons s_wput (FTab.ok_cons s_right FTab.ok_nil))))))))))
set_option maxRecDepth 100000 in
theorem up11_ok {σ : St} : ACalls Try.prog n_up11 [] σ (fun v σ' => v = .bool true ∧ σ' = σ) :=
  head_ok hm tb11_ok (orT_ok tbC_ok) 100 (by kernel_rfl) (by kernel_rfl) σ
end Go.VL
