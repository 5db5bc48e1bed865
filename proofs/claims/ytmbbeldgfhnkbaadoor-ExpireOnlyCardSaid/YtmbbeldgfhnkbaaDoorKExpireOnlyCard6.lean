/- ExpireOnly (layer 21): whatever the metas, the tick, the retention and the call that fails, the law returns true, and the arguments read as they did. Conditions: the package variables math/bits.deBruijn32tab, math/bits.deBruijn64tab and internal/strconv.uint64pow10 hold what the program's text lays (tied). -/
import Derived.Test.YtmbbeldgfhnkbaaDoorKExpireOnlyCard5
import Derived.Test.YtmbbeldgfhnkbaaDoorRows
import Derived.Test.YtmbbeldgfhnkbaaDoorTie
import Derived.Test.YtmbbeldgfhnkbaaDoorCards

set_option linter.unusedSimpArgs false
set_option linter.unusedVariables false

namespace Go.VL

open Go.Proofs

/-- are ids apart? -/
abbrev Apart (l : List Mt) : Prop := l.Pairwise fun x y => x.id ≠ y.id

theorem Apart.snoc {l : List Mt} {i : Nat} {x : Mt} (h : Apart (l.take i)) (hx : l[i]? = some x) (hn : ∀ (k : Nat) (y : Mt), k < i → l[k]? = some y → y.id ≠ x.id) : Apart (l.take (i + 1)) := by
  obtain ⟨hil, rfl⟩ := List.getElem?_eq_some_iff.1 hx
  rw [List.take_succ_eq_append_getElem hil]
  refine List.pairwise_append.2 ⟨h, List.pairwise_singleton _ _, fun a ha b hb => ?_⟩
  rw [List.mem_singleton] at hb; subst hb
  obtain ⟨k, hk, rfl⟩ := List.getElem_of_mem ha
  rw [List.length_take] at hk
  rw [List.getElem_take]
  exact hn k _ (by omega) (List.getElem?_eq_getElem (by omega))

/-- what is marked, and told, of metas -/
def Onl (l : List Mt) (now ret : Int) (er : AV) (L : Objs) : Prop := (er = .nili ∨ ∃ c, er = .iface tCode (.int .i64 c)) ∧
  (∀ x ∈ l, ∀ b, getO (nmX x.id) L = some b → ¬ outBad now ret ∧ x.en ≤ now - ret ∧ b = markB ⟨x.id, now, 0⟩ ∧ fairM ⟨x.id, now, 0⟩) ∧
  (er = .nili → ¬ outBad now ret ∧ ∀ x ∈ l, x.en ≤ now - ret → getO (nmX x.id) L ≠ none)

theorem exMark_only {p m : Nat} {room left now ret : Int} {l : List Mt} {g : Ver} {σ : St} (hT : Tabs σ) (h : StS σ p m room left 0 []) (hlt : p < σ.next ∧ m < σ.next) (hlf : -1 ≤ left ∧ left ≤ 9223372036854775807)
    (hr : 0 ≤ room ∧ room ≤ 1048576) (hl : l.length ≤ 1000) (hid : ∀ x ∈ l, x.id < 18446744073709551616) (hap : Apart l) :
    ACalls Tryd.prog n_exMark [.ptr p 0, .sl (mtsAV l) g, .int .i64 now, .int .i64 ret] σ (fun v σ' => ∃ n er left' calls' L', v = .tup [.int .i64 n, er] ∧ StS σ' p m room left' calls' L' ∧ Nx σ σ' p m ∧ (0 ≤ calls' ∧ calls' ≤ 1000) ∧ (usedO L' : Int) ≤ room ∧ Onl l now ret er L') := by
  refine (exMark_ok hT h hlt hlf (by omega) hr (by simp [usedO]; omega) (by omega) hid).mono ?_
  rintro v σ' (⟨hb, rfl, rfl⟩ | ⟨hmay, hb, n, c, left', calls', L', hF, rfl, hS, hN, _, hc, hu⟩)
  · exact ⟨0, _, left, 0, [], rfl, h, .refl _ _ _, by omega, by simp [usedO]; omega, .inr ⟨1, rfl⟩, fun x _ b hb => by simp [getO] at hb, fun h => by cases h⟩
  · obtain ⟨i1, i2⟩ := marked_facts hid hap hF
    refine ⟨n, errAV c, left', calls', L', rfl, hS, hN, by omega, hu, ?_, fun x hx b hxb => ?_, fun hc0 => ⟨hb, fun x hx hle => ?_⟩⟩
    · unfold errAV; split
      · exact .inl rfl
      · exact .inr ⟨c, rfl⟩
    · obtain ⟨j1, j2⟩ := i1 x hx b hxb
      refine ⟨hb, j1, j2, (hmay x hx).1, Int.not_lt.1 fun h => hb (.inl h), Int.not_lt.1 fun h => hb (.inr (.inl h)), ?_⟩
      have := (hmay x hx).1
      show (0 : Nat) ≠ x.id
      omega
    · refine i2 ?_ x hx hle
      unfold errAV at hc0
      split at hc0
      · assumption
      · cases hc0

set_option maxRecDepth 10000 in
set_option maxHeartbeats 4000000 in
theorem expireOnly_ok {l : List Mt} {g : Ver} {now ret fails : Int} {σ : St} (hT : Tabs σ) (hl : l.length ≤ 9223372036854775807) (hid : ∀ x ∈ l, x.id < 18446744073709551616) (hf : -9223372036854775808 ≤ fails ∧ fails ≤ 9223372036854775807) :
    ACalls Tryd.prog n_expireOnly [.sl (mtsAV l) g, .int .i64 now, .int .i64 ret, .int .i64 fails] σ (fun v σ' => v = .bool true ∧ σ' = σ) := by
  refine s_expireOnly (fun wf => ?_)
  unfold c_expireOnly
  refine T.seq_k (fun K_h0 h0 => ?_)
  refine T.regi hm ?_
  simp only [↓reduceIte, namesOf, List.any, I.names, aopsI, astep, ev, setd, List.set, List.cons_append, List.nil_append, List.length_cons, List.length_nil, List.replicate, then_normal, Bool.or_false, Bool.false_eq_true, up_zero, Nat.reduceAdd, Nat.reduceSub]
  refine h0 _ _ ?_
  try clear h0 K_h0
  refine T.seq_k (fun K_h1 h1 => ?_)
  refine T.regi hm ?_
  simp only [↓reduceIte, namesOf, List.any, I.names, aopsI, astep, ev, setd, List.set, List.getD, List.getElem?_cons_zero, List.getElem?_cons_succ, then_normal, Option.getD_some, Bool.or_false, Bool.false_eq_true, up_zero, List.map_nil]
  refine (up21_ok hT).mono ?_
  rintro v σ1 ⟨rfl, rfl⟩
  try simp only [↓reduceIte, namesOf, List.any, I.names, aops, aopsI, aopsT, qstep, CPt, qget, Tbl.get, astep, ev, setd, List.set, List.getD, List.getElem?_cons_zero, List.getElem?_cons_succ, List.getElem?_nil, List.cons_append, List.nil_append, List.length_cons, List.length_nil, List.replicate, then_normal, inBlock_normal, Option.getD_some, Option.getD_none, Bool.or_false, Bool.or_true, Bool.true_or, Bool.false_or, Bool.false_eq_true, if_false, if_true, up_zero, Nat.reduceAdd, Nat.reduceSub, binv, ↓opt_def, AV.isAny, AV.cells, ldc, List.map_cons, List.map_nil, St.set_next, St.set_same, St.up_next, Int.natCast_nonneg, lt_len, le_len, Int.toNat_natCast, true_and, and_true, eq_self, reduceCtorEq, decide_true, List.length_singleton, er_int, er_bool, er_str, srcR, up_zero]
  refine h1 _ _ ?_
  try clear h1 K_h1
  refine T.seq_k (fun K_h1 h1 => ?_)
  refine T.regi hm ?_
  simp only [↓reduceIte, namesOf, List.any, I.names, aopsI, astep, ev, setd, List.set, List.getD, List.getElem?_cons_zero, List.getElem?_cons_succ, then_normal, Option.getD_some, Bool.or_false, Bool.false_eq_true, up_zero, ↓opt_def, List.map_cons, List.map_nil]
  refine (snew_ok (room := 100000) (by omega)).mono ?_
  rintro v σ2 ⟨p, m, rfl, hS, hp, hm2, hpl, hml, hq⟩
  try simp only [List.getElem?_cons_zero, List.getElem?_cons_succ]
  refine h1 _ _ ?_
  try clear h1 K_h1
  have hnp : eqPv (.ptr p 0) .nilp = some false := rfl
  have hT2 : Tabs σ2 := hT.mono hq
  refine T.seq_k (fun K_h1 h1 => ?_)
  by_cases hl50 : l.length ≤ 50
  case neg =>
    have e1 : decide ((l.length : Int) > 50) = true := decide_eq_true (by omega)
    refine T.seq_k (fun K_h0 h0 => ?_)
    refine T.regi hm ?_
    simp only [↓reduceIte, namesOf, List.any, I.names, aopsI, astep, ev, setd, List.set, List.getD, List.getElem?_cons_zero, List.getElem?_cons_succ, then_normal, Option.getD_some, Bool.or_false, Bool.false_eq_true, up_zero, binv, ↓opt_def, eq_self, hnp, eqIv, bne_self_eq_false, mts_len, e1]
    refine h0 _ _ ?_
    try clear h0 K_h0
    refine T.cond rfl (fun _ => ?_) (fun h => by cases h)
    refine T.seq_k (fun K_h0 h0 => ?_)
    refine T.regi hm ?_
    simp only [↓reduceIte, namesOf, List.any, I.names, aopsI, astep, ev, setd, List.set, List.getD, List.getElem?_cons_zero, List.getElem?_cons_succ, then_normal, Option.getD_some, Bool.or_false, Bool.false_eq_true, up_zero, eq_self, hnp, Bool.bne_true, Bool.not_false]
    refine h0 _ _ ?_
    try clear h0 K_h0
    exact T.ret (Fin.quiet rfl trivial hq ⟨rfl, rfl⟩)
  have e1 : decide ((l.length : Int) > 50) = false := decide_eq_false (by omega)
  refine T.seq_k (fun K_h0 h0 => ?_)
  refine T.regi hm ?_
  simp only [↓reduceIte, namesOf, List.any, I.names, aopsI, astep, ev, setd, List.set, List.getD, List.getElem?_cons_zero, List.getElem?_cons_succ, then_normal, Option.getD_some, Bool.or_false, Bool.false_eq_true, up_zero, binv, ↓opt_def, eq_self, hnp, eqIv, bne_self_eq_false, mts_len, e1]
  refine h0 _ _ ?_
  try clear h0 K_h0
  refine T.cond rfl (fun h => by cases h) (fun _ => T.skip ?_)
  refine h1 _ _ ?_
  try clear h1 K_h1
  refine T.seq_k (fun K_h1 h1 => ?_)
  refine T.seq_k (fun K_h0 h0 => ?_)
  refine T.regi hm ?_
  simp only [↓reduceIte, namesOf, List.any, I.names, aopsI, astep, ev, setd, List.set, then_normal, Bool.or_false, Bool.false_eq_true, up_zero]
  refine h0 _ _ ?_
  try clear h0 K_h0
  refine T.block ?_
  refine T.gh (Gh.keep [0, 1, 2, 3, 9, 10, 12]) ?_
  refine T.loopi (fun i ρ t => t = σ2 ∧ Apart (l.take i) ∧ ρ = [.sl (mtsAV l) g, .int .i64 now, .int .i64 ret, .int .i64 fails, .any, .any, .any, .any, .any, .bool true, .ptr p 0, .any, .int .i64 (i : Int)] ++ List.replicate 140 .any)
    l.length 0 (Nat.zero_le _) ⟨rfl, by simp, rfl⟩ ?_
  rintro i ρ t hi ⟨rfl, hap, rfl⟩
  refine T.seq_k (fun K_h2 h2 => ?_)
  by_cases hil : i < l.length
  case pos =>
    obtain ⟨x, hx⟩ : ∃ x, l[i]? = some x := ⟨_, List.getElem?_eq_getElem hil⟩
    have hgx := mts_get hx
    have hw := inc64' hil (by omega)
    refine T.seq_k (fun K_h0 h0 => ?_)
    refine T.regi hm ?_
    simp only [↓reduceIte, namesOf, List.any, I.names, aopsI, astep, ev, setd, List.set, List.getD, List.getElem?_cons_zero, List.getElem?_cons_succ, List.cons_append, List.nil_append, List.replicate, then_normal, Option.getD_some, Bool.or_false, Bool.false_eq_true, up_zero, binv, ↓opt_def, lt_len, true_and, eq_self, decide_true, mts_len, hil]
    refine h0 _ _ ?_
    try clear h0 K_h0
    refine T.cond rfl (fun _ => T.skip ?_) (fun h => by cases h)
    refine h2 _ _ ?_
    try clear h2 K_h2
    refine T.seq_k (fun K_h3 h3 => ?_)
    refine T.block ?_
    refine T.seq_k (fun K_h0 h0 => ?_)
    refine T.regi hm ?_
    simp only [↓reduceIte, namesOf, List.any, I.names, aopsI, astep, ev, setd, List.set, List.cons_append, List.nil_append, List.replicate, then_normal, Bool.or_false, Bool.false_eq_true, up_zero]
    refine h0 _ _ ?_
    try clear h0 K_h0
    refine T.block ?_
    refine T.gh (Gh.keep [0, 1, 2, 3, 9, 10, 12, 13]) ?_
    refine T.loopi (fun k ρ u => u = t ∧ (∀ (j : Nat) (y : Mt), j < k → l[j]? = some y → y.id ≠ x.id) ∧ ρ = [.sl (mtsAV l) g, .int .i64 now, .int .i64 ret, .int .i64 fails, .any, .any, .any, .any, .any, .bool true, .ptr p 0, .any, .int .i64 (i : Int), .int .i64 (k : Int)] ++ List.replicate 139 .any)
      i 0 (Nat.zero_le _) ⟨rfl, fun j y h => by omega, rfl⟩ ?_
    rintro k ρ u hk ⟨rfl, hne, rfl⟩
    refine T.seq_k (fun K_h4 h4 => ?_)
    by_cases hki : k < i
    case neg =>
      have f2 : decide ((k : Int) < (i : Int)) = false := decide_eq_false (by omega)
      refine T.seq_k (fun K_h0 h0 => ?_)
      refine T.regi hm ?_
      simp only [↓reduceIte, namesOf, List.any, I.names, aopsI, astep, ev, setd, List.set, List.getD, List.getElem?_cons_zero, List.getElem?_cons_succ, List.cons_append, List.nil_append, List.replicate, then_normal, Option.getD_some, Bool.or_false, Bool.false_eq_true, up_zero, binv, ↓opt_def, eq_self, f2]
      refine h0 _ _ ?_
      try clear h0 K_h0
      refine T.cond rfl (fun h => by cases h) (fun _ => T.exit ?_)
      try simp only [List.cons_append, List.nil_append, List.replicate, then_normal, inBlock_normal, inBlock_exit, then_exit]
      try simp only [↓reduceIte, namesOf, List.any, I.names, aops, aopsI, aopsT, qstep, CPt, qget, Tbl.get, astep, ev, setd, List.set, List.getD, List.getElem?_cons_zero, List.getElem?_cons_succ, List.getElem?_nil, List.cons_append, List.nil_append, List.length_cons, List.length_nil, List.replicate, then_normal, inBlock_normal, Option.getD_some, Option.getD_none, Bool.or_false, Bool.or_true, Bool.true_or, Bool.false_or, Bool.false_eq_true, if_false, if_true, up_zero, Nat.reduceAdd, Nat.reduceSub, binv, ↓opt_def, AV.isAny, AV.cells, ldc, List.map_cons, List.map_nil, St.set_next, St.set_same, St.up_next, Int.natCast_nonneg, lt_len, le_len, Int.toNat_natCast, true_and, and_true, eq_self, reduceCtorEq, decide_true, List.length_singleton, er_int, er_bool, er_str, srcR, inBlock_normal]
      refine h3 _ _ ?_
      try clear h3 K_h3
      refine T.regi hm ?_
      simp only [↓reduceIte, namesOf, List.any, I.names, aopsI, astep, ev, setd, List.set, List.getD, List.getElem?_cons_zero, List.getElem?_cons_succ, List.cons_append, List.nil_append, List.replicate, then_normal, Option.getD_some, Bool.or_false, Bool.false_eq_true, up_zero, binv, ↓opt_def, eq_self, hw]
      exact ⟨hil, _, _, Gh.keep [0, 1, 2, 3, 9, 10, 12], rfl, hap.snoc hx (fun j y hj hy => hne j y (by omega) hy), rfl⟩
    have f2 : decide ((k : Int) < (i : Int)) = true := decide_eq_true (by omega)
    have hkl : k < l.length := by omega
    obtain ⟨y, hy⟩ : ∃ y, l[k]? = some y := ⟨_, List.getElem?_eq_getElem hkl⟩
    have hgy := mts_get hy
    have hwk := inc64' hkl (by omega)
    refine T.seq_k (fun K_h0 h0 => ?_)
    refine T.regi hm ?_
    simp only [↓reduceIte, namesOf, List.any, I.names, aopsI, astep, ev, setd, List.set, List.getD, List.getElem?_cons_zero, List.getElem?_cons_succ, List.cons_append, List.nil_append, List.replicate, then_normal, Option.getD_some, Bool.or_false, Bool.false_eq_true, up_zero, binv, ↓opt_def, eq_self, f2]
    refine h0 _ _ ?_
    try clear h0 K_h0
    refine T.cond rfl (fun _ => T.skip ?_) (fun h => by cases h)
    refine h4 _ _ ?_
    try clear h4 K_h4
    refine T.seq_k (fun K_h5 h5 => ?_)
    refine T.block ?_
    by_cases hxy : y.id = x.id
    · have f3 : ((y.id : Int) == (x.id : Int)) = true := by rw [hxy]; simp
      refine T.seq_k (fun K_h0 h0 => ?_)
      refine T.regi hm ?_
      simp only [↓reduceIte, namesOf, List.any, I.names, aopsI, astep, ev, setd, List.set, List.getD, List.getElem?_cons_zero, List.getElem?_cons_succ, List.cons_append, List.nil_append, List.length_cons, List.length_nil, List.replicate, then_normal, Option.getD_some, Bool.or_false, Bool.false_eq_true, up_zero, Nat.reduceAdd, binv, ↓opt_def, AV.cells, ldc, Int.natCast_nonneg, lt_len, Int.toNat_natCast, true_and, and_true, eq_self, hkl, hil, mts_len, hgy, hgx, f3, Nat.zero_add, List.drop]
      refine h0 _ _ ?_
      try clear h0 K_h0
      refine T.cond rfl (fun _ => ?_) (fun h => by cases h)
      refine T.seq_k (fun K_h0 h0 => ?_)
      refine T.regi hm ?_
      simp only [↓reduceIte, namesOf, List.any, I.names, aopsI, astep, ev, setd, List.set, List.getD, List.getElem?_cons_zero, List.getElem?_cons_succ, List.cons_append, List.nil_append, List.replicate, then_normal, Option.getD_some, Bool.or_false, Bool.false_eq_true, up_zero]
      refine h0 _ _ ?_
      try clear h0 K_h0
      exact T.ret (Fin.quiet rfl trivial hq ⟨rfl, rfl⟩)
    · have f3 : ((y.id : Int) == (x.id : Int)) = false := by simp; omega
      refine T.seq_k (fun K_h0 h0 => ?_)
      refine T.regi hm ?_
      simp only [↓reduceIte, namesOf, List.any, I.names, aopsI, astep, ev, setd, List.set, List.getD, List.getElem?_cons_zero, List.getElem?_cons_succ, List.cons_append, List.nil_append, List.length_cons, List.length_nil, List.replicate, then_normal, Option.getD_some, Bool.or_false, Bool.false_eq_true, up_zero, Nat.reduceAdd, binv, ↓opt_def, AV.cells, ldc, Int.natCast_nonneg, lt_len, Int.toNat_natCast, true_and, and_true, eq_self, hkl, hil, mts_len, hgy, hgx, f3, Nat.zero_add, List.drop]
      refine h0 _ _ ?_
      try clear h0 K_h0
      refine T.cond rfl (fun h => by cases h) (fun _ => T.skip ?_)
      try simp only [List.cons_append, List.nil_append, List.replicate, then_normal, inBlock_normal, inBlock_normal]
      refine h5 _ _ ?_
      try clear h5 K_h5
      refine T.regi hm ?_
      simp only [↓reduceIte, namesOf, List.any, I.names, aopsI, astep, ev, setd, List.set, List.getD, List.getElem?_cons_zero, List.getElem?_cons_succ, List.cons_append, List.nil_append, List.replicate, then_normal, Option.getD_some, Bool.or_false, Bool.false_eq_true, up_zero, binv, ↓opt_def, eq_self, hwk]
      refine ⟨hki, _, _, Gh.keep [0, 1, 2, 3, 9, 10, 12, 13], rfl, fun j z hj hz => ?_, rfl⟩
      rcases Nat.lt_or_ge j k with h | h
      · exact hne j z h hz
      · have : j = k := by omega
        subst this
        rw [hy] at hz; cases hz; exact hxy
  refine T.seq_k (fun K_h0 h0 => ?_)
  refine T.regi hm ?_
  simp only [↓reduceIte, namesOf, List.any, I.names, aopsI, astep, ev, setd, List.set, List.getD, List.getElem?_cons_zero, List.getElem?_cons_succ, List.cons_append, List.nil_append, List.replicate, then_normal, Option.getD_some, Bool.or_false, Bool.false_eq_true, up_zero, binv, ↓opt_def, lt_len, eq_self, mts_len, hil, decide_false]
  refine h0 _ _ ?_
  try clear h0 K_h0
  refine T.cond rfl (fun h => by cases h) (fun _ => T.exit ?_)
  rw [List.take_of_length_le (by omega)] at hap
  try simp only [List.cons_append, List.nil_append, List.replicate, then_normal, inBlock_exit, then_exit]
  refine h1 _ _ ?_
  try clear h1 K_h1
  refine T.gh (Gh.keep [0, 1, 2, 3, 9, 10]) ?_
  show T _ _ _ _ ([.sl (mtsAV l) g, .int .i64 now, .int .i64 ret, .int .i64 fails, .any, .any, .any, .any, .any, .bool true, .ptr p 0] ++ List.replicate 142 .any) t
  have hlb : -1 ≤ (if (-1 : Int) > fails then -1 else fails) ∧ (if (-1 : Int) > fails then -1 else fails) ≤ 9223372036854775807 := by split <;> omega
  refine T.seq_k (fun K_h1 h1 => ?_)
  refine T.regi hm ?_
  simp only [↓reduceIte, namesOf, List.any, I.names, aopsI, astep, ev, setd, List.set, List.getD, List.getElem?_cons_zero, List.getElem?_cons_succ, List.cons_append, List.nil_append, List.replicate, then_normal, Option.getD_some, Bool.or_false, Bool.false_eq_true, up_zero, List.map_cons, List.map_nil]
  refine (sfail_ok (n := fails) hS).mono ?_
  rintro v S1 ⟨hS1, hS1e⟩
  generalize (if (-1 : Int) > fails then -1 else fails) = lf at hlb hS1 hS1e
  have hN1 : Nx t S1 p m := by rw [hS1e]; exact .set _
  have hx1 : S1.next = t.next := by rw [hS1e]; rfl
  clear hS1e
  try simp only [↓reduceIte, namesOf, List.any, I.names, aops, aopsI, aopsT, qstep, CPt, qget, Tbl.get, astep, ev, setd, List.set, List.getD, List.getElem?_cons_zero, List.getElem?_cons_succ, List.getElem?_nil, List.cons_append, List.nil_append, List.length_cons, List.length_nil, List.replicate, then_normal, inBlock_normal, Option.getD_some, Option.getD_none, Bool.or_false, Bool.or_true, Bool.true_or, Bool.false_or, Bool.false_eq_true, if_false, if_true, up_zero, Nat.reduceAdd, Nat.reduceSub, binv, ↓opt_def, AV.isAny, AV.cells, ldc, List.map_cons, List.map_nil, St.set_next, St.set_same, St.up_next, Int.natCast_nonneg, lt_len, le_len, Int.toNat_natCast, true_and, and_true, eq_self, reduceCtorEq, decide_true, List.length_singleton, er_int, er_bool, er_str, srcR, up_zero]
  refine h1 _ _ ?_
  try clear h1 K_h1
  refine T.seq_k (fun K_h1 h1 => ?_)
  refine T.regi hm ?_
  simp only [↓reduceIte, namesOf, List.any, I.names, aopsI, astep, ev, setd, List.set, List.getD, List.getElem?_cons_zero, List.getElem?_cons_succ, then_normal, Option.getD_some, Bool.or_false, Bool.false_eq_true, up_zero, ↓opt_def, List.map_cons, List.map_nil]
  refine (exMark_only (hN1.tabs hT2 hS) hS1 ⟨by omega, by omega⟩ hlb (by omega) (by omega) hid hap).mono ?_
  rintro v S2 ⟨n, er, left2, calls2, L2, rfl, hS2, hN2, hc2, hu2, hO⟩
  try simp only [List.getElem?_cons_zero, List.getElem?_cons_succ]
  refine h1 _ _ ?_
  try clear h1 K_h1
  refine T.seq_k (fun K_h1 h1 => ?_)
  refine T.regi hm ?_
  simp only [↓reduceIte, namesOf, List.any, I.names, aopsI, astep, ev, setd, List.set, List.getD, List.getElem?_cons_zero, List.getElem?_cons_succ, then_normal, Option.getD_some, Bool.or_false, Bool.false_eq_true, up_zero, List.map_cons, List.map_nil]
  refine (sfail_ok (n := -1) hS2).mono ?_
  rintro v S3 ⟨hS3, hS3e⟩
  have hN3 : Nx t S3 p m := (hN1.trans hN2).trans (by rw [hS3e]; exact .set _)
  clear hS3e hN2 hS2 hN1 hS1
  have hQ3 : t.next ≤ S3.next ∧ ∀ n r, σ1.res n = some r → S3.res n = some r := ⟨hN3.next, fun n r hr => hN3.old n r (by have := wf.lt hr; omega) (by have := wf.lt hr; omega) (hq n r hr)⟩
  have hm1 : (if (-1 : Int) > -1 then (-1 : Int) else -1) = -1 := by decide
  rw [hm1] at hS3
  try simp only [↓reduceIte, namesOf, List.any, I.names, aops, aopsI, aopsT, qstep, CPt, qget, Tbl.get, astep, ev, setd, List.set, List.getD, List.getElem?_cons_zero, List.getElem?_cons_succ, List.getElem?_nil, List.cons_append, List.nil_append, List.length_cons, List.length_nil, List.replicate, then_normal, inBlock_normal, Option.getD_some, Option.getD_none, Bool.or_false, Bool.or_true, Bool.true_or, Bool.false_or, Bool.false_eq_true, if_false, if_true, up_zero, Nat.reduceAdd, Nat.reduceSub, binv, ↓opt_def, AV.isAny, AV.cells, ldc, List.map_cons, List.map_nil, St.set_next, St.set_same, St.up_next, Int.natCast_nonneg, lt_len, le_len, Int.toNat_natCast, true_and, and_true, eq_self, reduceCtorEq, decide_true, List.length_singleton, er_int, er_bool, er_str, srcR, up_zero]
  refine h1 _ _ ?_
  try clear h1 K_h1
  refine T.seq_k (fun K_h1 h1 => ?_)
  refine T.seq_k (fun K_h0 h0 => ?_)
  refine T.regi hm ?_
  simp only [↓reduceIte, namesOf, List.any, I.names, aopsI, astep, ev, setd, List.set, then_normal, Bool.or_false, Bool.false_eq_true, up_zero]
  refine h0 _ _ ?_
  try clear h0 K_h0
  refine T.block ?_
  refine T.gh (Gh.keep [0, 1, 2, 9, 10, 15, 16]) ?_
  refine T.loopi (fun i ρ u => ∃ calls3, StS u p m 100000 (-1) calls3 L2 ∧ (t.next ≤ u.next ∧ ∀ n r, σ1.res n = some r → u.res n = some r) ∧ (0 ≤ calls3 ∧ calls3 = calls2 + i) ∧
      ρ = [.sl (mtsAV l) g, .int .i64 now, .int .i64 ret, .any, .any, .any, .any, .any, .any, .bool true, .ptr p 0, .any, .any, .any, .any, er, .int .i64 (i : Int)] ++ List.replicate 136 .any)
    l.length 0 (Nat.zero_le _) ⟨calls2, hS3, hQ3, by omega, rfl⟩ ?_
  clear hS3 hN3 hx1 hQ3
  rintro i ρ u hi ⟨calls3, hSu, hNu, hc3, rfl⟩
  refine T.seq_k (fun K_h2 h2 => ?_)
  by_cases hil : i < l.length
  case neg =>
    refine T.seq_k (fun K_h0 h0 => ?_)
    refine T.regi hm ?_
    simp only [↓reduceIte, namesOf, List.any, I.names, aopsI, astep, ev, setd, List.set, List.getD, List.getElem?_cons_zero, List.getElem?_cons_succ, List.cons_append, List.nil_append, List.replicate, then_normal, Option.getD_some, Bool.or_false, Bool.false_eq_true, up_zero, binv, ↓opt_def, lt_len, eq_self, mts_len, hil, decide_false]
    refine h0 _ _ ?_
    try clear h0 K_h0
    refine T.cond rfl (fun h => by cases h) (fun _ => T.exit ?_)
    try simp only [List.cons_append, List.nil_append, List.replicate, then_normal, inBlock_exit, then_exit]
    refine h1 _ _ ?_
    try clear h1 K_h1
    refine T.seq_k (fun K_h0 h0 => ?_)
    refine T.regi hm ?_
    simp only [↓reduceIte, namesOf, List.any, I.names, aopsI, astep, ev, setd, List.set, List.getD, List.getElem?_cons_zero, List.getElem?_cons_succ, then_normal, Option.getD_some, Bool.or_false, Bool.false_eq_true, up_zero]
    refine h0 _ _ ?_
    try clear h0 K_h0
    exact T.ret (Fin.quiet rfl trivial hNu.2 ⟨rfl, rfl⟩)
  obtain ⟨x, hx⟩ : ∃ x, l[i]? = some x := ⟨_, List.getElem?_eq_getElem hil⟩
  have hgx := mts_get hx
  have hw := inc64' hil (by omega)
  have hxl := List.mem_of_getElem? hx
  have hxi := hid x hxl
  obtain ⟨o1, o2, o3⟩ := hO
  have hnm : (⟨(nmF x.id [120] 0).toArray⟩ : ByteArray) = nmX x.id := rfl
  have hget := sget_ok (k := nmX x.id) hSu (by omega) ⟨hc3.1, by omega⟩ (fun b hb => by have := get_le hb; omega)
  have hlm : leftB (-1) = -1 := by decide
  rw [hlm] at hget
  have hneg : ¬ (-1 : Int) = 0 := by decide
  have enn : eqIv true [(tCode, .i64)] .nili .nili = some true := rfl
  have ein : ∀ c : Int, eqIv true [(tCode, .i64)] (.iface tCode (.int .i64 c)) .nili = some false := fun _ => rfl
  refine T.seq_k (fun K_h0 h0 => ?_)
  refine T.regi hm ?_
  simp only [↓reduceIte, namesOf, List.any, I.names, aopsI, astep, ev, setd, List.set, List.getD, List.getElem?_cons_zero, List.getElem?_cons_succ, List.cons_append, List.nil_append, List.replicate, then_normal, Option.getD_some, Bool.or_false, Bool.false_eq_true, up_zero, binv, ↓opt_def, lt_len, true_and, eq_self, decide_true, mts_len, hil]
  refine h0 _ _ ?_
  try clear h0 K_h0
  refine T.cond rfl (fun _ => T.skip ?_) (fun h => by cases h)
  refine h2 _ _ ?_
  try clear h2 K_h2
  refine T.seq_k (fun K_h3 h3 => ?_)
  refine T.block ?_
  have hqx : ∀ u', Nx u u' p m → t.next ≤ u'.next ∧ ∀ n r, σ1.res n = some r → u'.res n = some r := fun u' hN => ⟨Nat.le_trans hNu.1 hN.next, fun n r hr => hN.old n r (by have := wf.lt hr; omega) (by have := wf.lt hr; omega) (hNu.2 n r hr)⟩
  -- a round's end
  have hend : ∀ u', StS u' p m 100000 (-1) (calls3 + 1) L2 → (t.next ≤ u'.next ∧ ∀ n r, σ1.res n = some r → u'.res n = some r) → ∀ ρ', keep [0, 1, 2, 9, 10, 15, 16] 0 ρ' = [.sl (mtsAV l) g, .int .i64 now, .int .i64 ret, .any, .any, .any, .any, .any, .any, .bool true, .ptr p 0, .any, .any, .any, .any, er, .int .i64 (i : Int)] ++ List.replicate 136 .any → K_h3 ρ' u' := by
    intro u' hS' hN' ρ' hk
    refine h3 _ _ ?_
    refine T.gh (Gh.keep [0, 1, 2, 9, 10, 15, 16]) ?_
    rw [hk]
    refine T.regi hm ?_
    simp only [↓reduceIte, namesOf, List.any, I.names, aopsI, astep, ev, setd, List.set, List.getD, List.getElem?_cons_zero, List.getElem?_cons_succ, List.cons_append, List.nil_append, List.replicate, then_normal, Option.getD_some, Bool.or_false, Bool.false_eq_true, up_zero, binv, ↓opt_def, eq_self, hw]
    exact ⟨hil, _, _, Gh.keep [0, 1, 2, 9, 10, 15, 16], calls3 + 1, hS', hN', by omega, rfl⟩
  cases hg : getO (nmX x.id) L2 with
  | none =>
    have hgc : getC (-1) L2 (nmX x.id) = 4 := by unfold getC; rw [if_neg hneg, hg]; rfl
    have er4 : errAV 4 = .iface tCode (.int .i64 4) := rfl
    rw [hgc, er4, if_neg (by decide)] at hget
    refine T.seq_k (fun K_h4 h4 => ?_)
    refine T.regi hm ?_
    simp only [↓reduceIte, namesOf, List.any, I.names, aopsI, astep, ev, setd, List.set, List.getD, List.getElem?_cons_zero, List.getElem?_cons_succ, List.cons_append, List.nil_append, List.length_cons, List.length_nil, List.replicate, then_normal, Option.getD_some, Bool.or_false, Bool.false_eq_true, up_zero, Nat.reduceAdd, ↓opt_def, AV.cells, ldc, List.map_cons, List.map_nil, Int.natCast_nonneg, lt_len, Int.toNat_natCast, true_and, and_true, eq_self, hil, mts_len, hgx, Nat.zero_add, List.drop]
    refine (rName_ok (what := [120]) (page := 0) hxi (by omega) (by simp)).mono ?_
    rintro v u1 ⟨rfl, rfl⟩
    rw [hnm]
    try simp only [↓reduceIte, namesOf, List.any, I.names, aops, aopsI, aopsT, qstep, CPt, qget, Tbl.get, astep, ev, setd, List.set, List.getD, List.getElem?_cons_zero, List.getElem?_cons_succ, List.getElem?_nil, List.cons_append, List.nil_append, List.length_cons, List.length_nil, List.replicate, then_normal, inBlock_normal, Option.getD_some, Option.getD_none, Bool.or_false, Bool.or_true, Bool.true_or, Bool.false_or, Bool.false_eq_true, if_false, if_true, up_zero, Nat.reduceAdd, Nat.reduceSub, binv, ↓opt_def, AV.isAny, AV.cells, ldc, List.map_cons, List.map_nil, St.set_next, St.set_same, St.up_next, Int.natCast_nonneg, lt_len, le_len, Int.toNat_natCast, true_and, and_true, eq_self, reduceCtorEq, decide_true, List.length_singleton, er_int, er_bool, er_str, srcR, up_zero]
    refine hget.mono ?_
    rintro v u2 ⟨rfl, hS4, hN4⟩
    try simp only [List.getElem?_cons_zero, List.getElem?_cons_succ]
    refine h4 _ _ ?_
    try clear h4 K_h4
    refine T.seq_k (fun K_h0 h0 => ?_)
    refine T.regi hm ?_
    simp only [↓reduceIte, namesOf, List.any, I.names, aopsI, astep, ev, setd, List.set, List.getD, List.getElem?_cons_zero, List.getElem?_cons_succ, List.cons_append, List.nil_append, List.length_cons, List.length_nil, List.replicate, then_normal, Option.getD_some, Bool.or_false, Bool.false_eq_true, up_zero, Nat.reduceAdd, binv, ↓opt_def, AV.cells, ldc, Int.natCast_nonneg, lt_len, Int.toNat_natCast, true_and, and_true, eq_self, hil, mts_len, hgx, Nat.zero_add, List.drop]
    refine h0 _ _ ?_
    try clear h0 K_h0
    refine T.seq_k (fun K_h4 h4 => ?_)
    rcases o1 with rfl | ⟨c, rfl⟩
    · obtain ⟨hb, hall⟩ := o3 rfl
      have hws : IntKind.i64.wrap (now - ret) = now - ret := wrap64 (by unfold outBad at hb; omega) (by unfold outBad at hb; omega)
      have hle : decide (x.en ≤ now - ret) = false := decide_eq_false fun h => hall x hxl h hg
      refine T.seq_k (fun K_h0 h0 => ?_)
      refine T.regi hm ?_
      simp only [↓reduceIte, namesOf, List.any, I.names, aopsI, astep, ev, setd, List.set, List.getD, List.getElem?_cons_zero, List.getElem?_cons_succ, List.cons_append, List.nil_append, List.replicate, then_normal, Option.getD_some, Bool.or_false, Bool.false_eq_true, up_zero, eq_self, hws, hle, ein, enn, Bool.bne_false, bne_self_eq_false]
      refine h0 _ _ ?_
      try clear h0 K_h0
      refine T.cond rfl (fun h => by cases h) (fun _ => T.skip ?_)
      refine h4 _ _ ?_
      try clear h4 K_h4
      refine T.seq_k (fun K_h4 h4 => ?_)
      refine T.seq_k (fun K_h0 h0 => ?_)
      refine T.regi hm ?_
      simp only [↓reduceIte, namesOf, List.any, I.names, aopsI, astep, ev, setd, List.set, List.getD, List.getElem?_cons_zero, List.getElem?_cons_succ, List.cons_append, List.nil_append, List.replicate, then_normal, Option.getD_some, Bool.or_false, Bool.false_eq_true, up_zero, ein, Bool.bne_true, Bool.not_false]
      refine h0 _ _ ?_
      try clear h0 K_h0
      refine T.cond rfl (fun _ => T.exit ?_) (fun h => by cases h)
      try simp only [List.cons_append, List.nil_append, List.replicate, then_normal, inBlock_exit, then_exit]
      exact hend _ hS4 (hqx _ hN4) _ rfl
    · refine T.seq_k (fun K_h0 h0 => ?_)
      refine T.regi hm ?_
      simp only [↓reduceIte, namesOf, List.any, I.names, aopsI, astep, ev, setd, List.set, List.getD, List.getElem?_cons_zero, List.getElem?_cons_succ, List.cons_append, List.nil_append, List.replicate, then_normal, Option.getD_some, Bool.or_false, Bool.false_eq_true, up_zero, eq_self, ein, bne_self_eq_false]
      refine h0 _ _ ?_
      try clear h0 K_h0
      refine T.cond rfl (fun h => by cases h) (fun _ => T.skip ?_)
      refine h4 _ _ ?_
      try clear h4 K_h4
      refine T.seq_k (fun K_h4 h4 => ?_)
      refine T.seq_k (fun K_h0 h0 => ?_)
      refine T.regi hm ?_
      simp only [↓reduceIte, namesOf, List.any, I.names, aopsI, astep, ev, setd, List.set, List.getD, List.getElem?_cons_zero, List.getElem?_cons_succ, List.cons_append, List.nil_append, List.replicate, then_normal, Option.getD_some, Bool.or_false, Bool.false_eq_true, up_zero, ein, Bool.bne_true, Bool.not_false]
      refine h0 _ _ ?_
      try clear h0 K_h0
      refine T.cond rfl (fun _ => T.exit ?_) (fun h => by cases h)
      try simp only [List.cons_append, List.nil_append, List.replicate, then_normal, inBlock_exit, then_exit]
      exact hend _ hS4 (hqx _ hN4) _ rfl
  | some b =>
    obtain ⟨hb, hle, rfl, hfair⟩ := o2 x hxl b hg
    have hgc : getC (-1) L2 (nmX x.id) = 0 := by unfold getC; rw [if_neg hneg, hg]; rfl
    have er0 : errAV 0 = .nili := rfl
    rw [hgc, er0, if_pos rfl, hg, Option.getD_some] at hget
    have hws : IntKind.i64.wrap (now - ret) = now - ret := wrap64 (by unfold outBad at hb; omega) (by unfold outBad at hb; omega)
    have hle' : decide (x.en ≤ now - ret) = true := decide_eq_true hle
    have hmb := marker_back hfair hxi (show (0 : Nat) < 18446744073709551616 by omega)
    have hlen := mark_len ⟨x.id, now, 0⟩
    refine T.seq_k (fun K_h4 h4 => ?_)
    refine T.regi hm ?_
    simp only [↓reduceIte, namesOf, List.any, I.names, aopsI, astep, ev, setd, List.set, List.getD, List.getElem?_cons_zero, List.getElem?_cons_succ, List.cons_append, List.nil_append, List.length_cons, List.length_nil, List.replicate, then_normal, Option.getD_some, Bool.or_false, Bool.false_eq_true, up_zero, Nat.reduceAdd, ↓opt_def, AV.cells, ldc, List.map_cons, List.map_nil, Int.natCast_nonneg, lt_len, Int.toNat_natCast, true_and, and_true, eq_self, hil, mts_len, hgx, Nat.zero_add, List.drop]
    refine (rName_ok (what := [120]) (page := 0) hxi (by omega) (by simp)).mono ?_
    rintro v u1 ⟨rfl, rfl⟩
    rw [hnm]
    try simp only [↓reduceIte, namesOf, List.any, I.names, aops, aopsI, aopsT, qstep, CPt, qget, Tbl.get, astep, ev, setd, List.set, List.getD, List.getElem?_cons_zero, List.getElem?_cons_succ, List.getElem?_nil, List.cons_append, List.nil_append, List.length_cons, List.length_nil, List.replicate, then_normal, inBlock_normal, Option.getD_some, Option.getD_none, Bool.or_false, Bool.or_true, Bool.true_or, Bool.false_or, Bool.false_eq_true, if_false, if_true, up_zero, Nat.reduceAdd, Nat.reduceSub, binv, ↓opt_def, AV.isAny, AV.cells, ldc, List.map_cons, List.map_nil, St.set_next, St.set_same, St.up_next, Int.natCast_nonneg, lt_len, le_len, Int.toNat_natCast, true_and, and_true, eq_self, reduceCtorEq, decide_true, List.length_singleton, er_int, er_bool, er_str, srcR, up_zero]
    refine hget.mono ?_
    rintro v u2 ⟨rfl, hS4, hN4⟩
    try simp only [List.getElem?_cons_zero, List.getElem?_cons_succ]
    refine h4 _ _ ?_
    try clear h4 K_h4
    refine T.seq_k (fun K_h0 h0 => ?_)
    refine T.regi hm ?_
    simp only [↓reduceIte, namesOf, List.any, I.names, aopsI, astep, ev, setd, List.set, List.getD, List.getElem?_cons_zero, List.getElem?_cons_succ, List.cons_append, List.nil_append, List.length_cons, List.length_nil, List.replicate, then_normal, Option.getD_some, Bool.or_false, Bool.false_eq_true, up_zero, Nat.reduceAdd, binv, ↓opt_def, AV.cells, ldc, Int.natCast_nonneg, lt_len, Int.toNat_natCast, true_and, and_true, eq_self, hil, mts_len, hgx, Nat.zero_add, List.drop]
    refine h0 _ _ ?_
    try clear h0 K_h0
    have hN6 := hqx _ hN4
    have hS5 : StS ((u2.up 8).set (u2.next + 5) (.obj (mkC ⟨x.id, now, 0⟩))) p m 100000 (-1) (calls3 + 1) L2 := by
      have h9 : p < u2.next ∧ m < u2.next := by omega
      obtain ⟨ts, clk, g1, g2⟩ := hS4.map
      exact ⟨by rw [St.set_other _ _ (by omega)]; exact hS4.obj, ⟨ts, clk, by rw [St.set_other _ _ (by omega)]; exact g1, g2⟩, hS4.ne⟩
    have hN5 : t.next ≤ ((u2.up 8).set (u2.next + 5) (.obj (mkC ⟨x.id, now, 0⟩))).next ∧ ∀ n r, σ1.res n = some r → ((u2.up 8).set (u2.next + 5) (.obj (mkC ⟨x.id, now, 0⟩))).res n = some r := ⟨by simp; omega, fun n r hr => by
      rw [St.set_other _ _ (by have := wf.lt hr; omega)]
      exact hN6.2 n r hr⟩
    have hb5 : ((u2.up 8).set (u2.next + 5) (.obj (mkC ⟨x.id, now, 0⟩))).res (u2.next + 5) = some (.obj (mkC ⟨x.id, now, 0⟩)) := St.set_same _ _ _
    refine T.seq_k (fun K_h5 h5 => ?_)
    -- behind the two looks at what is told
    have hlook : ∀ ρ', keep [0, 1, 2, 9, 10, 15, 16, 17, 18] 0 ρ' = [.sl (mtsAV l) g, .int .i64 now, .int .i64 ret, .any, .any, .any, .any, .any, .any, .bool true, .ptr p 0, .any, .any, .any, .any, er, .int .i64 (i : Int), .sl (bytesAV (markB ⟨x.id, now, 0⟩)) .none, .nili] ++ List.replicate 134 .any → K_h5 ρ' u2 := by
      intro ρ' hk
      refine h5 _ _ ?_
      refine T.gh (Gh.keep [0, 1, 2, 9, 10, 15, 16, 17, 18]) ?_
      rw [hk]
      refine T.seq_k (fun K_h6 h6 => ?_)
      refine T.seq_k (fun K_h0 h0 => ?_)
      refine T.regi hm ?_
      simp only [↓reduceIte, namesOf, List.any, I.names, aopsI, astep, ev, setd, List.set, List.getD, List.getElem?_cons_zero, List.getElem?_cons_succ, List.cons_append, List.nil_append, List.replicate, then_normal, Option.getD_some, Bool.or_false, Bool.false_eq_true, up_zero, enn, bne_self_eq_false]
      refine h0 _ _ ?_
      try clear h0 K_h0
      refine T.cond rfl (fun h => by cases h) (fun _ => T.skip ?_)
      refine h6 _ _ ?_
      try clear h6 K_h6
      refine T.seq_k (fun K_h6 h6 => ?_)
      refine T.regi hm ?_
      simp only [↓reduceIte, namesOf, List.any, I.names, aopsI, astep, ev, setd, List.set, List.getD, List.getElem?_cons_zero, List.getElem?_cons_succ, List.cons_append, List.nil_append, List.length_cons, List.length_nil, List.replicate, then_normal, Option.getD_some, Bool.or_false, Bool.or_true, Nat.reduceAdd, ↓opt_def, AV.cells, List.map_cons, List.map_nil, St.set_same, eq_self]
      refine (rMarker_ok (by rw [hlen]; omega)).mono ?_
      rintro v u3 ⟨rfl, rfl⟩
      rw [hmb]
      try simp only [↓reduceIte, List.getElem?_cons_zero, List.getElem?_cons_succ, List.cons_append, List.nil_append, List.length_cons, List.length_nil, Nat.reduceAdd, AV.isAny, AV.cells, eq_self, decide_true, AV.fits, AV.one, List.all_cons, List.all_nil, Nat.reduceBEq, Bool.not_false, Bool.and_self, Nat.zero_add, splice, List.take, List.drop, Nat.reduceLeDiff, St.set_set]
      refine h6 _ _ ?_
      try clear h6 K_h6
      generalize ((u2.up 8).set (u2.next + 5) (.obj (mkC ⟨x.id, now, 0⟩))) = u4 at hS5 hN5 hb5 ⊢
      generalize u2.next + 5 = b5 at hb5 ⊢
      have hb6 : u4.res b5 = some (.obj [.int .u64 (x.id : Int), .int .i64 now, .int .u64 0]) := hb5
      refine T.gh (Gh.keep [0, 1, 2, 9, 10, 15, 16, 20, 21]) ?_
      show T _ _ _ _ ([.sl (mtsAV l) g, .int .i64 now, .int .i64 ret, .any, .any, .any, .any, .any, .any, .bool true, .ptr p 0, .any, .any, .any, .any, er, .int .i64 (i : Int), .any, .any, .any, .ptr b5 0, .int .i64 0] ++ List.replicate 131 .any) u4
      have z0 : ((0 : Int) != 0) = false := rfl
      have zx : ((x.id : Int) != (x.id : Int)) = false := bne_self_eq_false _
      have zn : (now != now) = false := bne_self_eq_false _
      refine T.seq_k (fun K_h0 h0 => ?_)
      refine T.regi hm ?_
      simp only [↓reduceIte, namesOf, List.any, I.names, aopsI, astep, ev, setd, List.set, List.getD, List.getElem?_cons_zero, List.getElem?_cons_succ, List.cons_append, List.nil_append, List.length_cons, List.length_nil, List.replicate, then_normal, Option.getD_some, Bool.or_false, Bool.false_eq_true, up_zero, Nat.reduceAdd, binv, ↓opt_def, AV.cells, ldc, Int.natCast_nonneg, lt_len, Int.toNat_natCast, true_and, and_true, eq_self, hil, mts_len, hgx, hb6, z0, zx, zn, Nat.zero_add, Nat.zero_add, List.drop]
      refine h0 _ _ ?_
      try clear h0 K_h0
      refine T.cond rfl (fun h => by cases h) (fun _ => T.skip ?_)
      try simp only [List.cons_append, List.nil_append, List.replicate, then_normal, inBlock_normal, inBlock_normal]
      exact hend _ hS5 hN5 _ rfl
    rcases o1 with rfl | ⟨c, rfl⟩
    · refine T.seq_k (fun K_h0 h0 => ?_)
      refine T.regi hm ?_
      simp only [↓reduceIte, namesOf, List.any, I.names, aopsI, astep, ev, setd, List.set, List.getD, List.getElem?_cons_zero, List.getElem?_cons_succ, List.cons_append, List.nil_append, List.replicate, then_normal, Option.getD_some, Bool.or_false, Bool.false_eq_true, up_zero, eq_self, hws, hle', enn, Bool.bne_false, Bool.not_true, bne_self_eq_false]
      refine h0 _ _ ?_
      try clear h0 K_h0
      refine T.cond rfl (fun h => by cases h) (fun _ => T.skip ?_)
      exact hlook _ rfl
    · refine T.seq_k (fun K_h0 h0 => ?_)
      refine T.regi hm ?_
      simp only [↓reduceIte, namesOf, List.any, I.names, aopsI, astep, ev, setd, List.set, List.getD, List.getElem?_cons_zero, List.getElem?_cons_succ, List.cons_append, List.nil_append, List.replicate, then_normal, Option.getD_some, Bool.or_false, Bool.false_eq_true, up_zero, eq_self, hws, hle', ein, enn, Bool.bne_false, Bool.not_true, bne_self_eq_false]
      refine h0 _ _ ?_
      try clear h0 K_h0
      refine T.cond rfl (fun h => by cases h) (fun _ => T.skip ?_)
      exact hlook _ rfl

end Go.VL

namespace Go.VL

open Go.Proofs

def fts (P : Program) (t : TypeId) : Option (List TypeId) := match P.underlying t with
  | some (.struct fs) => some (fs.toList.map (·.type))
  | _ => none

def HasTs (P : Program) (n : Nat) : List TypeId → List AV → Prop
  | [], xs => xs = []
  | t :: r, xs => ∃ ys zs, xs = ys ++ zs ∧ HasT P n t ys ∧ HasTs P n r zs

theorem hasTs_of {P : Program} {n : Nat} : ∀ {fs : List Field} {xs : List AV}, HasF P n fs xs → HasTs P n (fs.map (·.type)) xs
  | [], xs, h => by rw [hasF_nil] at h; exact h
  | f :: r, xs, h => by
    rw [hasF_cons] at h
    obtain ⟨ys, zs, e, h1, h2⟩ := h
    exact ⟨ys, zs, e, h1, hasTs_of h2⟩

theorem has_fields {P : Program} {n : Nat} {t : TypeId} {ts : List TypeId} {y : AV} (hf : fts P t = some ts) (h : HasE P (n + 1) t y) : ∃ zs, y = .agg zs ∧ HasTs P n ts zs := by
  unfold fts at hf
  split at hf
  · rename_i fs hu
    simp only [Option.some.injEq] at hf; subst hf
    rw [hasE_iff] at h
    obtain ⟨h1, h2, _⟩ := h
    obtain ⟨zs, rfl⟩ := h2 (by unfold isStruct; rw [hu])
    rw [hasT_succ, hu] at h1
    exact ⟨zs, rfl, hasTs_of h1⟩
  · cases hf

theorem hasT_int {P : Program} {n : Nat} {t : TypeId} {k : IntKind} {xs : List AV} (hu : P.underlying t = some (.int k)) (h : HasT P (n + 1) t xs) : ∃ m, xs = [.int k m] ∧ k.min ≤ m ∧ m ≤ k.max := by
  rw [hasT_succ, hu] at h; exact h

theorem maxLen_eq : maxLen = 9223372036854775807 := by decide

theorem u64_nat {m : Int} (h1 : IntKind.u64.min ≤ m) (h2 : m ≤ IntKind.u64.max) : ∃ n : Nat, m = (n : Int) ∧ n < 18446744073709551616 := by
  have h1' : 0 ≤ m := h1
  have h2' : m ≤ 18446744073709551615 := h2
  exact ⟨m.toNat, by omega, by omega⟩

end Go.VL

namespace Go.Proofs.YtmbbeldgfhnkbaaDoor

open Go.RowKit Go.VL

theorem own : ownKnob Tryd.prog.godebug = none := by kernel_rfl

theorem laidOut : laidOutB Tryd.prog = true := by kernel_rfl

end Go.Proofs.YtmbbeldgfhnkbaaDoor

namespace Go.VL

open Go.Proofs

/-- a span whose numbers fit -/
def Sp.ok (s : Sp) : Prop := s.tr < 18446744073709551616 ∧ s.id < 18446744073709551616 ∧ (-9223372036854775808 ≤ s.st ∧ s.st ≤ 9223372036854775807) ∧ (-9223372036854775808 ≤ s.en ∧ s.en ≤ 9223372036854775807) ∧ s.da.length ≤ 9223372036854775807

def Tc.ok (t : Tc) : Prop := t.id < 18446744073709551616 ∧ t.sp.length ≤ 9223372036854775807 ∧ ∀ s ∈ t.sp, s.ok

end Go.VL

namespace Go.VL

open Go.RowKit Go.Proofs

def κT (W : World) : Kx := ⟨fun b _ => b < W.heap.size, fun n => n, fun _ => 0, fun _ => 0, fun _ => 0, fun n => n = g_pow10 ∨ n = g_deB64⟩

def σT : St := ⟨g_pow10 + g_deB64 + 1, fun n => if n = g_pow10 then some (.gl g_pow10 pow10L) else if n = g_deB64 then some (.gl g_deB64 deB64) else none⟩

theorem σT_only {n : Nat} {r : Res} (h : σT.res n = some r) : (n = g_pow10 ∧ r = .gl g_pow10 pow10L) ∨ (n = g_deB64 ∧ r = .gl g_deB64 deB64) := by
  unfold σT at h
  simp only at h
  split at h
  · rename_i e; exact .inl ⟨e, (Option.some.inj h).symm⟩
  · split at h
    · rename_i e; exact .inr ⟨e, (Option.some.inj h).symm⟩
    · cases h

theorem σT_real {n : Nat} {r : Res} (h : σT.res n = some r) (hr : r.real = true) : False := by
  rcases σT_only h with ⟨_, rfl⟩ | ⟨_, rfl⟩ <;> cases hr

theorem tabsT : Tabs σT := ⟨by unfold σT; simp, by
  show (if g_deB64 = g_pow10 then some (Res.gl g_pow10 pow10L) else if g_deB64 = g_deB64 then some (Res.gl g_deB64 deB64) else none) = _
  rw [if_neg (by decide), if_pos rfl]⟩

def deBZ : List Int := [0, 1, 56, 2, 57, 49, 28, 3, 61, 58, 42, 50, 38, 29, 17, 4, 62, 47, 59, 36, 45, 43, 51, 22, 53, 39, 33, 30, 24, 18, 12, 5, 63, 55, 48, 27, 60, 41, 37, 16, 46, 35, 44, 21, 52, 32, 23, 11, 54, 26, 40, 15, 34, 20, 31, 10, 25, 14, 19, 9, 13, 8, 7, 6]

def powZ : List Int := (List.range 20).map fun i => ((10 ^ i : Nat) : Int)

theorem pow_eq : pow10L = powZ.map (AV.int .u64) := by unfold pow10L powZ; rw [List.map_map]; rfl

theorem vs_tab {κ : Kx} {w : World} {b : Nat} {k : IntKind} : ∀ (zs : List Int) (o : Nat), (∀ i, i < zs.length → w.cell? ⟨b, o + i, none⟩ = some (.int k (zs.getD i 0))) → (∀ i, κ.I b i) → Vs κ w b o (zs.map (AV.int k))
  | [], o, _, _ => .nil _ _
  | z :: zs, o, h, hI => .cons _ _ _ _ _ (hI o) (by have := h 0 (by simp); simpa using this) (.int k z) (vs_tab zs (o + 1) (fun i hi => by have := h (i + 1) (by simpa using hi); rw [show o + 1 + i = o + (i + 1) by omega]; simpa using this) hI)

section

variable {H : Type} {enc : TypeId × Value → H} {P : Program} {W : World}

def TabsW (W : World) : Prop := (∀ i, i < powZ.length → W.cell? ⟨g_pow10, i, none⟩ = some (.int .u64 (powZ.getD i 0))) ∧ (∀ i, i < deBZ.length → W.cell? ⟨g_deB64, i, none⟩ = some (.int .u8 (deBZ.getD i 0)))

theorem cell_lt {b i : Nat} {v : Value} (h : W.cell? ⟨b, i, none⟩ = some v) : b < W.heap.size := by
  rcases Nat.lt_or_ge b W.heap.size with h1 | h1
  · exact h1
  · simp [World.cell?, Array.getElem?_eq_none h1] at h

theorem RT (h : TabsW W) : R 0 (fun _ => False) (κT W) W σT := by
  have l1 := cell_lt (h.1 0 (by decide))
  have l2 := cell_lt (h.2 0 (by decide))
  refine ⟨fun n hn => ?_, fun n r hr => ?_, fun n m r s _ _ hx => hx, fun _ _ h => h, fun n r hr hrl => (σT_real hr hrl).elim⟩
  · have hn' : n = g_pow10 ∨ n = g_deB64 := hn
    show n < g_pow10 + g_deB64 + 1
    omega
  · rcases σT_only hr with ⟨rfl, rfl⟩ | ⟨rfl, rfl⟩
    · refine ⟨.inl rfl, rfl, l1, ?_⟩
      rw [pow_eq]
      exact vs_tab powZ 0 (fun i hi => by rw [Nat.zero_add]; exact h.1 i hi) (fun _ => l1)
    · refine ⟨.inr rfl, rfl, l2, ?_⟩
      exact vs_tab deBZ 0 (fun i hi => by rw [Nat.zero_add]; exact h.2 i hi) (fun _ => l2)

theorem ExtT (W : World) : Ext (κ0 W) W (κT W) W := ⟨fun _ _ h => h, fun _ h => h.elim, fun _ h => h.elim, fun _ h => h.elim, fun _ h => h.elim, fun _ h => h.elim, fun _ _ _ => rfl⟩

/-- THE ROW's CONTRACT, where the tables' cells are known -/
theorem law_calls_tabs (n : Nat) {f : FuncId} {fn : Func} {s : ChangeSpec} {tb : TypeId} (hl : laidOutB P = true)
    (hps : fn.params.toList.all (fun t => goodT P n t && P.readableRec t && decide (t < P.types.size)) = true) (hvars : s.vars = []) (hrt : fn.resultTypes = #[tb]) (hb : P.underlying tb = some .bool)
    (hfn : ∀ ds : List (DataW H), ds.length = fn.params.toList.length → s.fn H ds = { results := [.lit (.bool true)], args := ds })
    (hwalk : ∀ xs, HasAll P n fn.params.toList xs → ACalls P f xs σT (fun v _ => v = .bool true))
    {base : Nat} {args : Array Value} {ds gs : List (DataW H)} {before : List MemPlace}
    (hval : ∀ (j : Nat) t v, fn.params[j]? = some t → args[j]? = some v → Value.okWide P W .any base t v)
    (hW : DataW.Whole enc P fn.params.toList s.vars false W args.toList ds gs before) (hg : TabsW W) :
    Calls P f args W fun e W' => ∃ v, e = .returned v ∧ s.post enc P fn false true false false W args v W' := by
  simp only [List.all_eq_true, Bool.and_eq_true, decide_eq_true_eq] at hps
  have hW' := hW
  obtain ⟨p, q, hA, hV, hbf, _, _⟩ := hW
  rw [hvars] at hV
  have hgs : gs = [] ∧ q = [] := by
    cases gs with
    | nil => exact ⟨rfl, by simpa [DataW.TrodVars] using hV⟩
    | cons _ _ => simp [DataW.TrodVars] at hV
  obtain ⟨rfl, rfl⟩ := hgs
  obtain ⟨xs, h1, h2⟩ := args_has (n := n) (fun t ht => (hps t ht).1.1) (fun j t v ht hv => hval j t v (by simpa using ht) (by simpa using hv)) hA
  obtain ⟨l⟩ := args
  refine ((hwalk xs h2).2 (κT W) W l 0 (fun _ => False) (RT hg) (h1.mono (ExtT W))).mono ?_
  rintro e W' ⟨v, x, κ', σ', rfl, _, _, _, hfr, _, hv, hx⟩
  subst hx
  refine ⟨v, rfl, ?_⟩
  rw [hv.bool_inv]
  have hbelow : Below W.heap.size W W' := ⟨hfr.os.os, hfr.tape, hfr.output, hfr.size, fun b hlt => hfr.block b hlt (by rintro ⟨n, r, hn, hrl, _⟩; exact σT_real hn hrl)⟩
  have hd := hfn ds (trodAll_len hA)
  refine ⟨ds, [], before, [], p, [], hW', ?_, ?_, ?_, hbelow.frame _, fun h => by cases h⟩
  · rw [List.append_nil, hd, hrt]
    exact ⟨[], [], shut_bool hb true, rfl, rfl⟩
  · rw [List.append_nil, hd]
    exact trodAll_below hl hbelow (fun t ht => ⟨(hps t ht).1.2, (hps t ht).2⟩) hA
  · rw [hvars, List.append_nil, hd]
    rfl

end

end Go.VL

namespace Go.Proofs.YtmbbeldgfhnkbaaDoor

open Go.ChangeShapes Go.WideShapes Go.ChangeAt Go.RowKit Go.VL

def laidT : List (String × DataW Unit) := [("math/bits.deBruijn32tab", Rows.laid_math_bits_deBruijn32tab), ("math/bits.deBruijn64tab", Rows.laid_math_bits_deBruijn64tab), ("internal/strconv.uint64pow10", Rows.laid_internal_strconv_uint64pow10)]

theorem p10_at : Tryd.prog.globalNamed "internal/strconv.uint64pow10" = some g_pow10 := by kernel_rfl

theorem d64_at : Tryd.prog.globalNamed "math/bits.deBruijn64tab" = some g_deB64 := by kernel_rfl

theorem p10_ty : (Tryd.prog.globals[g_pow10]?).map (·.type) = some t_a20 := by kernel_rfl

theorem d64_ty : (Tryd.prog.globals[g_deB64]?).map (·.type) = some t_a64 := by kernel_rfl

theorem a20_un : Tryd.prog.underlying t_a20 = some (.array 20 t_u64) := by kernel_rfl

theorem a64_un : Tryd.prog.underlying t_a64 = some (.array 64 t_u8) := by kernel_rfl

theorem u64_un : Tryd.prog.underlying t_u64 = some (.int .u64) := by kernel_rfl

theorem u8_un : Tryd.prog.underlying t_u8 = some (.int .u8) := by kernel_rfl

/-- WHAT THE CONDITION GIVES: the tables' cells. -/
theorem tabs_of_laid {W : World} (h : laidMetH Tryd.prog laidT W) : TabsW W := by
  rw [MakeChecks.laidMetH_plain _ _ _ (by kernel_rfl)] at h
  obtain ⟨ps, ⟨_, _, _, _, _, _, _, _, _, _, ⟨g1, t1, cs1, f1, p1, q1, hg1, ht1, hv1, hd1, ⟨g2, t2, cs2, f2, p2, q2, hg2, ht2, hv2, hd2, _, _⟩, _⟩, _⟩, _⟩ := h
  obtain rfl := Option.some.inj (d64_at.symm.trans hg1)
  obtain rfl := Option.some.inj (d64_ty.symm.trans ht1)
  obtain rfl := Option.some.inj (p10_at.symm.trans hg2)
  obtain rfl := Option.some.inj (p10_ty.symm.trans ht2)
  have e1 := Lib.cells_of_tab (k := .u8) (zs := deBZ) a64_un u8_un (by kernel_rfl) (by kernel_rfl) hd1
  have e2 := Lib.cells_of_tab (k := .u64) (zs := powZ) a20_un u64_un (by kernel_rfl) (by kernel_rfl) hd2
  have i1 : Lib.TabIs Tryd.prog W "math/bits.deBruijn64tab" .u8 deBZ := by unfold Lib.TabIs; rw [hv1, ← e1]
  have i2 : Lib.TabIs Tryd.prog W "internal/strconv.uint64pow10" .u64 powZ := by unfold Lib.TabIs; rw [hv2, ← e2]
  exact ⟨fun i hi => i2.cell p10_at i hi, fun i hi => i1.cell d64_at i hi⟩

def tab32 : Array Value := (([0, 1, 28, 2, 29, 14, 24, 3, 30, 22, 20, 15, 25, 17, 4, 8, 31, 27, 13, 23, 21, 19, 16, 7, 26, 12, 18, 6, 11, 5, 10, 9] : List Int).map (Value.int .u8)).toArray

/-- A world that meets the condition: the settled one, the variables' cells laid. -/
noncomputable def laidWorldT (os : Os) : World :=
  let w0 := World.holding Tryd.prog os ⟨#[], #[], []⟩
  { w0 with heap := ((w0.heap.modify g_deB32 fun
      | .cells _ t frozen => .cells tab32 t frozen
      | o => o).modify g_deB64 fun
      | .cells _ t frozen => .cells (deBZ.map (Value.int .u8)).toArray t frozen
      | o => o).modify g_pow10 fun
      | .cells _ t frozen => .cells (powZ.map (Value.int .u64)).toArray t frozen
      | o => o }

theorem laidWorldT_met (os : Os) (args : Array Value) : laidMetH Tryd.prog laidT ((laidWorldT os).forCall (fun _ _ => 0) ⟨#[], args, []⟩).memory :=
  laidMetH_of_parts (laidMet_of_run' 8 (by kernel_rfl) (by kernel_rfl)) (by kernel_rfl)

end Go.Proofs.YtmbbeldgfhnkbaaDoor

namespace Go.VL

open Go.Proofs

set_option maxRecDepth 100000 in
theorem meta_ftsT : fts Tryd.prog t_meta = some [t_u64, t_int, t_i64, t_i64, t_int, t_int] := by kernel_rfl

theorem metas_tyT : Tryd.prog.underlying t_metas = some (.slice t_meta) := by kernel_rfl

theorem u64_tyT : Tryd.prog.underlying t_u64 = some (.int .u64) := by kernel_rfl

theorem i64_tyT : Tryd.prog.underlying t_i64 = some (.int .i64) := by kernel_rfl

theorem int_tyT : Tryd.prog.underlying t_int = some (.int .i64) := by kernel_rfl

theorem meta_ofT {n : Nat} {y : AV} (h : HasE Tryd.prog (n + 2) t_meta y) : ∃ m : Mt, y = .agg (mtC m) ∧ m.id < 18446744073709551616 ∧ (-9223372036854775808 ≤ m.en ∧ m.en ≤ 9223372036854775807) := by
  obtain ⟨zs, hy, hf⟩ := has_fields meta_ftsT h
  clear h
  subst hy
  have h := hf
  clear hf
  obtain ⟨y1, z1, rfl, k1, h⟩ := h
  obtain ⟨y2, z2, rfl, k2, h⟩ := h
  obtain ⟨y3, z3, rfl, k3, h⟩ := h
  obtain ⟨y4, z4, rfl, k4, h⟩ := h
  obtain ⟨y5, z5, rfl, k5, h⟩ := h
  obtain ⟨y6, z6, rfl, k6, h⟩ := h
  have hz : z6 = [] := h
  subst hz
  obtain ⟨m1, rfl, a1, b1⟩ := hasT_int u64_tyT k1
  obtain ⟨m2, rfl, a2, b2⟩ := hasT_int int_tyT k2
  obtain ⟨m3, rfl, a3, b3⟩ := hasT_int i64_tyT k3
  obtain ⟨m4, rfl, a4, b4⟩ := hasT_int i64_tyT k4
  obtain ⟨m5, rfl, a5, b5⟩ := hasT_int int_tyT k5
  obtain ⟨m6, rfl, a6, b6⟩ := hasT_int int_tyT k6
  obtain ⟨n1, rfl, c1⟩ := u64_nat a1 b1
  exact ⟨⟨n1, m2, m3, m4, m5, m6⟩, rfl, c1, a4, b4⟩

theorem metas_ofT {n : Nat} : ∀ {ys : List AV}, (∀ y ∈ ys, HasE Tryd.prog (n + 2) t_meta y) → ∃ l : List Mt, ys = mtsAV l ∧ ∀ m ∈ l, m.id < 18446744073709551616 ∧ (-9223372036854775808 ≤ m.en ∧ m.en ≤ 9223372036854775807)
  | [], _ => ⟨[], rfl, fun _ h => by cases h⟩
  | y :: r, h => by
    obtain ⟨s, rfl, hs⟩ := meta_ofT (h y (by simp))
    obtain ⟨l, rfl, hl⟩ := metas_ofT (fun z hz => h z (List.mem_cons_of_mem _ hz))
    exact ⟨s :: l, rfl, fun x hx => by rcases List.mem_cons.1 hx with rfl | hx; exact hs; exact hl x hx⟩

end Go.VL

namespace Go.Proofs.YtmbbeldgfhnkbaaDoor

open Go.ChangeShapes Go.WideShapes Go.ChangeAt Go.RowKit Go.VL

set_option maxRecDepth 100000 in
theorem expireOnly_lifted (os : Os) (started : os.Started) (H : Type) (enc : TypeId × Value → H) :
    ReturnsInHanded {} Tryd.checked os n_expireOnly .any (fun w args => (Rows.expireOnlySpec.pre enc Tryd.prog Tryd.f5 [] false w args ∧ laidMetH Tryd.prog laidT w) ∧ sizedMet enc Tryd.prog Tryd.f5 (OpenSpec.ofChange Rows.expireOnlySpec) false w args)
      (Rows.expireOnlySpec.post enc Tryd.prog Tryd.f5 false true false false) := by
  refine returnsInHanded_of_change_and (C := Tryd.checked) (X := fun w _ => laidMetH Tryd.prog laidT w) (fun _ _ _ hh h => h.of_heap hh) own started (by kernel_rfl) Tryd.func5
    (ChangeSpec.witness_at (enc := enc) (C := Tryd.checked) (os := os) (X := fun w _ => laidMetH Tryd.prog laidT w) false (laidWorldT os) #[.slice none 0 0, .int .i64 0, .int .i64 0, .int .i64 0] 8 rfl (by kernel_rfl) (by kernel_rfl) (by kernel_rfl) (by kernel_rfl) (by kernel_rfl) (laidWorldT_met os _)) ?_
  intro W base args ds gs before hval0 hW _ _ hL _
  refine law_calls_tabs 3 (tb := 4) laidOut (by kernel_rfl) rfl (by kernel_rfl) (by kernel_rfl) (fun ds hds => ?_) (fun xs hxs => ?_) hval0 hW (tabs_of_laid hL)
  · match ds, hds with
    | [_d1, _d2, _d3, _d4], _ => rfl
  · have hxs' : HasAll Tryd.prog 3 [_, _, _, _] xs := hxs
    have hG := tabsT
    cases hxs' with
    | cons h1 r1 =>
    cases r1 with
    | cons h2 r2 =>
    cases r2 with
    | cons h3 r3 =>
    cases r3 with
    | cons h4 r4 =>
    cases r4
    obtain ⟨ys, rfl, hlen, h1⟩ := has_slice metas_tyT h1
    obtain ⟨l, rfl, hl⟩ := metas_ofT (n := 0) h1
    rw [maxLen_eq, mts_len] at hlen
    obtain ⟨now, rfl, _⟩ := has_int i64_tyT h2
    obtain ⟨ret, rfl, _⟩ := has_int i64_tyT h3
    obtain ⟨fails, rfl, q1, q2⟩ := has_int int_tyT h4
    exact (expireOnly_ok hG hlen (fun m hm => (hl m hm).1) ⟨q1, q2⟩).mono fun v _ ⟨e, _⟩ => e

theorem expireOnly_holds : Rows.ExpireOnlySaid :=
  OpenClaim.holds_of_wide n_expireOnly Tryd.f5 rfl rfl rfl rfl rfl rfl rfl ⟨rfl, rfl, rfl, rfl, rfl⟩ rfl rfl rfl rfl rfl (by kernel_rfl) Tryd.func5 (by kernel_rfl)
    (of_decide_eq_true (by kernel_rfl)) (by unfold Func.isWrapper; first | (rw [if_pos (by decide +kernel)]; kernel_rfl) | (rw [if_neg (by decide +kernel)]; exact ⟨rfl, rfl⟩))
    (fun os started H enc _ => expireOnly_lifted os started H enc)

theorem expireOnly_card : Rows.ExpireOnlyCardSaid :=
  Claim7.holds_tied_plain_at .later [] [.data, .data, .data] true Rows.expireOnlyCard.stood.harness true
    expireOnly_holds (fun _ h => by cases h) (by kernel_rfl) (fun _ h => by cases h) expireOnly_row_tie rfl ⟨rfl, rfl⟩ (by kernel_rfl) rfl
    (fun f fn hf hfn => by
      obtain rfl : f = 5 := Option.some.inj ((show Tryd.prog.funcNamed Rows.expireOnlyRow.func = some 5 by kernel_rfl).symm.trans hf) |>.symm
      obtain rfl : fn = Tryd.f5 := (Option.some.inj (Tryd.func5.symm.trans hfn)).symm
      refine ⟨by kernel_rfl, fun j t ht => ?_⟩
      have hm : t ∈ Tryd.f5.params.toList := by simpa using Array.mem_of_getElem? ht
      have hall : (Tryd.f5.params.toList.all fun u => !Tryd.prog.wantsStandIn u) = true := by kernel_rfl
      exact (show Tryd.prog.wantsStandIn t = false by simpa using List.all_eq_true.1 hall t hm))
    (by kernel_rfl)

end Go.Proofs.YtmbbeldgfhnkbaaDoor
