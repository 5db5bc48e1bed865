/- PlanGroups (layer 19): whatever the metas, the window's length and how many at most, the law returns true, and the arguments read as they did. Conditions: none. -/
import Derived.Test.YtmbbeldgfhnkbaaKPlanGroups3
import Derived.Test.YtmbbeldgfhnkbaaRows

set_option linter.unusedSimpArgs false
set_option linter.unusedVariables false

namespace Go.VL

open Go.Proofs

abbrev MtOk (m : Mt) : Prop := -9223372036854775808 ≤ m.en ∧ m.en ≤ 9223372036854775807

set_option maxRecDepth 10000 in
set_option maxHeartbeats 2000000 in
theorem g19_ok {l : List Mt} {long : Int} {most : Nat} {g : Ver} {σ : St} (hl : l.length ≤ 1000000) (hlong : 1 ≤ long) (hmo : 1 ≤ most) (hm8 : most ≤ 100) (hok : ∀ m ∈ l, MtOk m) :
    ACalls Try.prog n_g19 [.sl (mtsAV l) g, .int .i64 long, .int .i64 (most : Int)] σ (fun v σ' => ∃ out, Grp long most l out ∧ v = .sl (mtsAV out) .none ∧ σ' = σ) := by
  refine s_g19 (fun wf => ?_)
  unfold c_g19
  have hq0 : (long = 0) = False := eq_false (by omega)
  refine T.seq_k (fun K_h0 h0 => ?_)
  refine T.regi hm ?_
  simp only [↓reduceIte, namesOf, List.any, I.names, aopsI, astep, ev, setd, List.set, List.cons_append, List.nil_append, List.length_cons, List.length_nil, List.replicate, then_normal, Bool.or_false, Bool.false_eq_true, up_zero, Nat.reduceAdd, Nat.reduceSub]
  refine h0 _ _ ?_
  try clear h0 K_h0
  refine T.seq_k (fun K_h0 h0 => ?_)
  refine T.regi hm ?_
  simp only [↓reduceIte, namesOf, List.any, I.names, aopsI, astep, ev, setd, List.set, then_normal, Bool.or_false, Bool.false_eq_true, up_zero]
  refine h0 _ _ ?_
  try clear h0 K_h0
  refine T.seq_k (fun K_h1 h1 => ?_)
  refine T.seq_k (fun K_h0 h0 => ?_)
  refine T.regi hm ?_
  simp only [↓reduceIte, namesOf, List.any, I.names, aopsI, astep, ev, setd, List.set, then_normal, Bool.or_false, Bool.false_eq_true, up_zero]
  refine h0 _ _ ?_
  try clear h0 K_h0
  refine T.block ?_
  refine T.gh (Gh.keep [0, 1, 2, 7, 8]) ?_
  refine T.loopi (fun i ρ t => t = σ ∧ ∃ b, BestAt long l i b ∧ ρ = [.sl (mtsAV l) g, .int .i64 long, .int .i64 (most : Int), .any, .any, .any, .any, .int .i64 b, .int .i64 (i : Int)] ++ List.replicate 153 .any)
    l.length 0 (Nat.zero_le _) ⟨rfl, _, .inl ⟨rfl, fun j m hj => by omega⟩, rfl⟩ ?_
  rintro i ρ t hi ⟨rfl, b, hB, rfl⟩
  refine T.seq_k (fun K_h2 h2 => ?_)
  by_cases hil : i < l.length
  case neg =>
    refine T.seq_k (fun K_h0 h0 => ?_)
    refine T.regi hm ?_
    simp only [↓reduceIte, namesOf, List.any, I.names, aopsI, astep, ev, setd, List.set, List.getD, List.getElem?_cons_zero, List.getElem?_cons_succ, List.cons_append, List.nil_append, List.replicate, then_normal, Option.getD_some, Bool.or_false, Bool.false_eq_true, up_zero, binv, ↓opt_def, lt_len, eq_self, mts_len, hil, decide_false]
    refine h0 _ _ ?_
    try clear h0 K_h0
    refine T.cond rfl (fun h => by cases h) (fun _ => T.exit ?_)
    have hie : i = l.length := by omega
    subst hie
    try simp only [List.cons_append, List.nil_append, List.replicate, then_normal, inBlock_exit, then_exit]
    refine h1 _ _ ?_
    try clear h1 K_h1
    refine T.gh (show Gh _ t ([.sl (mtsAV l) g, .int .i64 long, .int .i64 (most : Int), .any, .any, .any, .any, .int .i64 b] ++ List.replicate 154 .any) t from Gh.keep [0, 1, 2, 7]) ?_
    refine T.seq_k (fun K_h0 h0 => ?_)
    refine T.regi hm ?_
    simp only [↓reduceIte, namesOf, List.any, I.names, aopsI, astep, ev, setd, List.set, List.cons_append, List.nil_append, List.replicate, then_normal, Bool.or_false, Bool.false_eq_true, up_zero]
    refine h0 _ _ ?_
    try clear h0 K_h0
    refine T.seq_k (fun K_h1 h1 => ?_)
    refine T.seq_k (fun K_h0 h0 => ?_)
    refine T.regi hm ?_
    simp only [↓reduceIte, namesOf, List.any, I.names, aopsI, astep, ev, setd, List.set, then_normal, Bool.or_false, Bool.false_eq_true, up_zero]
    refine h0 _ _ ?_
    try clear h0 K_h0
    refine T.block ?_
    refine T.gh (Gh.keep [0, 1, 2, 7, 11, 12]) ?_
    rcases hB.done with ⟨rfl, hno⟩ | ⟨m, z, rfl, hz, hF⟩
    · refine T.loopi (fun i ρ u => i = 0 ∧ u = t ∧ ρ = [.sl (mtsAV l) g, .int .i64 long, .int .i64 (most : Int), .any, .any, .any, .any, .int .i64 (-1), .any, .any, .any, .sl [] .nil, .int .i64 0] ++ List.replicate 149 .any)
        0 0 (Nat.zero_le _) ⟨rfl, rfl, rfl⟩ ?_
      rintro i ρ u - ⟨rfl, rfl, rfl⟩
      refine T.seq_k (fun K_h2 h2 => ?_)
      have e0 : decide ((-1 : Int) ≥ 0) = false := rfl
      have hfin : ∀ ρ', keep [11] 0 ρ' = List.replicate 11 .any ++ [.sl [] .nil] ++ List.replicate 150 .any → K_h1 ρ' u := by
        intro ρ' hk
        refine h1 _ _ ?_
        refine T.gh (Gh.keep [11]) ?_
        rw [hk]
        refine T.seq_k (fun K_h0 h0 => ?_)
        refine T.regi hm ?_
        simp only [↓reduceIte, namesOf, List.any, I.names, aopsI, astep, ev, setd, List.set, List.getD, List.getElem?_cons_zero, List.getElem?_cons_succ, List.cons_append, List.nil_append, List.replicate, then_normal, Option.getD_some, Bool.or_false, Bool.false_eq_true, up_zero]
        refine h0 _ _ ?_
        try clear h0 K_h0
        exact T.ret (Fin.quietw rfl (.sl _ _) ⟨trivial, trivial⟩ (fun n r h => h) ⟨[], .inl ⟨hno, rfl⟩, rfl, rfl⟩)
      by_cases h0 : 0 < l.length
      · have e1 : decide ((0 : Int) < (l.length : Int)) = true := decide_eq_true (by omega)
        refine T.seq_k (fun K_h0 h0 => ?_)
        refine T.regi hm ?_
        simp only [↓reduceIte, namesOf, List.any, I.names, aopsI, astep, ev, setd, List.set, List.getD, List.getElem?_cons_zero, List.getElem?_cons_succ, List.cons_append, List.nil_append, List.replicate, then_normal, Option.getD_some, Bool.or_false, Bool.false_eq_true, up_zero, Nat.reduceAdd, binv, ↓opt_def, eq_self, reduceCtorEq, mts_len, e0, e1]
        refine h0 _ _ ?_
        try clear h0 K_h0
        refine T.cond rfl (fun h => by cases h) (fun _ => T.exit ?_)
        try simp only [List.cons_append, List.nil_append, List.replicate, then_normal, Nat.reduceAdd, reduceCtorEq, inBlock_exit, then_exit]
        exact hfin _ rfl
      · have e1 : decide ((0 : Int) < (l.length : Int)) = false := decide_eq_false (by omega)
        refine T.seq_k (fun K_h0 h0 => ?_)
        refine T.regi hm ?_
        simp only [↓reduceIte, namesOf, List.any, I.names, aopsI, astep, ev, setd, List.set, List.getD, List.getElem?_cons_zero, List.getElem?_cons_succ, List.cons_append, List.nil_append, List.replicate, then_normal, Option.getD_some, Bool.or_false, Bool.false_eq_true, up_zero, Nat.reduceAdd, binv, ↓opt_def, eq_self, reduceCtorEq, mts_len, e1]
        refine h0 _ _ ?_
        try clear h0 K_h0
        refine T.cond rfl (fun h => by cases h) (fun _ => T.exit ?_)
        try simp only [List.cons_append, List.nil_append, List.replicate, then_normal, Nat.reduceAdd, reduceCtorEq, inBlock_exit, then_exit]
        exact hfin _ rfl
    · have hgz := mts_get hz
      have hml := (List.getElem?_eq_some_iff.1 hz).1
      have hqz := win_wrap hlong (hok z (List.mem_of_getElem? hz))
      have e0 : decide ((m : Int) ≥ 0) = true := decide_eq_true (by omega)
      refine T.loopi (fun i ρ u => ∃ out v G, AccG t u 6 (mtsAV out) (.sl (mtsAV out) v) G ∧ out = (l.take i).filter (fun y => decide (pk long y = pk long z)) ∧ out.length ≤ most ∧
          ρ = [.sl (mtsAV l) g, .int .i64 long, .int .i64 (most : Int), .any, .any, .any, .any, .int .i64 (m : Int), .any, .any, .any, .sl (mtsAV out) v, .int .i64 (i : Int)] ++ List.replicate 149 .any)
        l.length 0 (Nat.zero_le _) ⟨[], .nil, none, .nil (.refl _), rfl, Nat.zero_le _, rfl⟩ ?_
      rintro i ρ u hi ⟨out, v, G, hA, ho, hom, rfl⟩
      have hfin : (l.filter fun y => decide (pk long y = pk long z)).take most = out → ∀ ρ', keep [11] 0 ρ' = List.replicate 11 .any ++ [.sl (mtsAV out) v] ++ List.replicate 150 .any → K_h1 ρ' u := by
        intro he ρ' hk
        refine h1 _ _ ?_
        refine T.gh (Gh.keep [11]) ?_
        rw [hk]
        refine T.seq_k (fun K_h0 h0 => ?_)
        refine T.regi hm ?_
        simp only [↓reduceIte, namesOf, List.any, I.names, aopsI, astep, ev, setd, List.set, List.getD, List.getElem?_cons_zero, List.getElem?_cons_succ, List.cons_append, List.nil_append, List.replicate, then_normal, Option.getD_some, Bool.or_false, Bool.false_eq_true, up_zero]
        refine h0 _ _ ?_
        try clear h0 K_h0
        exact T.ret (Fin.quietw rfl (.sl _ _) ⟨mts_nb _ _, trivial⟩ (hA.quiet wf) ⟨out, .inr ⟨pk long z, hF, he.symm⟩, rfl, rfl⟩)
      refine T.seq_k (fun K_h2 h2 => ?_)
      by_cases hil : i < l.length
      case neg =>
        refine T.seq_k (fun K_h0 h0 => ?_)
        refine T.regi hm ?_
        simp only [↓reduceIte, namesOf, List.any, I.names, aopsI, astep, ev, setd, List.set, List.getD, List.getElem?_cons_zero, List.getElem?_cons_succ, List.cons_append, List.nil_append, List.replicate, then_normal, Option.getD_some, Bool.or_false, Bool.false_eq_true, up_zero, binv, ↓opt_def, lt_len, eq_self, mts_len, hil, decide_false]
        refine h0 _ _ ?_
        try clear h0 K_h0
        refine T.cond rfl (fun h => by cases h) (fun _ => T.exit ?_)
        try simp only [List.cons_append, List.nil_append, List.replicate, then_normal, inBlock_exit, then_exit]
        refine hfin ?_ _ rfl
        rw [ho, List.take_of_length_le (by omega : l.length ≤ i)]
        rw [List.take_of_length_le (by omega : l.length ≤ i)] at ho
        rw [← ho, List.take_of_length_le hom]
      by_cases hfull : out.length < most
      case neg =>
        have e1 : decide ((out.length : Int) < (most : Int)) = false := decide_eq_false (by omega)
        refine T.seq_k (fun K_h0 h0 => ?_)
        refine T.regi hm ?_
        simp only [↓reduceIte, namesOf, List.any, I.names, aopsI, astep, ev, setd, List.set, List.getD, List.getElem?_cons_zero, List.getElem?_cons_succ, List.cons_append, List.nil_append, List.replicate, then_normal, Option.getD_some, Bool.or_false, Bool.false_eq_true, up_zero, binv, ↓opt_def, Int.natCast_nonneg, lt_len, true_and, eq_self, decide_true, mts_len, hil, e1]
        refine h0 _ _ ?_
        try clear h0 K_h0
        refine T.cond rfl (fun h => by cases h) (fun _ => T.exit ?_)
        try simp only [List.cons_append, List.nil_append, List.replicate, then_normal, inBlock_exit, then_exit]
        refine hfin ?_ _ rfl
        have hs : l.filter (fun y => decide (pk long y = pk long z)) = out ++ (l.drop i).filter (fun y => decide (pk long y = pk long z)) := by
          rw [ho, ← List.filter_append, List.take_append_drop]
        rw [hs, show most = out.length by omega, List.take_left]
      have e1 : decide ((out.length : Int) < (most : Int)) = true := decide_eq_true (by omega)
      refine T.seq_k (fun K_h0 h0 => ?_)
      refine T.regi hm ?_
      simp only [↓reduceIte, namesOf, List.any, I.names, aopsI, astep, ev, setd, List.set, List.getD, List.getElem?_cons_zero, List.getElem?_cons_succ, List.cons_append, List.nil_append, List.replicate, then_normal, Option.getD_some, Bool.or_false, Bool.false_eq_true, up_zero, binv, ↓opt_def, Int.natCast_nonneg, lt_len, true_and, eq_self, decide_true, mts_len, hil, e1]
      refine h0 _ _ ?_
      try clear h0 K_h0
      refine T.cond rfl (fun _ => T.skip ?_) (fun h => by cases h)
      refine h2 _ _ ?_
      try clear h2 K_h2
      clear hfin
      have hw := inc64' hil (by omega)
      obtain ⟨y, hy⟩ : ∃ y, l[i]? = some y := ⟨_, List.getElem?_eq_getElem hil⟩
      have hgy := mts_get hy
      have hqy := win_wrap hlong (hok y (List.mem_of_getElem? hy))
      have hts : (l.take (i + 1)).filter (fun y => decide (pk long y = pk long z)) = out ++ if pk long y = pk long z then [y] else [] := by
        rw [List.take_succ_eq_append_getElem hil, List.filter_append, ← ho]
        have : l[i] = y := by rw [List.getElem?_eq_getElem hil] at hy; cases hy; rfl
        rw [this]
        by_cases h9 : pk long y = pk long z
        · rw [if_pos h9, List.filter_cons_of_pos (p := fun y => decide (pk long y = pk long z)) (decide_eq_true h9)]; rfl
        · rw [if_neg h9, List.filter_cons_of_neg (p := fun y => decide (pk long y = pk long z)) (by simp only [decide_eq_true_eq]; exact h9)]; rfl
      refine T.seq_k (fun K_h3 h3 => ?_)
      have hno : pk long y ≠ pk long z → ∀ ρ', keep [0, 1, 2, 7, 11, 12] 0 ρ' = [.sl (mtsAV l) g, .int .i64 long, .int .i64 (most : Int), .any, .any, .any, .any, .int .i64 (m : Int), .any, .any, .any, .sl (mtsAV out) v, .int .i64 (i : Int)] ++ List.replicate 149 .any → K_h3 ρ' u := by
        intro hne ρ' hk
        refine h3 _ _ ?_
        refine T.gh (Gh.keep [0, 1, 2, 7, 11, 12]) ?_
        rw [hk]
        refine T.regi hm ?_
        simp only [↓reduceIte, namesOf, List.any, I.names, aopsI, astep, ev, setd, List.set, List.getD, List.getElem?_cons_zero, List.getElem?_cons_succ, List.cons_append, List.nil_append, List.replicate, then_normal, Option.getD_some, Bool.or_false, Bool.false_eq_true, up_zero, binv, ↓opt_def, eq_self, hw]
        exact ⟨hil, _, _, Gh.keep [0, 1, 2, 7, 11, 12], out, v, G, hA, by rw [hts, if_neg hne, List.append_nil], hom, rfl⟩
      refine T.block ?_
      by_cases c1 : y.level = z.level
      case neg =>
        have f1 : (y.level == z.level) = false := by simp [c1]
        refine T.seq_k (fun K_h0 h0 => ?_)
        refine T.regi hm ?_
        simp only [↓reduceIte, namesOf, List.any, I.names, aopsI, astep, ev, setd, List.set, List.getD, List.getElem?_cons_zero, List.getElem?_cons_succ, List.cons_append, List.nil_append, List.length_cons, List.length_nil, List.replicate, then_normal, Option.getD_some, Bool.or_false, Bool.false_eq_true, up_zero, Nat.reduceAdd, binv, ↓opt_def, AV.cells, ldc, Int.natCast_nonneg, lt_len, Int.toNat_natCast, true_and, and_true, eq_self, mts_len, hil, hml, hgy, hgz, f1, Nat.zero_add, List.drop]
        refine h0 _ _ ?_
        try clear h0 K_h0
        refine T.cond rfl (fun h => by cases h) (fun _ => T.skip ?_)
        exact hno (fun h => c1 (congrArg Prod.fst h)) _ rfl
      have f1 : (y.level == z.level) = true := by simp [c1]
      by_cases c2 : y.en.tdiv long = z.en.tdiv long
      case neg =>
        have f2 : (y.en.tdiv long == z.en.tdiv long) = false := by simp [c2]
        refine T.seq_k (fun K_h0 h0 => ?_)
        refine T.regi hm ?_
        simp only [↓reduceIte, namesOf, List.any, I.names, aopsI, astep, ev, setd, List.set, List.getD, List.getElem?_cons_zero, List.getElem?_cons_succ, List.cons_append, List.nil_append, List.length_cons, List.length_nil, List.replicate, then_normal, Option.getD_some, Bool.or_false, Bool.false_eq_true, up_zero, Nat.reduceAdd, binv, ↓opt_def, AV.cells, ldc, Int.natCast_nonneg, lt_len, Int.toNat_natCast, true_and, and_true, eq_self, mts_len, hil, hml, hgy, hgz, f1, f2, hq0, hqy, hqz, Nat.zero_add, List.drop]
        refine h0 _ _ ?_
        try clear h0 K_h0
        refine T.cond rfl (fun h => by cases h) (fun _ => T.skip ?_)
        exact hno (fun h => c2 (congrArg Prod.snd h)) _ rfl
      have f2 : (y.en.tdiv long == z.en.tdiv long) = true := by simp [c2]
      have hpk : pk long y = pk long z := by unfold pk; rw [c1, c2]
      rw [if_pos hpk] at hts
      refine T.seq_k (fun K_h0 h0 => ?_)
      refine T.regi hm ?_
      simp only [↓reduceIte, namesOf, List.any, I.names, aopsI, astep, ev, setd, List.set, List.getD, List.getElem?_cons_zero, List.getElem?_cons_succ, List.cons_append, List.nil_append, List.length_cons, List.length_nil, List.replicate, then_normal, Option.getD_some, Bool.or_false, Bool.false_eq_true, up_zero, Nat.reduceAdd, binv, ↓opt_def, AV.cells, ldc, Int.natCast_nonneg, lt_len, Int.toNat_natCast, true_and, and_true, eq_self, mts_len, hil, hml, hgy, hgz, f1, f2, hq0, hqy, hqz, Nat.zero_add, List.drop]
      refine h0 _ _ ?_
      try clear h0 K_h0
      refine T.cond rfl (fun _ => ?_) (fun h => by cases h)
      have hll : (out ++ [y]).length = out.length + 1 := by simp
      have hnx := hA.like.next
      have hend : ∀ u' nm, Like t u' → u'.res nm = some (.tip 6) → t.next ≤ nm → nm < u'.next → ∀ ρ', keep [0, 1, 2, 7, 11, 12] 0 ρ' = [.sl (mtsAV l) g, .int .i64 long, .int .i64 (most : Int), .any, .any, .any, .any, .int .i64 (m : Int), .any, .any, .any, .sl (mtsAV (out ++ [y])) (.tip nm), .int .i64 (i : Int)] ++ List.replicate 149 .any → K_h3 ρ' u' := by
        intro u' nm q1 q2 q3 q4 ρ' hk
        refine h3 _ _ ?_
        refine T.gh (Gh.keep [0, 1, 2, 7, 11, 12]) ?_
        rw [hk]
        refine T.regi hm ?_
        simp only [↓reduceIte, namesOf, List.any, I.names, aopsI, astep, ev, setd, List.set, List.getD, List.getElem?_cons_zero, List.getElem?_cons_succ, List.cons_append, List.nil_append, List.replicate, then_normal, Option.getD_some, Bool.or_false, Bool.false_eq_true, up_zero, binv, ↓opt_def, eq_self, hw]
        exact ⟨hil, _, _, Gh.keep [0, 1, 2, 7, 11, 12], out ++ [y], .tip nm, some nm, .of_tip ⟨q1, q2, q3, q4⟩, hts.symm, by omega, rfl⟩
      have happ : mtsAV out ++ [.agg [.int .u64 (y.id : Int), .int .i64 y.level, .int .i64 y.st, .int .i64 y.en, .int .i64 y.pages, .int .i64 y.traces]] = mtsAV (out ++ [y]) := by simp [mtsAV]
      have hb1 : (out.length + 1) * 48 ≤ 70368744177664 ∧ out.length + 1 ≤ 4611686018427387904 := by omega
      obtain ⟨hb2, hb3⟩ := hb1
      cases G with
      | none =>
        obtain ⟨hx, hx2, hLi⟩ := hA
        obtain rfl : out = [] := by cases out with
          | nil => rfl
          | cons a r => simp [mtsAV] at hx2
        obtain rfl : v = .nil := by cases hx; rfl
        have hm0 : mtsAV ([] : List Mt) = [] := rfl
        refine T.regi hm ?_
        simp only [↓reduceIte, namesOf, List.any, I.names, aopsI, astep, ev, setd, List.set, List.getD, List.getElem?_cons_zero, List.getElem?_cons_succ, List.cons_append, List.nil_append, List.length_cons, List.length_nil, List.replicate, then_normal, inBlock_normal, Option.getD_some, Bool.or_false, Bool.or_true, Bool.false_eq_true, Nat.reduceAdd, ↓opt_def, AV.isAny, AV.cells, ldc, List.map_cons, List.map_nil, Int.natCast_nonneg, lt_len, Int.toNat_natCast, true_and, eq_self, decide_true, hm0, hil, mts_len, hgy, held, srcOf, AV.er, AV.er1, AV.fits, AV.one, List.all_cons, List.all_nil, Nat.reduceBEq, Bool.not_false, Bool.and_self, Nat.zero_add, List.take, List.drop, Nat.reduceLeDiff, Nat.one_mul, and_self, List.isEmpty]
        exact hend _ (u.next + 6) (hLi.box (n := 8) (i := 6) _) (St.set_same _ _ _) (by omega) (by simp) _ rfl
      | some g0 =>
        obtain ⟨hx, hTq⟩ := hA
        obtain rfl : v = .tip g0 := by cases hx; rfl
        have hru : ∀ k, (u.up k).res g0 = some (.tip 6) := fun _ => hTq.at_
        have hfit := mts_fits (out ++ [y])
        refine T.regi hm ?_
        simp only [↓reduceIte, namesOf, List.any, I.names, aopsI, astep, ev, setd, List.set, List.getD, List.getElem?_cons_zero, List.getElem?_cons_succ, List.cons_append, List.nil_append, List.length_cons, List.length_nil, List.replicate, then_normal, inBlock_normal, Option.getD_some, Bool.or_false, Bool.or_true, Nat.reduceAdd, ↓opt_def, AV.isAny, AV.cells, ldc, List.map_cons, List.map_nil, Int.natCast_nonneg, lt_len, Int.toNat_natCast, true_and, eq_self, decide_true, hil, mts_len, hgy, held, srcOf, AV.er, AV.er1, hru, happ, hfit, hb2, hb3, AV.fits, AV.one, List.all_cons, List.all_nil, Nat.reduceBEq, Bool.not_false, Bool.and_self, Nat.zero_add, List.take, List.drop, Nat.reduceLeDiff, and_self]
        exact hend _ (u.next + 6) (((hTq.like.up 8).del hTq.lo).set _ (by omega)) (St.set_same _ _ _) (by omega) (by simp) _ rfl
  refine T.seq_k (fun K_h0 h0 => ?_)
  refine T.regi hm ?_
  simp only [↓reduceIte, namesOf, List.any, I.names, aopsI, astep, ev, setd, List.set, List.getD, List.getElem?_cons_zero, List.getElem?_cons_succ, List.cons_append, List.nil_append, List.replicate, then_normal, Option.getD_some, Bool.or_false, Bool.false_eq_true, up_zero, binv, ↓opt_def, lt_len, true_and, eq_self, decide_true, mts_len, hil]
  refine h0 _ _ ?_
  try clear h0 K_h0
  refine T.cond rfl (fun _ => T.skip ?_) (fun h => by cases h)
  refine h2 _ _ ?_
  try clear h2 K_h2
  have hw := inc64' hil (by omega)
  obtain ⟨x, hx⟩ : ∃ x, l[i]? = some x := ⟨_, List.getElem?_eq_getElem hil⟩
  have hgx := mts_get hx
  have hqx := win_wrap hlong (hok x (List.mem_of_getElem? hx))
  refine T.seq_k (fun K_h3 h3 => ?_)
  -- what a round comes to
  have hend : ∀ b', BestAt long l (i + 1) b' → ∀ ρ', keep [0, 1, 2, 7, 8] 0 ρ' = [.sl (mtsAV l) g, .int .i64 long, .int .i64 (most : Int), .any, .any, .any, .any, .int .i64 b', .int .i64 (i : Int)] ++ List.replicate 153 .any → K_h3 ρ' t := by
    intro b' hb' ρ' hk
    refine h3 _ _ ?_
    refine T.gh (Gh.keep [0, 1, 2, 7, 8]) ?_
    rw [hk]
    refine T.regi hm ?_
    simp only [↓reduceIte, namesOf, List.any, I.names, aopsI, astep, ev, setd, List.set, List.getD, List.getElem?_cons_zero, List.getElem?_cons_succ, List.cons_append, List.nil_append, List.replicate, then_normal, Option.getD_some, Bool.or_false, Bool.false_eq_true, up_zero, binv, ↓opt_def, eq_self, hw]
    exact ⟨hil, _, _, Gh.keep [0, 1, 2, 7, 8], rfl, b', hb', rfl⟩
  refine T.block ?_
  refine T.seq_k (fun K_h0 h0 => ?_)
  refine T.regi hm ?_
  simp only [↓reduceIte, namesOf, List.any, I.names, aopsI, astep, ev, setd, List.set, List.cons_append, List.nil_append, List.replicate, then_normal, Bool.or_false, Bool.false_eq_true, up_zero]
  refine h0 _ _ ?_
  try clear h0 K_h0
  refine T.seq_k (fun K_h4 h4 => ?_)
  refine T.seq_k (fun K_h0 h0 => ?_)
  refine T.regi hm ?_
  simp only [↓reduceIte, namesOf, List.any, I.names, aopsI, astep, ev, setd, List.set, List.cons_append, List.nil_append, List.replicate, then_normal, Bool.or_false, Bool.false_eq_true, up_zero]
  refine h0 _ _ ?_
  try clear h0 K_h0
  refine T.block ?_
  refine T.gh (Gh.keep [0, 1, 2, 7, 8, 9, 10]) ?_
  refine T.loopi (fun k ρ u => u = t ∧ ρ = [.sl (mtsAV l) g, .int .i64 long, .int .i64 (most : Int), .any, .any, .any, .any, .int .i64 b, .int .i64 (i : Int), .int .i64 (cntM long (l.take k) (pk long x) : Int), .int .i64 (k : Int)] ++ List.replicate 151 .any)
    l.length 0 (Nat.zero_le _) ⟨rfl, rfl⟩ ?_
  rintro k ρ u hk ⟨rfl, rfl⟩
  have hcl := cnt_le long (l.take k) (pk long x)
  rw [List.length_take] at hcl
  refine T.seq_k (fun K_h5 h5 => ?_)
  by_cases hkl : k < l.length
  case neg =>
    refine T.seq_k (fun K_h0 h0 => ?_)
    refine T.regi hm ?_
    simp only [↓reduceIte, namesOf, List.any, I.names, aopsI, astep, ev, setd, List.set, List.getD, List.getElem?_cons_zero, List.getElem?_cons_succ, List.cons_append, List.nil_append, List.replicate, then_normal, Option.getD_some, Bool.or_false, Bool.false_eq_true, up_zero, binv, ↓opt_def, lt_len, eq_self, mts_len, hkl, decide_false]
    refine h0 _ _ ?_
    try clear h0 K_h0
    refine T.cond rfl (fun h => by cases h) (fun _ => T.exit ?_)
    have hke : k = l.length := by omega
    subst hke
    rw [List.take_length] at hcl ⊢
    try simp only [List.cons_append, List.nil_append, List.replicate, then_normal, inBlock_exit, then_exit]
    refine h4 _ _ ?_
    try clear h4 K_h4
    obtain ⟨n, hn⟩ : ∃ n, cntM long l (pk long x) = n := ⟨_, rfl⟩
    rw [hn] at hcl ⊢
    refine T.seq_k (fun K_h5 h5 => ?_)
    rcases Nat.lt_or_ge n 2 with hn2 | hn2
    · have e1 : decide ((n : Int) < 2) = true := decide_eq_true (by omega)
      refine T.seq_k (fun K_h0 h0 => ?_)
      refine T.regi hm ?_
      simp only [↓reduceIte, namesOf, List.any, I.names, aopsI, astep, ev, setd, List.set, List.getD, List.getElem?_cons_zero, List.getElem?_cons_succ, List.cons_append, List.nil_append, List.replicate, then_normal, Option.getD_some, Bool.or_false, Bool.false_eq_true, up_zero, binv, ↓opt_def, eq_self, reduceCtorEq, e1]
      refine h0 _ _ ?_
      try clear h0 K_h0
      refine T.cond rfl (fun _ => T.exit ?_) (fun h => by cases h)
      try simp only [List.cons_append, List.nil_append, List.replicate, then_normal, inBlock_exit, then_exit]
      exact hend b (hB.skip hx (fun h => by have := h.1; omega)) _ rfl
    have e1 : decide ((n : Int) < 2) = false := decide_eq_false (by omega)
    by_cases hlv : x.level ≥ 10
    · have e2 : decide (x.level ≥ 10) = true := decide_eq_true hlv
      refine T.seq_k (fun K_h0 h0 => ?_)
      refine T.regi hm ?_
      simp only [↓reduceIte, namesOf, List.any, I.names, aopsI, astep, ev, setd, List.set, List.getD, List.getElem?_cons_zero, List.getElem?_cons_succ, List.cons_append, List.nil_append, List.length_cons, List.length_nil, List.replicate, then_normal, Option.getD_some, Bool.or_false, Bool.false_eq_true, up_zero, Nat.reduceAdd, binv, ↓opt_def, AV.cells, ldc, Int.natCast_nonneg, lt_len, Int.toNat_natCast, true_and, and_true, eq_self, e1, e2, mts_len, hil, hgx, Nat.zero_add, List.drop]
      refine h0 _ _ ?_
      try clear h0 K_h0
      refine T.cond rfl (fun _ => T.exit ?_) (fun h => by cases h)
      try simp only [List.cons_append, List.nil_append, List.replicate, then_normal, inBlock_exit, then_exit]
      exact hend b (hB.skip hx (fun h => by have := h.2; simp only at this; omega)) _ rfl
    have e2 : decide (x.level ≥ 10) = false := decide_eq_false hlv
    have he : Elig long l (pk long x) := ⟨by omega, by simp only; omega⟩
    refine T.seq_k (fun K_h0 h0 => ?_)
    refine T.regi hm ?_
    simp only [↓reduceIte, namesOf, List.any, I.names, aopsI, astep, ev, setd, List.set, List.getD, List.getElem?_cons_zero, List.getElem?_cons_succ, List.cons_append, List.nil_append, List.length_cons, List.length_nil, List.replicate, then_normal, Option.getD_some, Bool.or_false, Bool.false_eq_true, up_zero, Nat.reduceAdd, binv, ↓opt_def, AV.cells, ldc, Int.natCast_nonneg, lt_len, Int.toNat_natCast, true_and, and_true, eq_self, e1, e2, mts_len, hil, hgx, Nat.zero_add, List.drop]
    refine h0 _ _ ?_
    try clear h0 K_h0
    refine T.cond rfl (fun h => by cases h) (fun _ => T.skip ?_)
    refine h5 _ _ ?_
    try clear h5 K_h5
    refine T.seq_k (fun K_h6 h6 => ?_)
    have hB0 := hB
    rcases hB0 with ⟨rfl, _⟩ | ⟨m, z, rfl, hz, _, _⟩
    · have e3 : decide ((-1 : Int) < 0) = true := rfl
      refine T.seq_k (fun K_h0 h0 => ?_)
      refine T.regi hm ?_
      simp only [↓reduceIte, namesOf, List.any, I.names, aopsI, astep, ev, setd, List.set, List.getD, List.getElem?_cons_zero, List.getElem?_cons_succ, List.cons_append, List.nil_append, List.replicate, then_normal, Option.getD_some, Bool.or_false, Bool.false_eq_true, up_zero, binv, ↓opt_def, eq_self, e3]
      refine h0 _ _ ?_
      try clear h0 K_h0
      refine T.cond rfl (fun _ => ?_) (fun h => by cases h)
      refine T.regi hm ?_
      simp only [↓reduceIte, namesOf, List.any, I.names, aopsI, astep, ev, setd, List.set, List.getD, List.getElem?_cons_zero, List.getElem?_cons_succ, List.cons_append, List.nil_append, List.replicate, then_normal, Option.getD_some, Bool.or_false, Bool.false_eq_true, up_zero]
      refine h6 _ _ ?_
      try clear h6 K_h6
      have f1 : decide (x.level < x.level) = false := decide_eq_false (by omega)
      have f2 : (x.level == x.level) = true := by simp
      have f3 : decide (x.en.tdiv long < x.en.tdiv long) = false := decide_eq_false (by omega)
      refine T.seq_k (fun K_h0 h0 => ?_)
      refine T.regi hm ?_
      simp only [↓reduceIte, namesOf, List.any, I.names, aopsI, astep, ev, setd, List.set, List.getD, List.getElem?_cons_zero, List.getElem?_cons_succ, List.cons_append, List.nil_append, List.length_cons, List.length_nil, List.replicate, then_normal, Option.getD_some, Bool.or_false, Bool.false_eq_true, up_zero, Nat.reduceAdd, binv, ↓opt_def, AV.cells, ldc, Int.natCast_nonneg, lt_len, Int.toNat_natCast, true_and, and_true, eq_self, mts_len, hil, hgx, f1, f2, f3, hq0, hqx, Nat.zero_add, List.drop]
      refine h0 _ _ ?_
      try clear h0 K_h0
      refine T.cond rfl (fun h => by cases h) (fun _ => T.skip ?_)
      exact hend i (hB.take hx he (.inl rfl)) _ rfl
    have e3 : decide ((m : Int) < 0) = false := decide_eq_false (by omega)
    have hgz := mts_get hz
    have hml := (List.getElem?_eq_some_iff.1 hz).1
    have hqz := win_wrap hlong (hok z (List.mem_of_getElem? hz))
    refine T.seq_k (fun K_h0 h0 => ?_)
    refine T.regi hm ?_
    simp only [↓reduceIte, namesOf, List.any, I.names, aopsI, astep, ev, setd, List.set, List.getD, List.getElem?_cons_zero, List.getElem?_cons_succ, List.cons_append, List.nil_append, List.replicate, then_normal, Option.getD_some, Bool.or_false, Bool.false_eq_true, up_zero, binv, ↓opt_def, eq_self, e3]
    refine h0 _ _ ?_
    try clear h0 K_h0
    refine T.cond rfl (fun h => by cases h) (fun _ => T.skip ?_)
    refine h6 _ _ ?_
    try clear h6 K_h6
    by_cases c1 : x.level < z.level
    · have f1 : decide (x.level < z.level) = true := decide_eq_true c1
      refine T.seq_k (fun K_h0 h0 => ?_)
      refine T.regi hm ?_
      simp only [↓reduceIte, namesOf, List.any, I.names, aopsI, astep, ev, setd, List.set, List.getD, List.getElem?_cons_zero, List.getElem?_cons_succ, List.cons_append, List.nil_append, List.length_cons, List.length_nil, List.replicate, then_normal, Option.getD_some, Bool.or_false, Bool.false_eq_true, up_zero, Nat.reduceAdd, binv, ↓opt_def, AV.cells, ldc, Int.natCast_nonneg, lt_len, Int.toNat_natCast, true_and, and_true, eq_self, reduceCtorEq, mts_len, hil, hml, hgx, hgz, f1, Nat.zero_add, List.drop]
      refine h0 _ _ ?_
      try clear h0 K_h0
      refine T.cond rfl (fun _ => ?_) (fun h => by cases h)
      refine T.regi hm ?_
      simp only [↓reduceIte, namesOf, List.any, I.names, aopsI, astep, ev, setd, List.set, List.getD, List.getElem?_cons_zero, List.getElem?_cons_succ, List.cons_append, List.nil_append, List.replicate, then_normal, inBlock_normal, Option.getD_some, Bool.or_false, Bool.false_eq_true, up_zero]
      exact hend i (hB.take hx he (.inr ⟨m, z, rfl, hz, .inl c1⟩)) _ rfl
    have f1 : decide (x.level < z.level) = false := decide_eq_false c1
    by_cases c2 : x.level = z.level
    · have f2 : (x.level == z.level) = true := by simp [c2]
      by_cases c3 : x.en.tdiv long < z.en.tdiv long
      · have f3 : decide (x.en.tdiv long < z.en.tdiv long) = true := decide_eq_true c3
        refine T.seq_k (fun K_h0 h0 => ?_)
        refine T.regi hm ?_
        simp only [↓reduceIte, namesOf, List.any, I.names, aopsI, astep, ev, setd, List.set, List.getD, List.getElem?_cons_zero, List.getElem?_cons_succ, List.cons_append, List.nil_append, List.length_cons, List.length_nil, List.replicate, then_normal, Option.getD_some, Bool.or_false, Bool.false_eq_true, up_zero, Nat.reduceAdd, binv, ↓opt_def, AV.cells, ldc, Int.natCast_nonneg, lt_len, Int.toNat_natCast, true_and, and_true, eq_self, mts_len, hil, hml, hgx, hgz, f1, f2, f3, hq0, hqx, hqz, Nat.zero_add, List.drop]
        refine h0 _ _ ?_
        try clear h0 K_h0
        refine T.cond rfl (fun _ => ?_) (fun h => by cases h)
        refine T.regi hm ?_
        simp only [↓reduceIte, namesOf, List.any, I.names, aopsI, astep, ev, setd, List.set, List.getD, List.getElem?_cons_zero, List.getElem?_cons_succ, List.cons_append, List.nil_append, List.replicate, then_normal, inBlock_normal, Option.getD_some, Bool.or_false, Bool.false_eq_true, up_zero]
        exact hend i (hB.take hx he (.inr ⟨m, z, rfl, hz, .inr ⟨c2, c3⟩⟩)) _ rfl
      · have f3 : decide (x.en.tdiv long < z.en.tdiv long) = false := decide_eq_false c3
        refine T.seq_k (fun K_h0 h0 => ?_)
        refine T.regi hm ?_
        simp only [↓reduceIte, namesOf, List.any, I.names, aopsI, astep, ev, setd, List.set, List.getD, List.getElem?_cons_zero, List.getElem?_cons_succ, List.cons_append, List.nil_append, List.length_cons, List.length_nil, List.replicate, then_normal, Option.getD_some, Bool.or_false, Bool.false_eq_true, up_zero, Nat.reduceAdd, binv, ↓opt_def, AV.cells, ldc, Int.natCast_nonneg, lt_len, Int.toNat_natCast, true_and, and_true, eq_self, mts_len, hil, hml, hgx, hgz, f1, f2, f3, hq0, hqx, hqz, Nat.zero_add, List.drop]
        refine h0 _ _ ?_
        try clear h0 K_h0
        refine T.cond rfl (fun h => by cases h) (fun _ => T.skip ?_)
        exact hend m (hB.keep hx hz (fun h => by simp only [pkLt] at h; omega)) _ rfl
    · have f2 : (x.level == z.level) = false := by simp [c2]
      refine T.seq_k (fun K_h0 h0 => ?_)
      refine T.regi hm ?_
      simp only [↓reduceIte, namesOf, List.any, I.names, aopsI, astep, ev, setd, List.set, List.getD, List.getElem?_cons_zero, List.getElem?_cons_succ, List.cons_append, List.nil_append, List.length_cons, List.length_nil, List.replicate, then_normal, Option.getD_some, Bool.or_false, Bool.false_eq_true, up_zero, Nat.reduceAdd, binv, ↓opt_def, AV.cells, ldc, Int.natCast_nonneg, lt_len, Int.toNat_natCast, true_and, and_true, eq_self, mts_len, hil, hml, hgx, hgz, f1, f2, Nat.zero_add, List.drop]
      refine h0 _ _ ?_
      try clear h0 K_h0
      refine T.cond rfl (fun h => by cases h) (fun _ => T.skip ?_)
      exact hend m (hB.keep hx hz (fun h => by simp only [pkLt] at h; omega)) _ rfl
  refine T.seq_k (fun K_h0 h0 => ?_)
  refine T.regi hm ?_
  simp only [↓reduceIte, namesOf, List.any, I.names, aopsI, astep, ev, setd, List.set, List.getD, List.getElem?_cons_zero, List.getElem?_cons_succ, List.cons_append, List.nil_append, List.replicate, then_normal, Option.getD_some, Bool.or_false, Bool.false_eq_true, up_zero, binv, ↓opt_def, lt_len, true_and, eq_self, decide_true, mts_len, hkl]
  refine h0 _ _ ?_
  try clear h0 K_h0
  refine T.cond rfl (fun _ => T.skip ?_) (fun h => by cases h)
  refine h5 _ _ ?_
  try clear h5 K_h5
  have hw2 := inc64' hkl (by omega)
  obtain ⟨y, hy⟩ : ∃ y, l[k]? = some y := ⟨_, List.getElem?_eq_getElem hkl⟩
  have hgy := mts_get hy
  have hqy := win_wrap hlong (hok y (List.mem_of_getElem? hy))
  have hcs := cnt_step (long := long) (k := pk long x) hy
  refine T.seq_k (fun K_h6 h6 => ?_)
  refine T.block ?_
  have hw3 : IntKind.i64.wrap ((cntM long (l.take k) (pk long x) : Int) + 1) = ((cntM long (l.take k) (pk long x) + 1 : Nat) : Int) := by rw [wrap64 (by omega) (by omega)]; omega
  by_cases e1 : y.level = x.level
  · have f1 : (y.level == x.level) = true := by simp [e1]
    by_cases e2 : y.en.tdiv long = x.en.tdiv long
    · have f2 : (y.en.tdiv long == x.en.tdiv long) = true := by simp [e2]
      rw [if_pos (by unfold pk; rw [e1, e2])] at hcs
      refine T.seq_k (fun K_h0 h0 => ?_)
      refine T.regi hm ?_
      simp only [↓reduceIte, namesOf, List.any, I.names, aopsI, astep, ev, setd, List.set, List.getD, List.getElem?_cons_zero, List.getElem?_cons_succ, List.cons_append, List.nil_append, List.length_cons, List.length_nil, List.replicate, then_normal, Option.getD_some, Bool.or_false, Bool.false_eq_true, up_zero, Nat.reduceAdd, binv, ↓opt_def, AV.cells, ldc, Int.natCast_nonneg, lt_len, Int.toNat_natCast, true_and, and_true, eq_self, mts_len, hkl, hil, hgx, hgy, f1, f2, hq0, hqx, hqy, Nat.zero_add, List.drop]
      refine h0 _ _ ?_
      try clear h0 K_h0
      refine T.cond rfl (fun _ => ?_) (fun h => by cases h)
      refine T.regi hm ?_
      simp only [↓reduceIte, namesOf, List.any, I.names, aopsI, astep, ev, setd, List.set, List.getD, List.getElem?_cons_zero, List.getElem?_cons_succ, List.cons_append, List.nil_append, List.replicate, then_normal, inBlock_normal, Option.getD_some, Bool.or_false, Bool.false_eq_true, up_zero, binv, ↓opt_def, eq_self, hw3]
      refine h6 _ _ ?_
      try clear h6 K_h6
      refine T.regi hm ?_
      simp only [↓reduceIte, namesOf, List.any, I.names, aopsI, astep, ev, setd, List.set, List.getD, List.getElem?_cons_zero, List.getElem?_cons_succ, List.cons_append, List.nil_append, List.replicate, then_normal, Option.getD_some, Bool.or_false, Bool.false_eq_true, up_zero, binv, ↓opt_def, eq_self, hw2]
      exact ⟨hkl, _, _, Gh.keep [0, 1, 2, 7, 8, 9, 10], rfl, by rw [hcs]; rfl⟩
    · have f2 : (y.en.tdiv long == x.en.tdiv long) = false := by simp [e2]
      rw [if_neg (fun h => e2 (congrArg Prod.snd h))] at hcs
      refine T.seq_k (fun K_h0 h0 => ?_)
      refine T.regi hm ?_
      simp only [↓reduceIte, namesOf, List.any, I.names, aopsI, astep, ev, setd, List.set, List.getD, List.getElem?_cons_zero, List.getElem?_cons_succ, List.cons_append, List.nil_append, List.length_cons, List.length_nil, List.replicate, then_normal, Option.getD_some, Bool.or_false, Bool.false_eq_true, up_zero, Nat.reduceAdd, binv, ↓opt_def, AV.cells, ldc, Int.natCast_nonneg, lt_len, Int.toNat_natCast, true_and, and_true, eq_self, mts_len, hkl, hil, hgx, hgy, f1, f2, hq0, hqx, hqy, Nat.zero_add, List.drop]
      refine h0 _ _ ?_
      try clear h0 K_h0
      refine T.cond rfl (fun h => by cases h) (fun _ => T.skip ?_)
      refine h6 _ _ ?_
      try clear h6 K_h6
      refine T.regi hm ?_
      simp only [↓reduceIte, namesOf, List.any, I.names, aopsI, astep, ev, setd, List.set, List.getD, List.getElem?_cons_zero, List.getElem?_cons_succ, List.cons_append, List.nil_append, List.replicate, then_normal, Option.getD_some, Bool.or_false, Bool.false_eq_true, up_zero, binv, ↓opt_def, eq_self, hw2]
      exact ⟨hkl, _, _, Gh.keep [0, 1, 2, 7, 8, 9, 10], rfl, by rw [hcs]; rfl⟩
  · have f1 : (y.level == x.level) = false := by simp [e1]
    rw [if_neg (fun h => e1 (congrArg Prod.fst h))] at hcs
    refine T.seq_k (fun K_h0 h0 => ?_)
    refine T.regi hm ?_
    simp only [↓reduceIte, namesOf, List.any, I.names, aopsI, astep, ev, setd, List.set, List.getD, List.getElem?_cons_zero, List.getElem?_cons_succ, List.cons_append, List.nil_append, List.length_cons, List.length_nil, List.replicate, then_normal, Option.getD_some, Bool.or_false, Bool.false_eq_true, up_zero, Nat.reduceAdd, binv, ↓opt_def, AV.cells, ldc, Int.natCast_nonneg, lt_len, Int.toNat_natCast, true_and, and_true, eq_self, mts_len, hkl, hil, hgx, hgy, f1, Nat.zero_add, List.drop]
    refine h0 _ _ ?_
    try clear h0 K_h0
    refine T.cond rfl (fun h => by cases h) (fun _ => T.skip ?_)
    refine h6 _ _ ?_
    try clear h6 K_h6
    refine T.regi hm ?_
    simp only [↓reduceIte, namesOf, List.any, I.names, aopsI, astep, ev, setd, List.set, List.getD, List.getElem?_cons_zero, List.getElem?_cons_succ, List.cons_append, List.nil_append, List.replicate, then_normal, Option.getD_some, Bool.or_false, Bool.false_eq_true, up_zero, binv, ↓opt_def, eq_self, hw2]
    exact ⟨hkl, _, _, Gh.keep [0, 1, 2, 7, 8, 9, 10], rfl, by rw [hcs]; rfl⟩

end Go.VL

namespace Go.VL

open Go.Proofs Go.RowKit Go.Lib Go.Sort Go.Shelf

theorem apppl_ok {σ : St} {bx m : Nat} {es : List (AV × AV)} {ts : List Nat} {clk : Nat} {l : List (Int × Int)} (hbx : σ.res bx = some (.obj [.map m])) (hm : σ.res m = some (.map es ts clk)) (hl : es.map (·.1) = plsAV l) (h1 : l.length ≤ 1000000) :
    ACalls Try.prog n_apppl [.sl [] .nil, .func n_keyspl [] [.ptr bx 0]] σ (fun v σ' => ∃ l' : List (Int × Int), l'.Perm l ∧ ((l' = [] ∧ v = .sl [] .nil ∧ σ' = σ) ∨ (v = .ref σ.next 0 l'.length ∧ σ' = (σ.up 1).set σ.next (.obj (l'.flatMap cellsP))))) :=
  app2_ok elemP mapsP (by decide) appP_fn appP_body appP_nt appP_res appP_name ka_fn ka_body ka_nt ka_res ka_name hbx hm hl (by simp only [maxLen]; omega) (by omega)

theorem sortpl_enters : Enters Try.prog n_sortpl := ⟨_, sortP_fn, sortP_body, sortP_name⟩

end Go.VL

namespace Go.VL

open Go.Proofs Go.RowKit Go.Lib Go.Sort Go.Shelf

theorem nan0_ok {a : Int} {σ : St} : ACalls Try.prog n_nan0 [.int .i64 a] σ (fun v σ' => v = .bool false ∧ σ' = σ) := by
  refine s_nan0 (fun wf => ?_)
  unfold c_nan0
  refine T.seq_k (fun K_h1 h1 => ?_)
  refine T.regi hm ?_
  simp only [↓reduceIte, namesOf, List.any, I.names, aopsI, astep, ev, setd, List.set, List.cons_append, List.nil_append, List.length_cons, List.length_nil, List.replicate, then_normal, Bool.or_false, Bool.false_eq_true, up_zero, Nat.reduceAdd, Nat.reduceSub]
  refine h1 _ _ ?_
  try clear h1 K_h1
  refine T.seq_k (fun K_h1 h1 => ?_)
  refine T.regi hm ?_
  simp only [↓reduceIte, namesOf, List.any, I.names, aopsI, astep, ev, setd, List.set, List.getD, List.getElem?_cons_zero, List.getElem?_cons_succ, then_normal, Option.getD_some, Bool.or_false, Bool.false_eq_true, up_zero, binv, ↓opt_def, eq_self, bne_self_eq_false]
  refine h1 _ _ ?_
  try clear h1 K_h1
  exact T.ret (Fin.ret rfl ⟨rfl, rfl⟩)

theorem cmpn_ok {a b : Int} {σ : St} : ACalls Try.prog n_cmpn [.int .i64 a, .int .i64 b] σ (fun v σ' => v = .int .i64 (cmp3 a b) ∧ σ' = σ) := by
  refine s_cmpn (fun wf => ?_)
  unfold c_cmpn
  refine T.seq_k (fun K_h1 h1 => ?_)
  refine T.regi hm ?_
  simp only [↓reduceIte, namesOf, List.any, I.names, aopsI, astep, ev, setd, List.set, List.cons_append, List.nil_append, List.length_cons, List.length_nil, List.replicate, then_normal, Bool.or_false, Bool.false_eq_true, up_zero, Nat.reduceAdd, Nat.reduceSub]
  refine h1 _ _ ?_
  try clear h1 K_h1
  refine T.seq_k (fun K_h1 h1 => ?_)
  refine T.regi hm ?_
  simp only [↓reduceIte, namesOf, List.any, I.names, aopsI, astep, ev, setd, List.set, List.getD, List.getElem?_cons_zero, List.getElem?_cons_succ, then_normal, Option.getD_some, Bool.or_false, Bool.false_eq_true, up_zero, List.map_cons, List.map_nil]
  refine nan0_ok.mono ?_
  rintro v σ1 ⟨rfl, rfl⟩
  try simp only [↓reduceIte, namesOf, List.any, I.names, aops, aopsI, aopsT, qstep, CPt, qget, Tbl.get, astep, ev, setd, List.set, List.getD, List.getElem?_cons_zero, List.getElem?_cons_succ, List.getElem?_nil, List.cons_append, List.nil_append, List.length_cons, List.length_nil, List.replicate, then_normal, inBlock_normal, Option.getD_some, Option.getD_none, Bool.or_false, Bool.or_true, Bool.true_or, Bool.false_or, Bool.false_eq_true, if_false, if_true, up_zero, Nat.reduceAdd, Nat.reduceSub, binv, ↓opt_def, AV.isAny, AV.cells, ldc, List.map_cons, List.map_nil, St.set_next, St.set_same, St.up_next, Int.natCast_nonneg, lt_len, le_len, Int.toNat_natCast, true_and, and_true, eq_self, reduceCtorEq, decide_true, List.length_singleton, er_int, er_bool, er_str, srcR, up_zero]
  refine h1 _ _ ?_
  try clear h1 K_h1
  refine T.seq_k (fun K_h1 h1 => ?_)
  refine T.regi hm ?_
  simp only [↓reduceIte, namesOf, List.any, I.names, aopsI, astep, ev, setd, List.set, List.getD, List.getElem?_cons_zero, List.getElem?_cons_succ, then_normal, Option.getD_some, Bool.or_false, Bool.false_eq_true, up_zero, List.map_cons, List.map_nil]
  refine nan0_ok.mono ?_
  rintro v σ1 ⟨rfl, rfl⟩
  try simp only [↓reduceIte, namesOf, List.any, I.names, aops, aopsI, aopsT, qstep, CPt, qget, Tbl.get, astep, ev, setd, List.set, List.getD, List.getElem?_cons_zero, List.getElem?_cons_succ, List.getElem?_nil, List.cons_append, List.nil_append, List.length_cons, List.length_nil, List.replicate, then_normal, inBlock_normal, Option.getD_some, Option.getD_none, Bool.or_false, Bool.or_true, Bool.true_or, Bool.false_or, Bool.false_eq_true, if_false, if_true, up_zero, Nat.reduceAdd, Nat.reduceSub, binv, ↓opt_def, AV.isAny, AV.cells, ldc, List.map_cons, List.map_nil, St.set_next, St.set_same, St.up_next, Int.natCast_nonneg, lt_len, le_len, Int.toNat_natCast, true_and, and_true, eq_self, reduceCtorEq, decide_true, List.length_singleton, er_int, er_bool, er_str, srcR, up_zero]
  refine h1 _ _ ?_
  try clear h1 K_h1
  refine T.seq_k (fun K_h1 h1 => ?_)
  refine T.seq_k (fun K_h2 h2 => ?_)
  refine T.regi hm ?_
  simp only [↓reduceIte, namesOf, List.any, I.names, aopsI, astep, ev, setd, List.set, List.getD, List.getElem?_cons_zero, List.getElem?_cons_succ, then_normal, Option.getD_some, Bool.or_false, Bool.false_eq_true, up_zero]
  refine h2 _ _ ?_
  try clear h2 K_h2
  refine T.cond rfl (fun hb => by cases hb) (fun _ => T.skip ?_)
  refine h1 _ _ ?_
  try clear h1 K_h1
  refine T.seq_k (fun K_h1 h1 => ?_)
  refine T.seq_k (fun K_h2 h2 => ?_)
  refine T.regi hm ?_
  simp only [↓reduceIte, namesOf, List.any, I.names, aopsI, astep, ev, setd, List.set, List.getD, List.getElem?_cons_zero, List.getElem?_cons_succ, then_normal, Option.getD_some, Bool.or_false, Bool.false_eq_true, up_zero]
  refine h2 _ _ ?_
  try clear h2 K_h2
  refine T.cond rfl (fun hb => by cases hb) (fun _ => T.skip ?_)
  refine h1 _ _ ?_
  try clear h1 K_h1
  refine T.seq_k (fun K_h1 h1 => ?_)
  refine T.seq_k (fun K_h2 h2 => ?_)
  refine T.regi hm ?_
  simp only [↓reduceIte, namesOf, List.any, I.names, aopsI, astep, ev, setd, List.set, List.getD, List.getElem?_cons_zero, List.getElem?_cons_succ, then_normal, Option.getD_some, Bool.or_false, Bool.false_eq_true, up_zero, binv, ↓opt_def, eq_self]
  refine h2 _ _ ?_
  try clear h2 K_h2
  refine T.cond rfl (fun hb => ?_) (fun hb => ?_)
  · refine T.seq_k (fun K_h2 h2 => ?_)
    refine T.regi hm ?_
    simp only [↓reduceIte, namesOf, List.any, I.names, aopsI, astep, ev, setd, List.set, then_normal, Bool.or_false, Bool.false_eq_true, up_zero]
    refine h2 _ _ ?_
    try clear h2 K_h2
    have : a < b := by simpa using hb
    exact T.ret (Fin.ret rfl ⟨by simp [pack, cmp3, this], rfl⟩)
  · refine T.skip ?_
    refine h1 _ _ ?_
    try clear h1 K_h1
    have hn : ¬ a < b := by simpa using hb
    refine T.seq_k (fun K_h1 h1 => ?_)
    refine T.seq_k (fun K_h2 h2 => ?_)
    refine T.regi hm ?_
    simp only [↓reduceIte, namesOf, List.any, I.names, aopsI, astep, ev, setd, List.set, List.getD, List.getElem?_cons_zero, List.getElem?_cons_succ, then_normal, Option.getD_some, Bool.or_false, Bool.false_eq_true, up_zero, binv, ↓opt_def, eq_self]
    refine h2 _ _ ?_
    try clear h2 K_h2
    refine T.cond rfl (fun hb => ?_) (fun hb => ?_)
    · refine T.seq_k (fun K_h2 h2 => ?_)
      refine T.regi hm ?_
      simp only [↓reduceIte, namesOf, List.any, I.names, aopsI, astep, ev, setd, List.set, then_normal, Bool.or_false, Bool.false_eq_true, up_zero]
      refine h2 _ _ ?_
      try clear h2 K_h2
      have : b < a := by simpa using hb
      exact T.ret (Fin.ret rfl ⟨by simp [pack, cmp3, this, hn], rfl⟩)
    · refine T.skip ?_
      refine h1 _ _ ?_
      try clear h1 K_h1
      have hn2 : ¬ b < a := by simpa using hb
      refine T.seq_k (fun K_h1 h1 => ?_)
      refine T.regi hm ?_
      simp only [↓reduceIte, namesOf, List.any, I.names, aopsI, astep, ev, setd, List.set, then_normal, Bool.or_false, Bool.false_eq_true, up_zero]
      refine h1 _ _ ?_
      try clear h1 K_h1
      exact T.ret (Fin.ret rfl ⟨by simp [pack, cmp3, hn, hn2], rfl⟩)

def g_cmpn : List AV → Option AV
  | [.int .i64 a, .int .i64 b] => some (.int .i64 (cmp3 a b))
  | _ => none

theorem cmpn_pure : PureC Try.prog n_cmpn g_cmpn := by
  intro args σ v h
  unfold g_cmpn at h
  split at h
  · simp only [Option.some.injEq] at h; subst h; exact cmpn_ok
  · cases h

def g_or2 : List AV → Option AV
  | [.sl [.int .i64 a, .int .i64 b] _] => some (.int .i64 (orI [a, b]))
  | _ => none

theorem or2_pure : PureC Try.prog n_cor g_or2 := by
  intro args σ v h
  unfold g_or2 at h
  split at h
  · rename_i a b g
    simp only [Option.some.injEq] at h; subst h
    exact cor_ok (l := [a, b]) (by simp)
  · cases h

def tPl : Tbl := [(n_cmpi, g_cmpi), (n_cmpn, g_cmpn), (n_cor, g_or2)]

theorem tPl_ok : tPl.ok Try.prog := Tbl.ok_cons cmpi_pure (Tbl.ok_cons cmpn_pure (Tbl.ok_cons or2_pure Tbl.ok_nil))

theorem cfP_or (a b a' b' : Int) : orI [cmp3 a a', cmp3 b b'] = cfP ⟨a, b⟩ ⟨a', b'⟩ := by
  unfold cfP cmp3
  simp only
  by_cases h1 : a < a'
  · simp [h1, orI]
  · by_cases h2 : a' < a
    · simp [h1, h2, orI]
    · by_cases h3 : b < b'
      · simp [h1, h2, h3, orI]
      · by_cases h4 : b' < b <;> simp [h1, h2, h3, h4, orI]

theorem ahead19_ok {a b a' b' : Int} {σ : St} : ACalls Try.prog n_ahead19 [.agg [.int .i64 a, .int .i64 b], .agg [.int .i64 a', .int .i64 b']] σ
    (fun v σ' => v = .int .i64 (cfP ⟨a, b⟩ ⟨a', b'⟩) ∧ σ' = σ) := by
  refine s_ahead19 (fun wf => ?_)
  unfold c_ahead19
  refine T.seq_k (fun K_h1 h1 => ?_)
  refine T.regi hm ?_
  simp only [↓reduceIte, namesOf, List.any, I.names, aopsI, astep, ev, setd, List.set, List.getD, List.getElem?_cons_zero, List.getElem?_cons_succ, List.cons_append, List.nil_append, List.length_cons, List.length_nil, List.replicate, then_normal, Option.getD_some, Bool.or_false, Bool.or_true, Bool.false_eq_true, Nat.reduceAdd, Nat.reduceSub, AV.isAny, AV.cells, eq_self]
  have h0 : (((σ.up 3).set (σ.next + 0) (.obj [.int .i64 a, .int .i64 b])).set (σ.next + 1) (.obj [.int .i64 a', .int .i64 b'])).res (σ.next + 0) = some (.obj [.int .i64 a, .int .i64 b]) := by
    rw [St.set_other _ _ (by omega)]; simp
  have h0' : (((σ.up 3).set (σ.next + 0) (.obj [.int .i64 a, .int .i64 b])).set (σ.next + 1) (.obj [.int .i64 a', .int .i64 b'])).res (σ.next + 1) = some (.obj [.int .i64 a', .int .i64 b']) := by simp
  have hq := set2_quiet wf (k := 3) (.obj [.int .i64 a, .int .i64 b]) (.obj [.int .i64 a', .int .i64 b']) (a := σ.next + 0) (b := σ.next + 1) (by omega) (by omega)
  generalize (((σ.up 3).set (σ.next + 0) (.obj [.int .i64 a, .int .i64 b])).set (σ.next + 1) (.obj [.int .i64 a', .int .i64 b'])) = σ1 at h0 h0' hq ⊢
  refine h1 _ _ ?_
  try clear h1 K_h1
  refine T.seq_k (fun K_h1 h1 => ?_)
  refine T.regt hm tPl_ok ?_
  simp only [↓reduceIte, namesOf, List.any, I.names, aopsT, qstep, qget, Tbl.get, astep, ev, setd, List.set, List.getD, List.getElem?_cons_zero, List.getElem?_cons_succ, List.length_cons, List.length_nil, then_normal, Option.getD_some, Bool.or_false, Bool.false_eq_true, up_zero, ↓opt_def, AV.isAny, AV.cells, ldc, List.map_cons, List.map_nil, eq_self, er_int, tPl, h0, h0', g_cmpi, Nat.zero_add, List.all_cons, List.all_nil, AV.fits, AV.one, Bool.not_false, Bool.and_self, beq_self_eq_true, held]
  refine h1 _ _ ?_
  try clear h1 K_h1
  exact T.ret (Fin.quiet rfl trivial hq ⟨by rw [← cfP_or]; rfl, rfl⟩)

theorem sortpl_ok {σ : St} {nm : Nat} {l : List (Int × Int)} (hnm : σ.res nm = some (.obj (l.flatMap cellsP))) (hlen : l.length ≤ 1000000) :
    ACalls Try.prog n_sortpl [.ref nm 0 l.length, .func n_ahead19 [] []] σ (fun v σ' => v = .tup [] ∧ ∃ l' : List (Int × Int), l'.Perm l ∧ l'.Pairwise (fun a b => ¬ (b.1 < a.1 ∨ b.1 = a.1 ∧ b.2 < a.2)) ∧ σ' = σ.set nm (.obj (l'.flatMap cellsP))) :=
  sort2_ok (P := Try.prog) (ρ := renP) laysP sortP_agg sortP_size (ahead19_ok (a := 0) (b := 0) (a' := 0) (b' := 0) (σ := σn)).1 sortpl_enters (fun a b a' b' => ahead19_ok) hnm (by omega)

theorem sortpl_nil {σ : St} : ACalls Try.prog n_sortpl [.sl [] .nil, .func n_ahead19 [] []] σ (fun v σ' => v = .tup [] ∧ σ' = σ) :=
  sort2_nil (P := Try.prog) (ρ := renP) laysP sortpl_enters

end Go.VL

namespace Go.VL

open Go.Proofs

theorem keysPl_ok {m : Nat} {σ : St} : ACalls Try.prog n_keysPl [.map m] σ (fun v σ' => ∃ bx, σ.next ≤ bx ∧ bx < σ'.next ∧ v = .func n_keyspl [] [.ptr bx 0] ∧ σ'.res bx = some (.obj [.map m]) ∧ Like σ σ') := by
  refine s_keysPl (fun wf => ?_)
  unfold c_keysPl
  refine T.seq_k (fun K_h1 h1 => ?_)
  refine T.regi hm ?_
  simp only [↓reduceIte, namesOf, List.any, I.names, aopsI, astep, ev, setd, List.set, List.getD, List.getElem?_cons_zero, List.cons_append, List.nil_append, List.length_cons, List.length_nil, List.replicate, then_normal, Option.getD_some, Bool.or_false, Bool.false_eq_true, Nat.reduceAdd, Nat.reduceSub, AV.isAny, AV.cells, eq_self]
  refine h1 _ _ ?_
  try clear h1 K_h1
  refine T.seq_k (fun K_h1 h1 => ?_)
  refine T.regi hm ?_
  simp only [↓reduceIte, namesOf, List.any, I.names, aopsI, astep, ev, setd, List.set, List.getD, List.getElem?_cons_zero, List.getElem?_cons_succ, then_normal, Option.getD_some, Bool.or_false, Bool.false_eq_true, up_zero, List.map_cons, List.map_nil]
  refine h1 _ _ ?_
  try clear h1 K_h1
  exact T.ret (Fin.ret rfl ⟨σ.next + 0, by omega, by simp, rfl, by simp, ⟨by simp, fun n hn => by rw [St.set_other _ _ (by omega)]; rfl⟩⟩)

/-- a new row of these spans, in some order -/
def NewPl (σ : St) (l' : List (Int × Int)) (v : AV) (σ' : St) : Prop := (l' = [] ∧ v = .sl [] .nil ∧ σ' = σ) ∨ (v = .ref σ.next 0 l'.length ∧ σ' = (σ.up 1).set σ.next (.obj (l'.flatMap cellsP)))

theorem collPl_ok {σ : St} {bx m : Nat} {es : List (AV × AV)} {ts : List Nat} {clk : Nat} {l : List (Int × Int)} (hbx : σ.res bx = some (.obj [.map m])) (hmp : σ.res m = some (.map es ts clk)) (hl : es.map (·.1) = plsAV l) (hll : l.length ≤ 1000000) :
    ACalls Try.prog n_collPl [.func n_keyspl [] [.ptr bx 0]] σ (fun v σ' => ∃ l' : List (Int × Int), l'.Perm l ∧ NewPl σ l' v σ') := by
  refine s_collPl (fun wf => ?_)
  unfold c_collPl
  refine T.seq_k (fun K_h1 h1 => ?_)
  refine T.regi hm ?_
  simp only [↓reduceIte, namesOf, List.any, I.names, aopsI, astep, ev, setd, List.set, List.cons_append, List.nil_append, List.length_cons, List.length_nil, List.replicate, then_normal, Bool.or_false, Bool.false_eq_true, up_zero, Nat.reduceAdd, Nat.reduceSub]
  refine h1 _ _ ?_
  try clear h1 K_h1
  refine T.seq_k (fun K_h1 h1 => ?_)
  refine T.regi hm ?_
  simp only [↓reduceIte, namesOf, List.any, I.names, aopsI, astep, ev, setd, List.set, List.getD, List.getElem?_cons_zero, List.getElem?_cons_succ, then_normal, Option.getD_some, Bool.or_false, Bool.false_eq_true, up_zero, List.map_cons, List.map_nil]
  refine (apppl_ok hbx hmp hl hll).mono ?_
  rintro v σ1 ⟨l', hp, hn⟩
  try simp only [↓reduceIte, namesOf, List.any, I.names, aops, aopsI, aopsT, qstep, CPt, qget, Tbl.get, astep, ev, setd, List.set, List.getD, List.getElem?_cons_zero, List.getElem?_cons_succ, List.getElem?_nil, List.cons_append, List.nil_append, List.length_cons, List.length_nil, List.replicate, then_normal, inBlock_normal, Option.getD_some, Option.getD_none, Bool.or_false, Bool.or_true, Bool.true_or, Bool.false_or, Bool.false_eq_true, if_false, if_true, up_zero, Nat.reduceAdd, Nat.reduceSub, binv, ↓opt_def, AV.isAny, AV.cells, ldc, List.map_cons, List.map_nil, St.set_next, St.set_same, St.up_next, Int.natCast_nonneg, lt_len, le_len, Int.toNat_natCast, true_and, and_true, eq_self, reduceCtorEq, decide_true, List.length_singleton, er_int, er_bool, er_str, srcR, up_zero]
  refine h1 _ _ ?_
  try clear h1 K_h1
  exact T.ret (Fin.ret rfl ⟨l', hp, hn⟩)

theorem sfPl_ok {σ : St} {bx m : Nat} {es : List (AV × AV)} {ts : List Nat} {clk : Nat} {l : List (Int × Int)} (hbx : σ.res bx = some (.obj [.map m])) (hmp : σ.res m = some (.map es ts clk)) (hl : es.map (·.1) = plsAV l) (hll : l.length ≤ 1000000) :
    ACalls Try.prog n_sfPl [.func n_keyspl [] [.ptr bx 0], .func n_ahead19 [] []] σ (fun v σ' => ∃ l' : List (Int × Int), l'.Perm l ∧ l'.Pairwise (fun a b => ¬ (b.1 < a.1 ∨ b.1 = a.1 ∧ b.2 < a.2)) ∧ NewPl σ l' v σ') := by
  refine s_sfPl (fun wf => ?_)
  unfold c_sfPl
  refine T.seq_k (fun K_h1 h1 => ?_)
  refine T.regi hm ?_
  simp only [↓reduceIte, namesOf, List.any, I.names, aopsI, astep, ev, setd, List.set, List.cons_append, List.nil_append, List.length_cons, List.length_nil, List.replicate, then_normal, Bool.or_false, Bool.false_eq_true, up_zero, Nat.reduceAdd, Nat.reduceSub]
  refine h1 _ _ ?_
  try clear h1 K_h1
  refine T.seq_k (fun K_h1 h1 => ?_)
  refine T.regi hm ?_
  simp only [↓reduceIte, namesOf, List.any, I.names, aopsI, astep, ev, setd, List.set, List.getD, List.getElem?_cons_zero, List.getElem?_cons_succ, then_normal, Option.getD_some, Bool.or_false, Bool.false_eq_true, up_zero, List.map_cons, List.map_nil]
  refine (collPl_ok hbx hmp hl hll).mono ?_
  rintro v σ1 ⟨l', hp, hn⟩
  try simp only [↓reduceIte, namesOf, List.any, I.names, aops, aopsI, aopsT, qstep, CPt, qget, Tbl.get, astep, ev, setd, List.set, List.getD, List.getElem?_cons_zero, List.getElem?_cons_succ, List.getElem?_nil, List.cons_append, List.nil_append, List.length_cons, List.length_nil, List.replicate, then_normal, inBlock_normal, Option.getD_some, Option.getD_none, Bool.or_false, Bool.or_true, Bool.true_or, Bool.false_or, Bool.false_eq_true, if_false, if_true, up_zero, Nat.reduceAdd, Nat.reduceSub, binv, ↓opt_def, AV.isAny, AV.cells, ldc, List.map_cons, List.map_nil, St.set_next, St.set_same, St.up_next, Int.natCast_nonneg, lt_len, le_len, Int.toNat_natCast, true_and, and_true, eq_self, reduceCtorEq, decide_true, List.length_singleton, er_int, er_bool, er_str, srcR, up_zero]
  refine h1 _ _ ?_
  try clear h1 K_h1
  refine T.seq_k (fun K_h1 h1 => ?_)
  rcases hn with ⟨hl0, rfl, rfl⟩ | ⟨rfl, rfl⟩
  · refine T.regi hm ?_
    simp only [↓reduceIte, namesOf, List.any, I.names, aopsI, astep, ev, setd, List.set, List.getD, List.getElem?_cons_zero, List.getElem?_cons_succ, then_normal, Option.getD_some, Bool.or_false, Bool.false_eq_true, up_zero, List.map_cons, List.map_nil]
    refine sortpl_nil.mono ?_
    rintro v σ2 ⟨rfl, rfl⟩
    try simp only [↓reduceIte, namesOf, List.any, I.names, aops, aopsI, aopsT, qstep, CPt, qget, Tbl.get, astep, ev, setd, List.set, List.getD, List.getElem?_cons_zero, List.getElem?_cons_succ, List.getElem?_nil, List.cons_append, List.nil_append, List.length_cons, List.length_nil, List.replicate, then_normal, inBlock_normal, Option.getD_some, Option.getD_none, Bool.or_false, Bool.or_true, Bool.true_or, Bool.false_or, Bool.false_eq_true, if_false, if_true, up_zero, Nat.reduceAdd, Nat.reduceSub, binv, ↓opt_def, AV.isAny, AV.cells, ldc, List.map_cons, List.map_nil, St.set_next, St.set_same, St.up_next, Int.natCast_nonneg, lt_len, le_len, Int.toNat_natCast, true_and, and_true, eq_self, reduceCtorEq, decide_true, List.length_singleton, er_int, er_bool, er_str, srcR, up_zero]
    refine h1 _ _ ?_
    try clear h1 K_h1
    refine T.seq_k (fun K_h1 h1 => ?_)
    refine T.regi hm ?_
    simp only [↓reduceIte, namesOf, List.any, I.names, aopsI, astep, ev, setd, List.set, List.getD, List.getElem?_cons_zero, List.getElem?_cons_succ, then_normal, Option.getD_some, Bool.or_false, Bool.false_eq_true, up_zero]
    refine h1 _ _ ?_
    try clear h1 K_h1
    exact T.ret (Fin.ret rfl ⟨l', hp, by rw [hl0]; exact .nil, .inl ⟨hl0, rfl, rfl⟩⟩)
  · refine T.regi hm ?_
    simp only [↓reduceIte, namesOf, List.any, I.names, aopsI, astep, ev, setd, List.set, List.getD, List.getElem?_cons_zero, List.getElem?_cons_succ, then_normal, Option.getD_some, Bool.or_false, Bool.false_eq_true, up_zero, List.map_cons, List.map_nil]
    refine (sortpl_ok (l := l') (by simp) (by rw [hp.length_eq]; exact hll)).mono ?_
    rintro v σ2 ⟨rfl, l2, hp2, hs, rfl⟩
    try simp only [St.set_set]
    refine h1 _ _ ?_
    try clear h1 K_h1
    refine T.seq_k (fun K_h1 h1 => ?_)
    refine T.regi hm ?_
    simp only [↓reduceIte, namesOf, List.any, I.names, aopsI, astep, ev, setd, List.set, List.getD, List.getElem?_cons_zero, List.getElem?_cons_succ, then_normal, Option.getD_some, Bool.or_false, Bool.false_eq_true, up_zero]
    refine h1 _ _ ?_
    try clear h1 K_h1
    refine T.ret (Fin.ret rfl ⟨l2, hp2.trans hp, hs, .inr ⟨?_, rfl⟩⟩)
    rw [hp2.length_eq]; rfl

end Go.VL

namespace Go.VL

open Go.Proofs

/-- a place, its metas, and the end that they are appended at -/
structure Gp where
  key : Int × Int
  ms : List Mt
  tip : Nat

abbrev kP (k : Int × Int) : AV := .agg [.int .i64 k.1, .int .i64 k.2]

def mpAV (A : List Gp) : List (AV × AV) := A.map fun e => (kP e.key, .sl (mtsAV e.ms) (.tip e.tip))

theorem mp_len (A : List Gp) : (mpAV A).length = A.length := by simp [mpAV]

theorem mp_keys (A : List Gp) : (mpAV A).map (·.1) = plsAV (A.map Gp.key) := by
  unfold mpAV plsAV
  rw [List.map_map, List.map_map]; rfl

theorem keq_kP (a b : Int × Int) : keq (kP a) (kP b) = some (decide (a = b)) := by
  simp only [kP, keq, eqAv, if_true, Option.map_some, Bool.and_true, Option.some.injEq]
  rw [Bool.eq_iff_iff]
  simp [Prod.ext_iff]

theorem mp_none {A : List Gp} {k : Int × Int} (h : ∀ e ∈ A, e.key ≠ k) : mfind (kP k) (mpAV A) = some none ∧ ∀ v, mput (kP k) v (mpAV A) = mpAV A ++ [(kP k, v)] := by
  induction A with
  | nil => exact ⟨rfl, fun v => rfl⟩
  | cons e A ih =>
    have he : decide (k = e.key) = false := decide_eq_false fun x => h e (by simp) x.symm
    obtain ⟨h1, h2⟩ := ih fun x hx => h x (List.mem_cons_of_mem _ hx)
    simp only [mpAV, List.map_cons, mfind, mput, keq_kP, he] at h1 h2 ⊢
    exact ⟨h1, fun v => by rw [h2 v]; rfl⟩

theorem mp_some {A : List Gp} {k : Int × Int} {j : Nat} {e : Gp} (hj : A[j]? = some e) (hk : e.key = k) (hnd : (A.map Gp.key).Nodup) :
    mfind (kP k) (mpAV A) = some (some (.sl (mtsAV e.ms) (.tip e.tip))) ∧ midx (kP k) (mpAV A) = j ∧ mput (kP k) (.sl (mtsAV e.ms) (.tip e.tip)) (mpAV A) = mpAV A := by
  induction A generalizing j with
  | nil => simp at hj
  | cons x A ih =>
    rw [List.map_cons, List.nodup_cons] at hnd
    cases j with
    | zero =>
      simp at hj; subst hj; subst hk
      simp [mpAV, mfind, midx, mput, keq_kP]
    | succ j =>
      have hj' : A[j]? = some e := by simpa using hj
      have hx : decide (k = x.key) = false := decide_eq_false fun y => hnd.1 (by
        rw [← y, ← hk]; exact List.mem_map_of_mem (List.mem_of_getElem? hj'))
      obtain ⟨h1, h2, h3⟩ := ih hj' hnd.2
      simp only [mpAV, List.map_cons, mfind, midx, mput, keq_kP, hx] at h1 h2 h3 ⊢
      exact ⟨h1, by rw [h2], by rw [h3]⟩

theorem find_range {n j : Nat} (h : j < n) : (List.range n).findIdx? (fun (t : Nat) => (t : Int) == (j : Int)) = some j := by
  rw [List.findIdx?_eq_some_iff_getElem]
  refine ⟨by simpa using h, by simp, fun i hi => ?_⟩
  simp only [List.getElem_range, beq_iff_eq]
  omega

/-- what the map holds of metas -/
structure MapOf (long : Int) (l : List Mt) (A : List Gp) : Prop where
  nd : (A.map Gp.key).Nodup
  is : ∀ e ∈ A, e.key.1 < 10 ∧ e.ms ≠ [] ∧ e.ms = l.filter fun m => decide (pk long m = e.key)
  has : ∀ m ∈ l, m.level < 10 → ∃ e ∈ A, e.key = pk long m
  le : A.length ≤ l.length

theorem MapOf.nil (long : Int) : MapOf long [] [] := ⟨by simp, fun e h => absurd h (by simp), fun m h => absurd h (by simp), Nat.le_refl _⟩

theorem MapOf.skip {long : Int} {l : List Mt} {A : List Gp} {m : Mt} (h : MapOf long l A) (hm : ¬ m.level < 10) : MapOf long (l ++ [m]) A := by
  refine ⟨h.nd, fun e he => ?_, fun x hx hl => ?_, by have := h.le; rw [List.length_append]; omega⟩
  · obtain ⟨h1, h2, h3⟩ := h.is e he
    have hne : ¬ pk long m = e.key := fun hk => hm (by rw [← hk] at h1; exact h1)
    exact ⟨h1, h2, by rw [List.filter_append, List.filter_cons_of_neg (p := fun m => decide (pk long m = e.key)) (by simpa using hne)]; simpa using h3⟩
  · rcases List.mem_append.1 hx with hx | hx
    · exact h.has x hx hl
    · rw [List.mem_singleton] at hx; subst hx; exact absurd hl hm

theorem MapOf.fresh {long : Int} {l : List Mt} {A : List Gp} {m : Mt} {nm : Nat} (h : MapOf long l A) (hm : m.level < 10) (hn : ∀ e ∈ A, e.key ≠ pk long m) : MapOf long (l ++ [m]) (A ++ [⟨pk long m, [m], nm⟩]) := by
  refine ⟨?_, fun e he => ?_, fun x hx hl => ?_, by have := h.le; simpa using this⟩
  · rw [List.map_append, List.nodup_append]
    refine ⟨h.nd, by simp, fun a ha b hb => ?_⟩
    simp only [List.map_cons, List.map_nil, List.mem_singleton] at hb
    subst hb
    obtain ⟨e, he, rfl⟩ := List.mem_map.1 ha
    exact hn e he
  · rcases List.mem_append.1 he with he | he
    · obtain ⟨h1, h2, h3⟩ := h.is e he
      have hne : ¬ pk long m = e.key := fun hk => hn e he hk.symm
      exact ⟨h1, h2, by rw [List.filter_append, List.filter_cons_of_neg (p := fun m => decide (pk long m = e.key)) (by simpa using hne)]; simpa using h3⟩
    · rw [List.mem_singleton] at he; subst he
      refine ⟨hm, by simp, ?_⟩
      have h0 : (l.filter fun x => decide (pk long x = pk long m)) = [] := by
        rw [List.filter_eq_nil_iff]
        intro x hx hk
        have hk' : pk long x = pk long m := of_decide_eq_true hk
        have hxl : x.level < 10 := by have := congrArg Prod.fst hk'; simp only [pk] at this; omega
        obtain ⟨e, he, hek⟩ := h.has x hx hxl
        exact hn e he (hek.trans hk')
      rw [List.filter_append, h0]
      simp
  · rcases List.mem_append.1 hx with hx | hx
    · obtain ⟨e, he, hk⟩ := h.has x hx hl
      exact ⟨e, List.mem_append_left _ he, hk⟩
    · rw [List.mem_singleton] at hx; subst hx
      exact ⟨_, List.mem_append_right _ (List.mem_singleton.2 rfl), rfl⟩

theorem set_keys {A : List Gp} {j : Nat} {e e' : Gp} (hj : A[j]? = some e) (hk : e'.key = e.key) : (A.set j e').map Gp.key = A.map Gp.key := by
  obtain ⟨hjl, rfl⟩ := List.getElem?_eq_some_iff.1 hj
  rw [List.map_set, hk]
  refine List.ext_getElem (by simp) (fun i h1 h2 => ?_)
  rw [List.getElem_set]
  split
  · rename_i h; subst h; simp
  · rfl

theorem MapOf.more {long : Int} {l : List Mt} {A : List Gp} {m : Mt} {nm j : Nat} {e : Gp} (h : MapOf long l A) (hj : A[j]? = some e) (hk : e.key = pk long m) : MapOf long (l ++ [m]) (A.set j ⟨e.key, e.ms ++ [m], nm⟩) := by
  obtain ⟨e1, e2, e3⟩ := h.is e (List.mem_of_getElem? hj)
  have hkeys : (A.set j ⟨e.key, e.ms ++ [m], nm⟩).map Gp.key = A.map Gp.key := set_keys hj rfl
  refine ⟨by rw [hkeys]; exact h.nd, fun x hx => ?_, fun x hx hl => ?_, by have := h.le; rw [List.length_set, List.length_append]; omega⟩
  · obtain ⟨i, hi⟩ := List.getElem?_of_mem hx
    have hjl := (List.getElem?_eq_some_iff.1 hj).1
    rw [List.getElem?_set] at hi
    by_cases hij : j = i
    · rw [if_pos hij, if_pos hjl] at hi
      cases hi
      refine ⟨e1, by simp, ?_⟩
      rw [List.filter_append, List.filter_cons_of_pos (p := fun x => decide (pk long x = e.key)) (by simp [hk]), ← e3]
      rfl
    · rw [if_neg hij] at hi
      obtain ⟨h1, h2, h3⟩ := h.is x (List.mem_of_getElem? hi)
      have hxk : ¬ pk long m = x.key := fun hxk => by
        have hil := (List.getElem?_eq_some_iff.1 hi).1
        have g1 : (A.map Gp.key)[i]? = some x.key := by rw [List.getElem?_map, hi]; rfl
        have g2 : (A.map Gp.key)[j]? = some x.key := by rw [List.getElem?_map, hj, ← hxk, ← hk]; rfl
        have := (List.getElem?_inj (by simpa using hjl) h.nd).1 (g2.trans g1.symm)
        exact hij this
      exact ⟨h1, h2, by rw [List.filter_append, List.filter_cons_of_neg (p := fun m => decide (pk long m = x.key)) (by simpa using hxk)]; simpa using h3⟩
  · have hmem : pk long x ∈ (A.set j ⟨e.key, e.ms ++ [m], nm⟩).map Gp.key := by
      rw [hkeys]
      rcases List.mem_append.1 hx with hx | hx
      · obtain ⟨y, hy, hyk⟩ := h.has x hx hl
        rw [← hyk]; exact List.mem_map_of_mem hy
      · rw [List.mem_singleton] at hx; subst hx
        rw [← hk]; exact List.mem_map_of_mem (List.mem_of_getElem? hj)
    obtain ⟨y, hy, hyk⟩ := List.mem_map.1 hmem
    exact ⟨y, hy, hyk⟩

theorem MapOf.cnt {long : Int} {l : List Mt} {A : List Gp} (h : MapOf long l A) {e : Gp} (he : e ∈ A) : cntM long l e.key = e.ms.length := by
  obtain ⟨_, _, h3⟩ := h.is e he
  unfold cntM
  rw [List.countP_eq_length_filter]
  conv => rhs; rw [h3]

theorem MapOf.elig {long : Int} {l : List Mt} {A : List Gp} (h : MapOf long l A) {k : Int × Int} (hk : Elig long l k) : ∃ e ∈ A, e.key = k ∧ 2 ≤ e.ms.length := by
  obtain ⟨j, m, hj, rfl⟩ := elig_mem hk
  obtain ⟨e, he, hek⟩ := h.has m (List.mem_of_getElem? hj) hk.2
  refine ⟨e, he, hek, ?_⟩
  have := h.cnt he
  rw [hek] at this
  have := hk.1
  omega

/-- of keys that rise, the first one with two metas or more is the first place -/
theorem MapOf.first {long : Int} {l : List Mt} {A : List Gp} (h : MapOf long l A) {ks : List (Int × Int)} (hp : ks.Perm (A.map Gp.key)) (hs : ks.Pairwise (fun a b => ¬ (b.1 < a.1 ∨ b.1 = a.1 ∧ b.2 < a.2))) {i : Nat} {e : Gp}
    (hi : ks[i]? = some e.key) (he : e ∈ A) (h2 : 2 ≤ e.ms.length) (hpre : ∀ (j : Nat) (x : Gp), j < i → ks[j]? = some x.key → x ∈ A → x.ms.length < 2) : First long l e.key := by
  refine ⟨⟨by rw [h.cnt he]; exact h2, (h.is e he).1⟩, fun k hk hlt => ?_⟩
  obtain ⟨x, hx, rfl, hx2⟩ := h.elig hk
  have hm : x.key ∈ ks := hp.mem_iff.2 (List.mem_map_of_mem hx)
  obtain ⟨j, hj⟩ := List.getElem?_of_mem hm
  rcases Nat.lt_or_ge j i with h1 | h1
  · have := hpre j x h1 hj hx; omega
  · obtain ⟨hjl, hjv⟩ := List.getElem?_eq_some_iff.1 hj
    obtain ⟨hil, hiv⟩ := List.getElem?_eq_some_iff.1 hi
    rcases Nat.lt_or_eq_of_le h1 with h3 | h3
    · have := List.pairwise_iff_getElem.1 hs i j hil hjl h3
      rw [hiv, hjv] at this
      exact this hlt
    · subst h3
      have : x.key = e.key := by rw [← hjv, ← hiv]
      rw [this] at hlt
      unfold pkLt at hlt; omega

theorem MapOf.none {long : Int} {l : List Mt} {A : List Gp} (h : MapOf long l A) (ha : ∀ e ∈ A, e.ms.length < 2) : ∀ k, ¬ Elig long l k := fun k hk => by
  obtain ⟨e, he, _, h2⟩ := h.elig hk
  have := ha e he
  omega

end Go.VL

namespace Go.VL

open Go.Proofs

/-- is a call to be refused? -/
def plBad (l : List Mt) (long at_ : Int) : Bool := decide (long < 1 ∨ long > 1099511627776 ∨ at_ < 2 ∨ at_ > 8 ∨ ¬ RisM l)

/-- the map's state -/
structure MapS (σ t : St) (m : Nat) (A : List Gp) : Prop where
  map : t.res m = some (.map (mpAV A) (List.range A.length) A.length)
  like : Like σ t
  lo : σ.next ≤ m
  hi : m < t.next
  tip : ∀ (j : Nat) (e : Gp), A[j]? = some e → t.res e.tip = some (.tip 6) ∧ σ.next ≤ e.tip ∧ e.tip < t.next ∧ e.tip ≠ m
  apart : ∀ (i j : Nat) (a b : Gp), A[i]? = some a → A[j]? = some b → a.tip = b.tip → i = j

theorem rowP_get : ∀ {l : List (Int × Int)} {i : Nat} {k : Int × Int}, l[i]? = some k → ldc (l.flatMap cellsP) (i * 2) (some 2) = some (.agg [.int .i64 k.1, .int .i64 k.2])
  | [], i, k, h => by simp at h
  | s :: l, 0, k, h => by
    simp only [List.getElem?_cons_zero, Option.some.injEq] at h
    subst h
    simp [ldc]
  | s :: l, i + 1, k, h => by
    have := rowP_get (l := l) (i := i) (k := k) (by simpa using h)
    simp only [ldc] at this ⊢
    have e : (i + 1) * 2 = (cellsP s).length + i * 2 := by simp; omega
    rw [List.flatMap_cons, e, List.drop_length_add_append, List.length_append]
    by_cases hh : i * 2 + 2 ≤ (l.flatMap cellsP).length
    · rw [if_pos hh] at this
      rw [if_pos (by omega)]; exact this
    · rw [if_neg hh] at this; cases this

theorem MapS.fresh {σ S : St} {m : Nat} {A : List Gp} (h : MapS σ S m A) (k : Int × Int) (x : Mt) (r : Res) :
    MapS σ ((((S.up 9).set m r).set (S.next + 6) (.tip 6)).set m (.map (mpAV (A ++ [⟨k, [x], S.next + 6⟩])) (List.range A.length ++ [A.length]) (A.length + 1))) m (A ++ [⟨k, [x], S.next + 6⟩]) := by
  have hlo := h.lo
  have hhi := h.hi
  have hln := h.like.next
  have hcase : ∀ {j : Nat} {e : Gp}, (A ++ [⟨k, [x], S.next + 6⟩])[j]? = some e → A[j]? = some e ∨ j = A.length ∧ e.tip = S.next + 6 := by
    intro j e hj
    rcases Nat.lt_or_ge j A.length with h1 | h1
    · rw [List.getElem?_append_left h1] at hj; exact .inl hj
    · rw [List.getElem?_append_right h1] at hj
      have h2 := (List.getElem?_eq_some_iff.1 hj).1
      simp at h2
      have h3 : j - A.length = 0 := by omega
      rw [h3] at hj
      simp at hj
      exact .inr ⟨by omega, by rw [← hj]⟩
  refine ⟨by rw [St.set_same]; simp [List.range_succ], (((h.like.up 9).set _ hlo).set _ (by omega)).set _ hlo, hlo, by simp; omega, fun j e hj => ?_, fun i j a b hi hj hab => ?_⟩
  · rcases hcase hj with h1 | ⟨rfl, h2⟩
    · obtain ⟨g1, g2, g3, g4⟩ := h.tip j e h1
      refine ⟨?_, g2, by simp; omega, g4⟩
      rw [St.set_other _ _ g4, St.set_other _ _ (by omega), St.set_other _ _ g4]; exact g1
    · rw [h2]
      refine ⟨?_, by omega, by simp, by omega⟩
      rw [St.set_other _ _ (by omega), St.set_same]
  · rcases hcase hi with h1 | ⟨rfl, h2⟩ <;> rcases hcase hj with h3 | ⟨rfl, h4⟩
    · exact h.apart i j a b h1 h3 hab
    · have := (h.tip i a h1).2.2.1; omega
    · have := (h.tip j b h3).2.2.1; omega
    · rfl

theorem MapS.more {σ S : St} {m : Nat} {A : List Gp} (h : MapS σ S m A) {j : Nat} {e : Gp} (hj : A[j]? = some e) (ms : List Mt) :
    MapS σ ((((S.up 9).del e.tip).set (S.next + 6) (.tip 6)).set m (.map (mpAV (A.set j ⟨e.key, ms, S.next + 6⟩)) (List.range A.length) A.length)) m (A.set j ⟨e.key, ms, S.next + 6⟩) := by
  have hlo := h.lo
  have hhi := h.hi
  have hln := h.like.next
  obtain ⟨q1, q2, q3, q4⟩ := h.tip j e hj
  have hjl := (List.getElem?_eq_some_iff.1 hj).1
  have hcase : ∀ {i : Nat} {a : Gp}, (A.set j ⟨e.key, ms, S.next + 6⟩)[i]? = some a → (i ≠ j ∧ A[i]? = some a) ∨ i = j ∧ a.tip = S.next + 6 := by
    intro i a hi
    rw [List.getElem?_set] at hi
    by_cases hij : j = i
    · rw [if_pos hij, if_pos hjl] at hi
      cases hi
      exact .inr ⟨hij.symm, rfl⟩
    · rw [if_neg hij] at hi
      exact .inl ⟨fun x => hij x.symm, hi⟩
  refine ⟨by rw [St.set_same, List.length_set], ((((h.like.up 9).del q2).set _ (by omega)).set _ hlo), hlo, by simp; omega, fun i a hi => ?_, fun i i' a b hi hj' hab => ?_⟩
  · rcases hcase hi with ⟨hne, h1⟩ | ⟨rfl, h2⟩
    · obtain ⟨g1, g2, g3, g4⟩ := h.tip i a h1
      refine ⟨?_, g2, by simp; omega, g4⟩
      have hd : a.tip ≠ e.tip := fun x => hne (h.apart i j a e h1 hj x)
      rw [St.set_other _ _ g4, St.set_other _ _ (by omega)]
      simp [St.del, hd]; exact g1
    · rw [h2]
      refine ⟨?_, by omega, by simp, by omega⟩
      rw [St.set_other _ _ (by omega), St.set_same]
  · rcases hcase hi with ⟨_, h1⟩ | ⟨rfl, h2⟩ <;> rcases hcase hj' with ⟨_, h3⟩ | ⟨rfl, h4⟩
    · exact h.apart i i' a b h1 h3 hab
    · have := (h.tip i a h1).2.2.1; omega
    · have := (h.tip i' b h3).2.2.1; omega
    · rfl

theorem modify_snoc {α : Type} (f : α → α) (a : α) : ∀ l : List α, (l ++ [a]).modify l.length f = l ++ [f a]
  | [] => rfl
  | x :: l => by simp [modify_snoc f a l]

theorem modify_mp {A : List Gp} {j : Nat} {e e' : Gp} (hj : A[j]? = some e) : (mpAV A).modify j (fun p => (p.1, AV.sl (mtsAV e'.ms) (.tip e'.tip))) = mpAV (A.set j ⟨e.key, e'.ms, e'.tip⟩) := by
  induction A generalizing j with
  | nil => simp at hj
  | cons x A ih =>
    cases j with
    | zero => simp at hj; subst hj; simp [mpAV]
    | succ j =>
      have := ih (j := j) (by simpa using hj)
      simp only [mpAV, List.map_cons, List.set_cons_succ, List.modify_succ_cons] at this ⊢
      rw [this]

theorem rowP_td {l : List (Int × Int)} {i : Nat} {k : Int × Int} (h : l[i]? = some k) : i * 2 + 2 ≤ (l.flatMap cellsP).length ∧ ((l.flatMap cellsP).drop (i * 2)).take 2 = [.int .i64 k.1, .int .i64 k.2] := by
  have := rowP_get h
  simp only [ldc] at this
  split at this
  · rename_i h1
    simp only [Option.some.injEq, AV.agg.injEq] at this
    exact ⟨h1, this⟩
  · cases this

set_option maxRecDepth 10000 in
set_option maxHeartbeats 2000000 in
theorem plgroup_ok {l : List Mt} {long at_ : Int} {g : Ver} {σ : St} (hl : l.length ≤ 1000000) (hok : ∀ m ∈ l, MtOk m) :
    ACalls Try.prog n_plgroup [.sl (mtsAV l) g, .int .i64 long, .int .i64 at_] σ (fun v σ' => σ' = σ ∧ ((plBad l long at_ = true ∧ v = .tup [.sl [] .nil, .iface tCode (.int .i64 1)]) ∨
      (plBad l long at_ = false ∧ ∃ out, Grp long at_.toNat l out ∧ v = .tup [.sl (mtsAV out) .none, .nili]))) := by
  refine s_plgroup (fun wf => ?_)
  unfold c_plgroup
  refine T.seq_k (fun K_h0 h0 => ?_)
  refine T.regi hm ?_
  simp only [↓reduceIte, namesOf, List.any, I.names, aopsI, astep, ev, setd, List.set, List.cons_append, List.nil_append, List.length_cons, List.length_nil, List.replicate, then_normal, Bool.or_false, Bool.false_eq_true, up_zero, Nat.reduceAdd, Nat.reduceSub]
  refine h0 _ _ ?_
  try clear h0 K_h0
  refine T.seq_k (fun K_h1 h1 => ?_)
  by_cases c1 : long < 1
  · have e1 : decide (long < 1) = true := decide_eq_true c1
    refine T.seq_k (fun K_h0 h0 => ?_)
    refine T.regi hm ?_
    simp only [↓reduceIte, namesOf, List.any, I.names, aopsI, astep, ev, setd, List.set, List.getD, List.getElem?_cons_zero, List.getElem?_cons_succ, then_normal, Option.getD_some, Bool.or_false, Bool.false_eq_true, up_zero, binv, ↓opt_def, eq_self, reduceCtorEq, e1]
    refine h0 _ _ ?_
    try clear h0 K_h0
    refine T.cond rfl (fun _ => ?_) (fun h => by cases h)
    refine T.seq_k (fun K_h0 h0 => ?_)
    refine T.regi hm ?_
    simp only [↓reduceIte, namesOf, List.any, I.names, aopsI, astep, ev, setd, List.set, List.getD, List.getElem?_cons_zero, List.getElem?_cons_succ, then_normal, Option.getD_some, Bool.or_false, Bool.false_eq_true, up_zero]
    refine h0 _ _ ?_
    try clear h0 K_h0
    exact T.ret (Fin.ret rfl ⟨rfl, .inl ⟨decide_eq_true (.inl c1), rfl⟩⟩)
  have e1 : decide (long < 1) = false := decide_eq_false c1
  by_cases c2 : long > 1099511627776
  · have e2 : decide (long > 1099511627776) = true := decide_eq_true c2
    refine T.seq_k (fun K_h0 h0 => ?_)
    refine T.regi hm ?_
    simp only [↓reduceIte, namesOf, List.any, I.names, aopsI, astep, ev, setd, List.set, List.getD, List.getElem?_cons_zero, List.getElem?_cons_succ, then_normal, Option.getD_some, Bool.or_false, Bool.false_eq_true, up_zero, binv, ↓opt_def, eq_self, reduceCtorEq, e1, e2]
    refine h0 _ _ ?_
    try clear h0 K_h0
    refine T.cond rfl (fun _ => ?_) (fun h => by cases h)
    refine T.seq_k (fun K_h0 h0 => ?_)
    refine T.regi hm ?_
    simp only [↓reduceIte, namesOf, List.any, I.names, aopsI, astep, ev, setd, List.set, List.getD, List.getElem?_cons_zero, List.getElem?_cons_succ, then_normal, Option.getD_some, Bool.or_false, Bool.false_eq_true, up_zero]
    refine h0 _ _ ?_
    try clear h0 K_h0
    exact T.ret (Fin.ret rfl ⟨rfl, .inl ⟨decide_eq_true (.inr (.inl c2)), rfl⟩⟩)
  have e2 : decide (long > 1099511627776) = false := decide_eq_false c2
  by_cases c3 : at_ < 2
  · have e3 : decide (at_ < 2) = true := decide_eq_true c3
    refine T.seq_k (fun K_h0 h0 => ?_)
    refine T.regi hm ?_
    simp only [↓reduceIte, namesOf, List.any, I.names, aopsI, astep, ev, setd, List.set, List.getD, List.getElem?_cons_zero, List.getElem?_cons_succ, then_normal, Option.getD_some, Bool.or_false, Bool.false_eq_true, up_zero, binv, ↓opt_def, eq_self, reduceCtorEq, e1, e2, e3]
    refine h0 _ _ ?_
    try clear h0 K_h0
    refine T.cond rfl (fun _ => ?_) (fun h => by cases h)
    refine T.seq_k (fun K_h0 h0 => ?_)
    refine T.regi hm ?_
    simp only [↓reduceIte, namesOf, List.any, I.names, aopsI, astep, ev, setd, List.set, List.getD, List.getElem?_cons_zero, List.getElem?_cons_succ, then_normal, Option.getD_some, Bool.or_false, Bool.false_eq_true, up_zero]
    refine h0 _ _ ?_
    try clear h0 K_h0
    exact T.ret (Fin.ret rfl ⟨rfl, .inl ⟨decide_eq_true (.inr (.inr (.inl c3))), rfl⟩⟩)
  have e3 : decide (at_ < 2) = false := decide_eq_false c3
  by_cases c4 : at_ > 8
  · have e4 : decide (at_ > 8) = true := decide_eq_true c4
    refine T.seq_k (fun K_h0 h0 => ?_)
    refine T.regi hm ?_
    simp only [↓reduceIte, namesOf, List.any, I.names, aopsI, astep, ev, setd, List.set, List.getD, List.getElem?_cons_zero, List.getElem?_cons_succ, then_normal, Option.getD_some, Bool.or_false, Bool.false_eq_true, up_zero, binv, ↓opt_def, eq_self, e1, e2, e3, e4]
    refine h0 _ _ ?_
    try clear h0 K_h0
    refine T.cond rfl (fun _ => ?_) (fun h => by cases h)
    refine T.seq_k (fun K_h0 h0 => ?_)
    refine T.regi hm ?_
    simp only [↓reduceIte, namesOf, List.any, I.names, aopsI, astep, ev, setd, List.set, List.getD, List.getElem?_cons_zero, List.getElem?_cons_succ, then_normal, Option.getD_some, Bool.or_false, Bool.false_eq_true, up_zero]
    refine h0 _ _ ?_
    try clear h0 K_h0
    exact T.ret (Fin.ret rfl ⟨rfl, .inl ⟨decide_eq_true (.inr (.inr (.inr (.inl c4)))), rfl⟩⟩)
  have e4 : decide (at_ > 8) = false := decide_eq_false c4
  refine T.seq_k (fun K_h0 h0 => ?_)
  refine T.regi hm ?_
  simp only [↓reduceIte, namesOf, List.any, I.names, aopsI, astep, ev, setd, List.set, List.getD, List.getElem?_cons_zero, List.getElem?_cons_succ, then_normal, Option.getD_some, Bool.or_false, Bool.false_eq_true, up_zero, binv, ↓opt_def, eq_self, e1, e2, e3, e4]
  refine h0 _ _ ?_
  try clear h0 K_h0
  refine T.cond rfl (fun h => by cases h) (fun _ => T.skip ?_)
  refine h1 _ _ ?_
  try clear h1 K_h1
  refine T.seq_k (fun K_h0 h0 => ?_)
  refine T.regi hm ?_
  simp only [↓reduceIte, namesOf, List.any, I.names, aopsI, astep, ev, setd, List.set, List.getD, List.getElem?_cons_zero, List.getElem?_cons_succ, List.length_cons, List.length_nil, then_normal, Option.getD_some, Bool.or_false, Nat.reduceAdd, eq_self]
  refine h0 _ _ ?_
  try clear h0 K_h0
  have hM0 : MapS σ ((σ.up 2).set (σ.next + 0) (.map [] [] 0)) (σ.next + 0) [] := ⟨St.set_same _ _ _, (Like.refl σ).box (n := 2) (i := 0) _, by omega, by simp, fun j e h => by simp at h, fun i j a b h => by simp at h⟩
  generalize ((σ.up 2).set (σ.next + 0) (.map [] [] 0)) = t0 at hM0 ⊢
  generalize σ.next + 0 = m at hM0 ⊢
  refine T.seq_k (fun K_h1 h1 => ?_)
  refine T.seq_k (fun K_h0 h0 => ?_)
  refine T.regi hm ?_
  simp only [↓reduceIte, namesOf, List.any, I.names, aopsI, astep, ev, setd, List.set, List.getD, List.getElem?_cons_zero, List.getElem?_cons_succ, then_normal, Option.getD_some, Bool.or_false, Bool.false_eq_true, up_zero, mts_len]
  refine h0 _ _ ?_
  try clear h0 K_h0
  refine T.block ?_
  refine T.gh (Gh.keep [0, 1, 2, 8, 31, 32, 33]) ?_
  refine T.loopi (fun i ρ t => ∃ A, MapS σ t m A ∧ MapOf long (l.take i) A ∧ RisM (l.take i) ∧
      ρ = [.sl (mtsAV l) g, .int .i64 long, .int .i64 at_, .any, .any, .any, .any, .any, .map m] ++ List.replicate 22 .any ++ [.sl (mtsAV l) g, .int .i64 (l.length : Int), .int .i64 (i : Int)] ++ List.replicate 58 .any)
    l.length 0 (Nat.zero_le _) ⟨[], hM0, .nil _, .nil, rfl⟩ ?_
  clear hM0
  rintro i ρ t hi ⟨A, hM, hA, hR, rfl⟩
  refine T.seq_k (fun K_h0 h0 => ?_)
  refine T.regi hm ?_
  simp only [↓reduceIte, namesOf, List.any, I.names, aopsI, astep, ev, setd, List.set, List.getD, List.getElem?_cons_zero, List.getElem?_cons_succ, List.cons_append, List.nil_append, List.replicate, then_normal, Option.getD_some, Bool.or_false, Bool.false_eq_true, up_zero, binv, ↓opt_def, lt_len, eq_self]
  refine h0 _ _ ?_
  try clear h0 K_h0
  refine T.seq_k (fun K_h2 h2 => ?_)
  by_cases hil : i < l.length
  case neg =>
    refine T.cond (b := false) (by simp [ev]; omega) (fun h => by cases h) (fun _ => T.exit ?_)
    have hie : i = l.length := by omega
    subst hie
    rw [List.take_length] at hA hR
    try simp only [List.cons_append, List.nil_append, List.replicate, then_normal, inBlock_exit, then_exit]
    refine h1 _ _ ?_
    try clear h1 K_h1
    have hRl : RisM l := hR
    have hbad : plBad l long at_ = false := decide_eq_false fun h => by
      rcases h with h | h | h | h | h
      · exact c1 h
      · exact c2 h
      · exact c3 h
      · exact c4 h
      · exact h hRl
    refine T.gh (Gh.keep [0, 2, 8]) ?_
    show T _ _ _ _ ([.sl (mtsAV l) g, .any, .int .i64 at_, .any, .any, .any, .any, .any, .map m] ++ List.replicate 83 .any) t
    have hAl : (A.map Gp.key).length ≤ 1000000 := by have := hA.le; rw [List.length_map]; omega
    refine T.seq_k (fun K_h1 h1 => ?_)
    refine T.seq_k (fun K_h2 h2 => ?_)
    refine T.regi hm ?_
    simp only [↓reduceIte, namesOf, List.any, I.names, aopsI, astep, ev, setd, List.set, List.getD, List.getElem?_cons_zero, List.getElem?_cons_succ, List.cons_append, List.nil_append, List.replicate, then_normal, Option.getD_some, Bool.or_false, Bool.false_eq_true, up_zero, List.map_cons, List.map_nil]
    refine keysPl_ok.mono ?_
    rintro v σ1 ⟨bx, hb1, hb2, rfl, hbx, hLk⟩
    have hm1 : σ1.res m = some (.map (mpAV A) (List.range A.length) A.length) := hLk.get hM.hi hM.map
    have hL1 : Like σ σ1 := hM.like.trans hLk
    have hmlt : m < σ1.next := Nat.lt_of_lt_of_le hM.hi hLk.next
    try simp only [↓reduceIte, namesOf, List.any, I.names, aops, aopsI, aopsT, qstep, CPt, qget, Tbl.get, astep, ev, setd, List.set, List.getD, List.getElem?_cons_zero, List.getElem?_cons_succ, List.getElem?_nil, List.cons_append, List.nil_append, List.length_cons, List.length_nil, List.replicate, then_normal, inBlock_normal, Option.getD_some, Option.getD_none, Bool.or_false, Bool.or_true, Bool.true_or, Bool.false_or, Bool.false_eq_true, if_false, if_true, up_zero, Nat.reduceAdd, Nat.reduceSub, binv, ↓opt_def, AV.isAny, AV.cells, ldc, List.map_cons, List.map_nil, St.set_next, St.set_same, St.up_next, Int.natCast_nonneg, lt_len, le_len, Int.toNat_natCast, true_and, and_true, eq_self, reduceCtorEq, decide_true, List.length_singleton, er_int, er_bool, er_str, srcR, up_zero]
    refine (sfPl_ok hbx hm1 (mp_keys A) hAl).mono ?_
    rintro v σ2 ⟨ks, hp, hs, hn⟩
    have hmem : ∀ {k : Int × Int}, k ∈ ks ↔ k ∈ A.map Gp.key := hp.mem_iff
    rcases hn with ⟨rfl, rfl, rfl⟩ | ⟨rfl, rfl⟩
    · have hA0 : A = [] := by
        have := hp.length_eq
        simp at this
        exact List.eq_nil_of_length_eq_zero this.symm
      have hno : ∀ k, ¬ Elig long l k := hA.none (fun e he => by rw [hA0] at he; simp at he)
      try simp only [List.length_nil]
      refine h2 _ _ ?_
      try clear h2 K_h2
      refine T.block ?_
      refine T.gh (Gh.keep [74, 75]) ?_
      refine T.loopi (fun i ρ u => u = σ2 ∧ i = 0 ∧ ρ = List.replicate 74 .any ++ [.int .i64 (0 : Nat), .int .i64 (0 : Nat)] ++ List.replicate 16 .any) 0 0 (Nat.le_refl _) ⟨rfl, rfl, rfl⟩ ?_
      rintro i ρ u hi2 ⟨rfl, rfl, rfl⟩
      refine T.seq_k (fun K_h0 h0 => ?_)
      refine T.regi hm ?_
      simp only [↓reduceIte, namesOf, List.any, I.names, aopsI, astep, ev, setd, List.set, List.getD, List.getElem?_cons_zero, List.getElem?_cons_succ, List.cons_append, List.nil_append, List.replicate, then_normal, Option.getD_some, Bool.or_false, Bool.false_eq_true, up_zero, Nat.reduceAdd, binv, ↓opt_def, eq_self, reduceCtorEq]
      refine h0 _ _ ?_
      try clear h0 K_h0
      refine T.seq_k (fun K_h2 h2 => ?_)
      refine T.cond (b := false) (by simp [ev]) (fun h => by cases h) (fun _ => T.exit ?_)
      try simp only [List.cons_append, List.nil_append, List.replicate, then_normal, Nat.reduceAdd, reduceCtorEq, inBlock_exit, then_exit]
      refine h1 _ _ ?_
      try clear h1 K_h1
      refine T.seq_k (fun K_h0 h0 => ?_)
      refine T.regi hm ?_
      simp only [↓reduceIte, namesOf, List.any, I.names, aopsI, astep, ev, setd, List.set, then_normal, Bool.or_false, Bool.false_eq_true, up_zero]
      refine h0 _ _ ?_
      try clear h0 K_h0
      exact T.ret (Fin.quietw rfl (Wk.tup2 (Wk.sl _ _)) ⟨⟨trivial, trivial⟩, trivial, trivial⟩ (hL1.quiet wf) ⟨rfl, .inr ⟨hbad, [], .inl ⟨hno, rfl⟩, rfl⟩⟩)
    try simp only []
    have hS : ((σ1.up 1).set σ1.next (.obj (ks.flatMap cellsP))).res σ1.next = some (.obj (ks.flatMap cellsP)) := St.set_same _ _ _
    have hSm : ((σ1.up 1).set σ1.next (.obj (ks.flatMap cellsP))).res m = some (.map (mpAV A) (List.range A.length) A.length) := by rw [St.set_other _ _ (by omega)]; exact hm1
    have hLS : Like σ ((σ1.up 1).set σ1.next (.obj (ks.flatMap cellsP))) := hL1.box (n := 1) (i := 0) _
    have hrlt : σ1.next < ((σ1.up 1).set σ1.next (.obj (ks.flatMap cellsP))).next := by simp
    have hmlt2 : m < ((σ1.up 1).set σ1.next (.obj (ks.flatMap cellsP))).next := by simp; omega
    generalize ((σ1.up 1).set σ1.next (.obj (ks.flatMap cellsP))) = S at hS hSm hLS hrlt hmlt2 ⊢
    generalize σ1.next = r at hS hrlt ⊢
    refine h2 _ _ ?_
    try clear h2 K_h2
    refine T.block ?_
    refine T.gh (Gh.keep [2, 8, 73, 74, 75]) ?_
    refine T.loopi (fun i ρ u => Like S u ∧ (∀ (j : Nat) (x : Gp), j < i → ks[j]? = some x.key → x ∈ A → x.ms.length < 2) ∧
        ρ = [.any, .any, .int .i64 at_, .any, .any, .any, .any, .any, .map m] ++ List.replicate 64 .any ++ [.ref r 0 ks.length, .int .i64 (ks.length : Int), .int .i64 (i : Int)] ++ List.replicate 16 .any)
      ks.length 0 (Nat.zero_le _) ⟨.refl _, fun j x h => by omega, rfl⟩ ?_
    rintro i ρ u hi2 ⟨hLu, hpre, rfl⟩
    refine T.seq_k (fun K_h0 h0 => ?_)
    refine T.regi hm ?_
    simp only [↓reduceIte, namesOf, List.any, I.names, aopsI, astep, ev, setd, List.set, List.getD, List.getElem?_cons_zero, List.getElem?_cons_succ, List.cons_append, List.nil_append, List.replicate, then_normal, Option.getD_some, Bool.or_false, Bool.false_eq_true, up_zero, binv, ↓opt_def, lt_len, eq_self]
    refine h0 _ _ ?_
    try clear h0 K_h0
    refine T.seq_k (fun K_h2 h2 => ?_)
    by_cases hik : i < ks.length
    case neg =>
      refine T.cond (b := false) (by simp [ev]; omega) (fun h => by cases h) (fun _ => T.exit ?_)
      have hno : ∀ k, ¬ Elig long l k := hA.none (fun e he => by
        obtain ⟨j, hj⟩ := List.getElem?_of_mem (hmem.2 (List.mem_map_of_mem he))
        exact hpre j e (by have := (List.getElem?_eq_some_iff.1 hj).1; omega) hj he)
      try simp only [List.cons_append, List.nil_append, List.replicate, then_normal, inBlock_exit, then_exit]
      refine h1 _ _ ?_
      try clear h1 K_h1
      refine T.seq_k (fun K_h0 h0 => ?_)
      refine T.regi hm ?_
      simp only [↓reduceIte, namesOf, List.any, I.names, aopsI, astep, ev, setd, List.set, then_normal, Bool.or_false, Bool.false_eq_true, up_zero]
      refine h0 _ _ ?_
      try clear h0 K_h0
      exact T.ret (Fin.quietw rfl (Wk.tup2 (Wk.sl _ _)) ⟨⟨trivial, trivial⟩, trivial, trivial⟩ ((hLS.trans hLu).quiet wf) ⟨rfl, .inr ⟨hbad, [], .inl ⟨hno, rfl⟩, rfl⟩⟩)
    refine T.cond (b := true) (by simp [ev]; omega) (fun _ => T.skip ?_) (fun h => by cases h)
    refine h2 _ _ ?_
    try clear h2 K_h2
    have hkl : ks.length ≤ 1000000 := by rw [hp.length_eq]; exact hAl
    have hw := inc64' hik (by omega)
    obtain ⟨k, hk⟩ : ∃ k, ks[i]? = some k := ⟨_, List.getElem?_eq_getElem hik⟩
    obtain ⟨e, he, hek⟩ := List.mem_map.1 (hmem.1 (List.mem_of_getElem? hk))
    obtain ⟨j, hj⟩ := List.getElem?_of_mem he
    obtain ⟨q1, _, _⟩ := mp_some hj hek hA.nd
    obtain ⟨hld1, hld2⟩ := rowP_td hk
    have hru : ∀ n, (u.up n).res r = some (.obj (ks.flatMap cellsP)) := fun _ => hLu.get hrlt hS
    have hmu : ∀ n, (u.up n).res m = some (.map (mpAV A) (List.range A.length) A.length) := fun _ => hLu.get hmlt2 hSm
    refine T.seq_k (fun K_h2 h2 => ?_)
    refine T.block ?_
    refine T.seq_k (fun K_h0 h0 => ?_)
    refine T.regi hm ?_
    simp only [↓reduceIte, namesOf, List.any, I.names, aopsI, astep, ev, setd, List.set, List.getD, List.getElem?_cons_zero, List.getElem?_cons_succ, List.cons_append, List.nil_append, List.length_cons, List.length_nil, List.replicate, then_normal, Option.getD_some, Bool.or_false, Bool.or_true, Nat.reduceAdd, ↓opt_def, AV.isAny, AV.cells, ldc, St.set_same, Int.natCast_nonneg, lt_len, Int.toNat_natCast, true_and, and_true, eq_self, decide_true, hik, hru, hld1, hld2, AV.fits, AV.one, List.all_cons, List.all_nil, Nat.reduceBEq, Bool.not_false, Bool.and_self, Nat.zero_add, splice, List.take, List.drop, Nat.reduceLeDiff, St.set_set]
    refine h0 _ _ ?_
    try clear h0 K_h0
    have hL3 : Like S ((u.up 4).set (u.next + 2) (.obj [.int .i64 k.1, .int .i64 k.2])) := hLu.box (n := 4) (i := 2) _
    have hq3 : ((u.up 4).set (u.next + 2) (.obj [.int .i64 k.1, .int .i64 k.2])).res (u.next + 2) = some (.obj [.int .i64 k.1, .int .i64 k.2]) := St.set_same _ _ _
    generalize ((u.up 4).set (u.next + 2) (.obj [.int .i64 k.1, .int .i64 k.2])) = u1 at hL3 hq3 ⊢
    generalize u.next + 2 = b at hq3 ⊢
    have hm3 : u1.res m = some (.map (mpAV A) (List.range A.length) A.length) := hL3.get hmlt2 hSm
    have hks : kshape 4 (.agg [.int .i64 k.1, .int .i64 k.2]) = true := rfl
    refine T.seq_k (fun K_h0 h0 => ?_)
    refine T.regi hm ?_
    simp only [↓reduceIte, namesOf, List.any, I.names, aopsI, astep, ev, setd, List.set, List.getD, List.getElem?_cons_zero, List.getElem?_cons_succ, List.cons_append, List.nil_append, List.length_cons, List.length_nil, List.replicate, then_normal, Option.getD_some, Bool.or_false, Bool.false_eq_true, up_zero, Nat.reduceAdd, ↓opt_def, ldc, eq_self, hq3, hm3, hks, q1, Nat.zero_add, List.take, List.drop, Nat.reduceLeDiff]
    refine h0 _ _ ?_
    try clear h0 K_h0
    by_cases h2l : 2 ≤ e.ms.length
    case neg =>
      have f1 : decide ((e.ms.length : Int) ≥ 2) = false := decide_eq_false (by omega)
      refine T.seq_k (fun K_h0 h0 => ?_)
      refine T.regi hm ?_
      simp only [↓reduceIte, namesOf, List.any, I.names, aopsI, astep, ev, setd, List.set, List.getD, List.getElem?_cons_zero, List.getElem?_cons_succ, List.cons_append, List.nil_append, List.replicate, then_normal, Option.getD_some, Bool.or_false, Bool.false_eq_true, up_zero, binv, ↓opt_def, eq_self, mts_len, f1]
      refine h0 _ _ ?_
      try clear h0 K_h0
      refine T.cond rfl (fun h => by cases h) (fun _ => T.skip ?_)
      try simp only [List.cons_append, List.nil_append, List.replicate, then_normal, inBlock_normal, inBlock_normal]
      refine h2 _ _ ?_
      try clear h2 K_h2
      refine T.regi hm ?_
      simp only [↓reduceIte, namesOf, List.any, I.names, aopsI, astep, ev, setd, List.set, List.getD, List.getElem?_cons_zero, List.getElem?_cons_succ, List.cons_append, List.nil_append, List.replicate, then_normal, Option.getD_some, Bool.or_false, Bool.false_eq_true, up_zero, binv, ↓opt_def, eq_self, hw]
      refine ⟨hik, _, _, Gh.keep [2, 8, 73, 74, 75], hL3, fun j' x hj' hx hxA => ?_, rfl⟩
      rcases Nat.lt_or_ge j' i with h3 | h3
      · exact hpre j' x h3 hx hxA
      · have : j' = i := by omega
        subst this
        rw [hk] at hx
        have hxe : x.ms.length = e.ms.length := by
          rw [← hA.cnt hxA, ← hA.cnt he, hek]
          cases hx; rfl
        omega
    have f1 : decide ((e.ms.length : Int) ≥ 2) = true := decide_eq_true (by omega)
    refine T.seq_k (fun K_h0 h0 => ?_)
    refine T.regi hm ?_
    simp only [↓reduceIte, namesOf, List.any, I.names, aopsI, astep, ev, setd, List.set, List.getD, List.getElem?_cons_zero, List.getElem?_cons_succ, List.cons_append, List.nil_append, List.replicate, then_normal, Option.getD_some, Bool.or_false, Bool.false_eq_true, up_zero, binv, ↓opt_def, eq_self, mts_len, f1]
    refine h0 _ _ ?_
    try clear h0 K_h0
    refine T.cond rfl (fun _ => ?_) (fun h => by cases h)
    have hF : First long l e.key := hA.first hp hs (by rw [hk, hek]) he h2l (fun j' x hj' hx hxA => hpre j' x hj' hx hxA)
    have hes := (hA.is e he).2.2
    obtain ⟨n, hn⟩ : ∃ n : Nat, at_ = (n : Int) := ⟨at_.toNat, by omega⟩
    subst hn
    have hfit : (mtsAV e.ms).all (AV.fits 6) = true := mts_fits _
    have hxs : List.take n (mtsAV e.ms) = mtsAV (e.ms.take n) := by simp [mtsAV]
    have hout : mtsAV (e.ms.take n) = mtsAV ((l.filter fun m => decide (pk long m = e.key)).take (n : Int).toNat) := by rw [← hes]; rfl
    by_cases hnl : (n : Int) < e.ms.length
    · have f2 : ((n : Int) = (e.ms.length : Int)) = False := eq_false (by omega)
      have f3 : (n : Int) ≤ (e.ms.length : Int) := by omega
      refine T.seq_k (fun K_h0 h0 => ?_)
      refine T.regi hm ?_
      simp only [↓reduceIte, namesOf, List.any, I.names, aopsI, astep, ev, setd, List.set, List.getD, List.getElem?_cons_zero, List.getElem?_cons_succ, List.cons_append, List.nil_append, List.replicate, then_normal, Option.getD_some, Bool.or_false, Bool.false_eq_true, up_zero, ↓opt_def, List.map_cons, List.map_nil, Int.natCast_nonneg, Int.toNat_natCast, eq_self, mts_len, mn2, List.foldlM, bind, Option.bind, pure, hnl, f2, f3, idx, hfit, Int.toNat_zero, List.drop_zero, Int.sub_zero, hxs, Int.le_refl, and_self, false_and]
      refine h0 _ _ ?_
      try clear h0 K_h0
      refine T.ret (Fin.quietw rfl (Wk.tup2 (Wk.sl _ _)) ⟨⟨mts_nb _ _, trivial⟩, trivial, trivial⟩ ((hLS.trans hL3).quiet wf) ⟨rfl, .inr ⟨hbad, _, .inr ⟨e.key, hF, rfl⟩, ?_⟩⟩)
      rw [hout]; rfl
    · have f2 : (e.ms.length : Int) ≤ (e.ms.length : Int) := Int.le_refl _
      have hxs2 : List.take e.ms.length (mtsAV e.ms) = mtsAV (e.ms.take n) := by rw [List.take_of_length_le (by rw [mts_len]; omega), List.take_of_length_le (by omega)]
      refine T.seq_k (fun K_h0 h0 => ?_)
      refine T.regi hm ?_
      simp only [↓reduceIte, namesOf, List.any, I.names, aopsI, astep, ev, setd, List.set, List.getD, List.getElem?_cons_zero, List.getElem?_cons_succ, List.cons_append, List.nil_append, List.replicate, then_normal, Option.getD_some, Bool.or_false, Bool.false_eq_true, up_zero, ↓opt_def, List.map_cons, List.map_nil, Int.natCast_nonneg, Int.toNat_natCast, eq_self, mts_len, mn2, List.foldlM, bind, Option.bind, pure, hnl, f2, idx, hfit, Int.toNat_zero, List.drop_zero, Int.sub_zero, hxs2, Int.le_refl, and_self, true_or]
      refine h0 _ _ ?_
      try clear h0 K_h0
      refine T.ret (Fin.quietw rfl (Wk.tup2 (Wk.sl _ _)) ⟨⟨mts_nb _ _, trivial⟩, trivial, trivial⟩ ((hLS.trans hL3).quiet wf) ⟨rfl, .inr ⟨hbad, _, .inr ⟨e.key, hF, rfl⟩, ?_⟩⟩)
      rw [hout]; rfl
  refine T.cond (b := true) (by simp [ev]; omega) (fun _ => T.skip ?_) (fun h => by cases h)
  refine h2 _ _ ?_
  try clear h2 K_h2
  have hw := inc64' hil (by omega)
  obtain ⟨x, hx⟩ : ∃ x, l[i]? = some x := ⟨_, List.getElem?_eq_getElem hil⟩
  have hgx := mts_get hx
  have hqx := win_wrap (Int.not_lt.1 c1) (hok x (List.mem_of_getElem? hx))
  refine T.seq_k (fun K_h3 h3 => ?_)
  refine T.block ?_
  refine T.seq_k (fun K_h0 h0 => ?_)
  refine T.regi hm ?_
  simp only [↓reduceIte, namesOf, List.any, I.names, aopsI, astep, ev, setd, List.set, List.getD, List.getElem?_cons_zero, List.getElem?_cons_succ, List.cons_append, List.nil_append, List.length_cons, List.length_nil, List.replicate, then_normal, Option.getD_some, Bool.or_false, Bool.or_true, Nat.reduceAdd, ↓opt_def, AV.isAny, AV.cells, ldc, St.set_same, Int.natCast_nonneg, lt_len, Int.toNat_natCast, true_and, and_true, eq_self, decide_true, hil, mts_len, hgx, AV.fits, AV.one, List.all_cons, List.all_nil, Nat.reduceBEq, Bool.not_false, Bool.and_self, Nat.zero_add, splice, List.take, List.drop, Nat.reduceLeDiff, St.set_set]
  refine h0 _ _ ?_
  try clear h0 K_h0
  have hM1 : MapS σ ((t.up 6).set (t.next + 3) (.obj (mtC x))) m A := by
    refine ⟨?_, hM.like.box (n := 6) (i := 3) _, hM.lo, by have := hM.hi; simp; omega, fun j e h => ?_, hM.apart⟩
    · rw [St.set_other _ _ (by have := hM.hi; omega)]; exact hM.map
    · obtain ⟨g1, g2, g3, g4⟩ := hM.tip j e h
      refine ⟨by rw [St.set_other _ _ (by omega)]; exact g1, g2, by simp; omega, g4⟩
  have hb : ((t.up 6).set (t.next + 3) (.obj (mtC x))).res (t.next + 3) = some (.obj (mtC x)) := St.set_same _ _ _
  have hbm : t.next + 3 ≠ m := by have := hM.hi; omega
  have hbt : ∀ (j : Nat) (e : Gp), A[j]? = some e → e.tip ≠ t.next + 3 := fun j e h => by have := (hM.tip j e h).2.2.1; omega
  have hblt : t.next + 3 < ((t.up 6).set (t.next + 3) (.obj (mtC x))).next := by simp
  generalize ((t.up 6).set (t.next + 3) (.obj (mtC x))) = u at hM1 hb hblt ⊢
  generalize t.next + 3 = b at hb hbm hbt hblt ⊢
  clear hM
  refine T.seq_k (fun K_h4 h4 => ?_)
  -- behind the check
  have hgo : RisM (l.take (i + 1)) → ∀ ρ', keep [0, 1, 2, 8, 10, 31, 32, 33] 0 ρ' = [.sl (mtsAV l) g, .int .i64 long, .int .i64 at_, .any, .any, .any, .any, .any, .map m, .any, .ptr b 0] ++ List.replicate 20 .any ++ [.sl (mtsAV l) g, .int .i64 (l.length : Int), .int .i64 (i : Int)] ++ List.replicate 58 .any → K_h4 ρ' u := by
    intro hR1 ρ' hk
    refine h4 _ _ ?_
    refine T.gh (Gh.keep [0, 1, 2, 8, 10, 31, 32, 33]) ?_
    rw [hk]
    have hts : l.take (i + 1) = l.take i ++ [x] := by
      rw [List.take_succ_eq_append_getElem hil]
      rw [List.getElem?_eq_getElem hil] at hx
      cases hx; rfl
    by_cases hlv : x.level < 10
    case neg =>
      have f1 : decide (x.level < 10) = false := decide_eq_false hlv
      refine T.seq_k (fun K_h0 h0 => ?_)
      refine T.regi hm ?_
      simp only [↓reduceIte, namesOf, List.any, I.names, aopsI, astep, ev, setd, List.set, List.getD, List.getElem?_cons_zero, List.getElem?_cons_succ, List.cons_append, List.nil_append, List.replicate, then_normal, Option.getD_some, Bool.or_false, Bool.false_eq_true, up_zero, binv, ↓opt_def, ldc, eq_self, hb, f1, Nat.zero_add]
      refine h0 _ _ ?_
      try clear h0 K_h0
      refine T.cond rfl (fun h => by cases h) (fun _ => T.skip ?_)
      try simp only [List.cons_append, List.nil_append, List.replicate, then_normal, inBlock_normal, inBlock_normal]
      refine h3 _ _ ?_
      try clear h3 K_h3
      refine T.regi hm ?_
      simp only [↓reduceIte, namesOf, List.any, I.names, aopsI, astep, ev, setd, List.set, List.getD, List.getElem?_cons_zero, List.getElem?_cons_succ, List.cons_append, List.nil_append, List.replicate, then_normal, Option.getD_some, Bool.or_false, Bool.false_eq_true, up_zero, binv, ↓opt_def, eq_self, hw]
      exact ⟨hil, _, _, Gh.keep [0, 1, 2, 8, 31, 32, 33], A, hM1, by rw [hts]; exact hA.skip hlv, hR1, rfl⟩
    have f1 : decide (x.level < 10) = true := decide_eq_true hlv
    have hq0 : (long = 0) = False := eq_false (by omega)
    refine T.seq_k (fun K_h0 h0 => ?_)
    refine T.regi hm ?_
    simp only [↓reduceIte, namesOf, List.any, I.names, aopsI, astep, ev, setd, List.set, List.getD, List.getElem?_cons_zero, List.getElem?_cons_succ, List.cons_append, List.nil_append, List.replicate, then_normal, Option.getD_some, Bool.or_false, Bool.false_eq_true, up_zero, binv, ↓opt_def, ldc, eq_self, hb, f1, Nat.zero_add]
    refine h0 _ _ ?_
    try clear h0 K_h0
    refine T.cond rfl (fun _ => ?_) (fun h => by cases h)
    have hl1 : b + 1 < u.next + 1 := by omega
    have hl3 : b + 3 < u.next + 3 := by omega
    have hbu : ∀ k, (u.up k).res b = some (.obj (mtC x)) := fun _ => hb
    refine T.seq_k (fun K_h0 h0 => ?_)
    refine T.regi hm ?_
    simp only [↓reduceIte, namesOf, List.any, I.names, aopsI, astep, ev, setd, List.set, List.getD, List.getElem?_cons_zero, List.getElem?_cons_succ, List.cons_append, List.nil_append, List.length_cons, List.length_nil, List.replicate, then_normal, Option.getD_some, Bool.or_false, Bool.or_true, Nat.reduceAdd, binv, ↓opt_def, AV.isAny, AV.cells, ldc, St.set_same, and_true, eq_self, decide_true, hbu, hl1, hl3, hq0, hqx, fillA, ↓Option.map_some, AV.fits, AV.one, List.all_cons, List.all_nil, Nat.reduceBEq, Bool.not_false, Bool.and_self, Nat.zero_add, splice, List.take, List.drop, Nat.reduceLeDiff, St.set_set]
    refine h0 _ _ ?_
    try clear h0 K_h0
    have hM2 : MapS σ ((u.up 9).set (u.next + 7) (.obj [.int .i64 x.level, .int .i64 (x.en.tdiv long)])) m A := by
      refine ⟨?_, hM1.like.box (n := 9) (i := 7) _, hM1.lo, by have := hM1.hi; simp; omega, fun j e h => ?_, hM1.apart⟩
      · rw [St.set_other _ _ (by have := hM1.hi; omega)]; exact hM1.map
      · obtain ⟨g1, g2, g3, g4⟩ := hM1.tip j e h
        refine ⟨by rw [St.set_other _ _ (by omega)]; exact g1, g2, by simp; omega, g4⟩
    have hb2 : ((u.up 9).set (u.next + 7) (.obj [.int .i64 x.level, .int .i64 (x.en.tdiv long)])).res b = some (.obj (mtC x)) := by rw [St.set_other _ _ (by omega)]; exact hb
    have hc2 : ((u.up 9).set (u.next + 7) (.obj [.int .i64 x.level, .int .i64 (x.en.tdiv long)])).res (u.next + 7) = some (.obj [.int .i64 x.level, .int .i64 (x.en.tdiv long)]) := St.set_same _ _ _
    generalize ((u.up 9).set (u.next + 7) (.obj [.int .i64 x.level, .int .i64 (x.en.tdiv long)])) = S at hM2 hb2 hc2 ⊢
    generalize u.next + 7 = c at hc2 ⊢
    have hbu2 : ∀ k, (S.up k).res b = some (.obj (mtC x)) := fun _ => hb2
    have hcu2 : ∀ k, (S.up k).res c = some (.obj [.int .i64 x.level, .int .i64 (x.en.tdiv long)]) := fun _ => hc2
    have hmu2 : ∀ k, (S.up k).res m = some (.map (mpAV A) (List.range A.length) A.length) := fun _ => hM2.map
    have hks : kshape 4 (kP (pk long x)) = true := rfl
    by_cases hex : ∃ (j : Nat) (e : Gp), A[j]? = some e ∧ e.key = pk long x
    · obtain ⟨j, e, hj, hk⟩ := hex
      obtain ⟨q1, q2, q3⟩ := mp_some hj hk hA.nd
      have hjl := (List.getElem?_eq_some_iff.1 hj).1
      have q4 : (List.range A.length)[j]?.getD 0 = j := by simp [hjl]
      have hself : (S.up 9).set m (.map (mpAV A) (List.range A.length) A.length) = S.up 9 := St.set_self (hmu2 9)
      obtain ⟨g1, g2, g3, g4⟩ := hM2.tip j e hj
      have hel : e.ms.length ≤ 1000000 := by
        rw [(hA.is e (List.mem_of_getElem? hj)).2.2]
        exact Nat.le_trans (List.length_filter_le _ _) (Nat.le_trans (List.length_take_le' _ _) hl)
      have hfi := find_range hjl
      have happ : mtsAV e.ms ++ [.agg [.int .u64 (x.id : Int), .int .i64 x.level, .int .i64 x.st, .int .i64 x.en, .int .i64 x.pages, .int .i64 x.traces]] = mtsAV (e.ms ++ [x]) := by simp [mtsAV]
      have hfit := mts_fits (e.ms ++ [x])
      have hz1 : (e.ms.length + 1) * 48 ≤ 70368744177664 := by omega
      have hz2 : e.ms.length + 1 ≤ 4611686018427387904 := by omega
      have hg1 : ∀ k, (S.up k).res e.tip = some (.tip 6) := fun _ => g1
      refine T.regt hm (tbl := []) Tbl.ok_nil ?_
      refine aopsT_cut 5 (fun K_c h_c => ?_)
      try simp only [↓reduceIte, namesOf, List.any, I.names, aopsT, qstep, astep, ev, setd, List.set, List.getD, List.getElem?_cons_zero, List.getElem?_cons_succ, List.length_cons, List.length_nil, Option.getD_some, Bool.or_false, Bool.or_true, Nat.reduceAdd, ↓opt_def, AV.isAny, AV.cells, ldc, List.map_cons, List.map_nil, eq_self, List.take_succ_cons, hbu2, hcu2, hmu2, hks, q1, q2, q3, q4, held, AV.er, AV.er1, AV.fits, AV.one, List.all_cons, List.all_nil, Nat.reduceBEq, Bool.not_false, Bool.and_self, Nat.zero_add, List.take, List.drop, Nat.reduceLeDiff]
      refine h_c _ _ ?_
      clear h_c K_c
      simp only [List.drop_succ_cons, List.drop_zero, Nat.zero_add]
      rw [hself]
      have hne : m ≠ S.next + 6 := by have := hM2.hi; omega
      have hr3 : (((S.up 9).del e.tip).set (S.next + 6) (.tip 6)).res m = some (.map (mpAV A) (List.range A.length) A.length) := by
        rw [St.set_other _ _ hne]; simp [St.del, g4.symm]; exact hM2.map
      have hmod : (mpAV A).modify j (fun e' => (e'.1, AV.sl (mtsAV (e.ms ++ [x])) (.tip (S.next + 6)))) = mpAV (A.set j ⟨e.key, e.ms ++ [x], S.next + 6⟩) := modify_mp (e' := ⟨e.key, e.ms ++ [x], S.next + 6⟩) hj
      try simp only [↓reduceIte, aopsT, qstep, astep, ev, setd, List.set, List.getD, List.getElem?_cons_zero, List.getElem?_cons_succ, List.cons_append, List.nil_append, List.length_cons, List.length_nil, List.replicate, then_normal, inBlock_normal, Option.getD_some, Nat.reduceAdd, ↓opt_def, List.map_cons, List.map_nil, eq_self, decide_true, srcOf, AV.er, AV.er1, happ, hfit, hg1, mts_len, hz1, hz2, and_self, decide_true, hr3, hfi, hmod, List.length_cons, List.length_nil, Bool.and_self, Nat.zero_add]
      try simp only [↓reduceIte, namesOf, List.any, I.names, aops, aopsI, aopsT, qstep, CPt, qget, Tbl.get, astep, ev, setd, List.set, List.getD, List.getElem?_cons_zero, List.getElem?_cons_succ, List.getElem?_nil, List.cons_append, List.nil_append, List.length_cons, List.length_nil, List.replicate, then_normal, inBlock_normal, Option.getD_some, Option.getD_none, Bool.or_false, Bool.or_true, Bool.true_or, Bool.false_or, Bool.false_eq_true, if_false, if_true, up_zero, Nat.reduceAdd, Nat.reduceSub, binv, ↓opt_def, AV.isAny, AV.cells, ldc, List.map_cons, List.map_nil, St.set_next, St.set_same, St.up_next, Int.natCast_nonneg, lt_len, le_len, Int.toNat_natCast, true_and, and_true, eq_self, reduceCtorEq, decide_true, List.length_singleton, er_int, er_bool, er_str, srcR, inBlock_normal]
      refine h3 _ _ ?_
      try clear h3 K_h3
      refine T.regi hm ?_
      simp only [↓reduceIte, namesOf, List.any, I.names, aopsI, astep, ev, setd, List.set, List.getD, List.getElem?_cons_zero, List.getElem?_cons_succ, List.cons_append, List.nil_append, List.replicate, then_normal, Option.getD_some, Bool.or_false, Bool.false_eq_true, up_zero, binv, ↓opt_def, eq_self, hw]
      exact ⟨hil, _, _, Gh.keep [0, 1, 2, 8, 31, 32, 33], A.set j ⟨e.key, e.ms ++ [x], S.next + 6⟩, hM2.more hj _, by rw [hts]; exact hA.more hj hk, hR1, rfl⟩
    · have hno : ∀ e ∈ A, e.key ≠ pk long x := fun e he hk => hex (by
        obtain ⟨j, hj⟩ := List.getElem?_of_mem he
        exact ⟨j, e, hj, hk⟩)
      obtain ⟨q1, q2⟩ := mp_none hno
      refine T.regt hm (tbl := []) Tbl.ok_nil ?_
      refine aopsT_cut 5 (fun K_c h_c => ?_)
      try simp only [↓reduceIte, namesOf, List.any, I.names, aopsT, qstep, astep, ev, setd, List.set, List.getD, List.getElem?_cons_zero, List.getElem?_cons_succ, List.length_cons, List.length_nil, Option.getD_some, Bool.or_false, Bool.or_true, Nat.reduceAdd, ↓opt_def, AV.isAny, AV.cells, ldc, List.map_cons, List.map_nil, eq_self, List.take_succ_cons, hbu2, hcu2, hmu2, hks, q1, q2, held, AV.er, AV.er1, AV.fits, AV.one, List.all_cons, List.all_nil, Nat.reduceBEq, Bool.not_false, Bool.and_self, Nat.zero_add, List.take, List.drop, Nat.reduceLeDiff]
      refine h_c _ _ ?_
      clear h_c K_c
      simp only [List.drop_succ_cons, List.drop_zero, Nat.zero_add]
      have hne : m ≠ S.next + 6 := by have := hM2.hi; omega
      have hr3 : (((S.up 9).set m (.map (mpAV A ++ [(kP (pk long x), .sl [] .nil)]) (List.range A.length ++ [A.length]) (A.length + 1))).set (S.next + 6) (.tip 6)).res m = some (.map (mpAV A ++ [(kP (pk long x), .sl [] .nil)]) (List.range A.length ++ [A.length]) (A.length + 1)) := by rw [St.set_other _ _ hne, St.set_same]
      have hfi : (List.range A.length ++ [A.length]).findIdx? (fun (t : Nat) => (t : Int) == (A.length : Int)) = some A.length := by
        have := find_range (n := A.length + 1) (j := A.length) (by omega)
        rwa [List.range_succ] at this
      refine aopsT_cut 3 (fun K_c h_c => ?_)
      try simp only [↓reduceIte, aopsT, qstep, astep, ev, setd, List.set, List.getD, List.getElem?_cons_zero, List.getElem?_cons_succ, List.nil_append, List.length_cons, List.length_nil, Option.getD_some, Bool.false_eq_true, Nat.reduceAdd, ↓opt_def, AV.isAny, AV.cells, List.map_cons, List.map_nil, eq_self, decide_true, srcOf, AV.er, AV.er1, List.isEmpty, and_self, Nat.one_mul, AV.fits, AV.one, List.all_cons, List.all_nil, Nat.reduceBEq, Bool.not_false, Bool.and_self, Nat.zero_add, List.take, Nat.reduceLeDiff]
      refine h_c _ _ ?_
      clear h_c K_c
      simp only [List.drop_succ_cons, List.drop_zero, Nat.reduceAdd]
      have hmod : (mpAV A ++ [(kP (pk long x), AV.sl [] .nil)]).modify A.length (fun e' => (e'.1, AV.sl (mtsAV [x]) (.tip (S.next + 6)))) = mpAV (A ++ [⟨pk long x, [x], S.next + 6⟩]) := by
        rw [← mp_len A, modify_snoc]; simp [mpAV]
      have hmx : [AV.agg [.int .u64 (x.id : Int), .int .i64 x.level, .int .i64 x.st, .int .i64 x.en, .int .i64 x.pages, .int .i64 x.traces]] = mtsAV [x] := rfl
      try simp only [aopsT, qstep, astep, ev, setd, List.getD, List.getElem?_cons_zero, List.getElem?_cons_succ, List.cons_append, List.nil_append, List.replicate, then_normal, inBlock_normal, Option.getD_some, hr3, hfi, hmx, hmod]
      try simp only [↓reduceIte, namesOf, List.any, I.names, aops, aopsI, aopsT, qstep, CPt, qget, Tbl.get, astep, ev, setd, List.set, List.getD, List.getElem?_cons_zero, List.getElem?_cons_succ, List.getElem?_nil, List.cons_append, List.nil_append, List.length_cons, List.length_nil, List.replicate, then_normal, inBlock_normal, Option.getD_some, Option.getD_none, Bool.or_false, Bool.or_true, Bool.true_or, Bool.false_or, Bool.false_eq_true, if_false, if_true, up_zero, Nat.reduceAdd, Nat.reduceSub, binv, ↓opt_def, AV.isAny, AV.cells, ldc, List.map_cons, List.map_nil, St.set_next, St.set_same, St.up_next, Int.natCast_nonneg, lt_len, le_len, Int.toNat_natCast, true_and, and_true, eq_self, reduceCtorEq, decide_true, List.length_singleton, er_int, er_bool, er_str, srcR, inBlock_normal]
      refine h3 _ _ ?_
      try clear h3 K_h3
      refine T.regi hm ?_
      simp only [↓reduceIte, namesOf, List.any, I.names, aopsI, astep, ev, setd, List.set, List.getD, List.getElem?_cons_zero, List.getElem?_cons_succ, List.cons_append, List.nil_append, List.replicate, then_normal, Option.getD_some, Bool.or_false, Bool.false_eq_true, up_zero, binv, ↓opt_def, eq_self, hw]
      exact ⟨hil, _, _, Gh.keep [0, 1, 2, 8, 31, 32, 33], A ++ [⟨pk long x, [x], S.next + 6⟩], hM2.fresh _ _ _, by rw [hts]; exact hA.fresh hlv hno, hR1, rfl⟩
  refine T.seq_k (fun K_h5 h5 => ?_)
  by_cases hi0 : i = 0
  · have f1 : decide ((i : Int) > 0) = false := decide_eq_false (by omega)
    refine T.regi hm ?_
    simp only [↓reduceIte, namesOf, List.any, I.names, aopsI, astep, ev, setd, List.set, List.getD, List.getElem?_cons_zero, List.getElem?_cons_succ, List.cons_append, List.nil_append, List.replicate, then_normal, Option.getD_some, Bool.or_false, Bool.false_eq_true, up_zero, binv, ↓opt_def, eq_self, f1]
    refine h5 _ _ ?_
    try clear h5 K_h5
    refine T.cond rfl (fun h => by cases h) (fun _ => T.skip ?_)
    refine hgo ?_ _ rfl
    subst hi0
    rw [List.take_succ_eq_append_getElem hil]
    exact List.pairwise_singleton _ _
  · have f1 : decide ((i : Int) > 0) = true := decide_eq_true (by omega)
    have f2 : IntKind.i64.wrap ((i : Int) - 1) = ((i - 1 : Nat) : Int) := by rw [wrap64 (by omega) (by omega)]; omega
    have hi2 : i - 1 < l.length := by omega
    obtain ⟨y, hy⟩ : ∃ y, l[i - 1]? = some y := ⟨_, List.getElem?_eq_getElem hi2⟩
    have hgy := mts_get hy
    by_cases hlt : y.id < x.id
    · have f3 : decide ((y.id : Int) ≥ (x.id : Int)) = false := decide_eq_false (by omega)
      refine T.regi hm ?_
      simp only [↓reduceIte, namesOf, List.any, I.names, aopsI, astep, ev, setd, List.set, List.getD, List.getElem?_cons_zero, List.getElem?_cons_succ, List.cons_append, List.nil_append, List.length_cons, List.length_nil, List.replicate, then_normal, Option.getD_some, Bool.or_false, Bool.false_eq_true, up_zero, Nat.reduceAdd, binv, ↓opt_def, AV.cells, ldc, Int.natCast_nonneg, lt_len, Int.toNat_natCast, and_true, eq_self, f1, f2, f3, hi2, mts_len, hgy, hb, Nat.add_zero, Nat.zero_add, List.drop]
      refine h5 _ _ ?_
      try clear h5 K_h5
      refine T.cond rfl (fun h => by cases h) (fun _ => T.skip ?_)
      exact hgo (hR.snoc (by omega) hy hx hlt) _ rfl
    · have f3 : decide ((y.id : Int) ≥ (x.id : Int)) = true := decide_eq_true (by omega)
      refine T.regi hm ?_
      simp only [↓reduceIte, namesOf, List.any, I.names, aopsI, astep, ev, setd, List.set, List.getD, List.getElem?_cons_zero, List.getElem?_cons_succ, List.cons_append, List.nil_append, List.length_cons, List.length_nil, List.replicate, then_normal, Option.getD_some, Bool.or_false, Bool.false_eq_true, up_zero, Nat.reduceAdd, binv, ↓opt_def, AV.cells, ldc, Int.natCast_nonneg, lt_len, Int.toNat_natCast, and_true, eq_self, f1, f2, f3, hi2, mts_len, hgy, hb, Nat.add_zero, Nat.zero_add, List.drop]
      refine h5 _ _ ?_
      try clear h5 K_h5
      refine T.cond rfl (fun _ => ?_) (fun h => by cases h)
      refine T.seq_k (fun K_h0 h0 => ?_)
      refine T.regi hm ?_
      simp only [↓reduceIte, namesOf, List.any, I.names, aopsI, astep, ev, setd, List.set, List.getD, List.getElem?_cons_zero, List.getElem?_cons_succ, List.cons_append, List.nil_append, List.replicate, then_normal, Option.getD_some, Bool.or_false, Bool.false_eq_true, up_zero]
      refine h0 _ _ ?_
      try clear h0 K_h0
      exact T.ret (Fin.quiet rfl ⟨⟨trivial, trivial⟩, trivial, trivial⟩ (hM1.like.quiet wf) ⟨rfl, .inl ⟨decide_eq_true (.inr (.inr (.inr (.inr (RisM.bad (by omega) hy hx hlt))))), rfl⟩⟩)

end Go.VL

namespace Go.VL

open Go.Proofs

theorem e19_nn : eqIv true [(31, .i64)] .nili .nili = some true := rfl

theorem e19_11 : eqIv false [(31, .i64)] (.iface tCode (.int .i64 1)) (.iface 31 (.int .i64 1)) = some true := rfl

abbrev ma : Mt := ⟨1, 0, 0, 3, 0, 0⟩

abbrev mb : Mt := ⟨2, 0, 0, 4, 0, 0⟩

theorem head_grp : Grp 10 2 [ma, mb] [ma, mb] := by
  have hc : ∀ k : Int × Int, k ≠ (0, 0) → cntM 10 [ma, mb] k = 0 := fun k hk => by
    have n1 : ¬ pk 10 ma = k := fun h => hk (h.symm.trans (by decide))
    have n2 : ¬ pk 10 mb = k := fun h => hk (h.symm.trans (by decide))
    unfold cntM
    rw [List.countP_cons_of_neg (p := fun m => decide (pk 10 m = k)) (by simpa using n1), List.countP_cons_of_neg (p := fun m => decide (pk 10 m = k)) (by simpa using n2), List.countP_nil]
  refine .inr ⟨(0, 0), ⟨⟨by decide, by decide⟩, fun k hk => ?_⟩, by decide⟩
  by_cases h : k = (0, 0)
  · subst h; decide
  · have := hk.1
    rw [hc k h] at this
    omega

set_option maxRecDepth 10000 in
theorem up19_ok {σ : St} : ACalls Try.prog n_up19 [] σ (fun v σ' => v = .bool true ∧ σ' = σ) := by
  refine s_up19 (fun wf => ?_)
  unfold c_up19
  refine T.seq_k (fun K_h0 h0 => ?_)
  refine T.regi hm ?_
  simp only [↓reduceIte, namesOf, List.any, I.names, aopsI, astep, ev, setd, List.set, List.nil_append, List.length_nil, List.replicate, then_normal, Bool.or_false, Bool.false_eq_true, up_zero, Nat.reduceSub]
  refine h0 _ _ ?_
  try clear h0 K_h0
  refine T.seq_k (fun K_h1 h1 => ?_)
  refine T.regi hm ?_
  simp only [↓reduceIte, namesOf, List.any, I.names, aopsI, astep, ev, setd, List.set, List.getD, List.getElem?_cons_zero, List.getElem?_cons_succ, List.cons_append, List.nil_append, List.length_cons, List.length_nil, then_normal, Option.getD_some, Bool.or_false, Bool.false_eq_true, up_zero, Nat.reduceAdd, ↓opt_def, AV.isAny, AV.cells, List.map_cons, List.map_nil, and_true, eq_self, fillA, ↓Option.map_some, AV.fits, AV.one, List.all_cons, List.all_nil, Nat.reduceBEq, Bool.not_false, Bool.and_self, Nat.zero_add, splice, List.take, List.drop, Nat.reduceLeDiff]
  refine (plgroup_ok (l := [ma, mb]) (g := .none) (by simp) (by
    intro m hm
    simp only [List.mem_cons, List.not_mem_nil, or_false] at hm
    rcases hm with rfl | rfl <;> (constructor <;> decide))).mono ?_
  rintro v σ1 ⟨rfl, h⟩
  have hb1 : plBad [ma, mb] 10 2 = false := by decide
  rcases h with ⟨hb, _⟩ | ⟨_, out, hG, rfl⟩
  · rw [hb1] at hb; cases hb
  have ho : out = [ma, mb] := hG.uniq head_grp
  subst ho
  try simp only [List.getElem?_cons_zero, List.getElem?_cons_succ, List.map_cons, List.map_nil]
  refine h1 _ _ ?_
  try clear h1 K_h1
  refine T.seq_k (fun K_h1 h1 => ?_)
  refine T.regi hm ?_
  simp only [↓reduceIte, namesOf, List.any, I.names, aopsI, astep, ev, setd, List.set, List.getD, List.getElem?_cons_zero, List.getElem?_cons_succ, then_normal, Option.getD_some, Bool.or_false, Bool.false_eq_true, up_zero, ↓opt_def, List.map_cons, List.map_nil]
  refine (plgroup_ok (l := []) (g := .nil) (by simp) (fun m hm => by simp at hm)).mono ?_
  rintro v σ2 ⟨rfl, h⟩
  have hb2 : plBad [] 0 2 = true := by decide
  rcases h with ⟨_, rfl⟩ | ⟨hb, _⟩
  case inr => rw [hb2] at hb; cases hb
  try simp only [List.getElem?_cons_zero, List.getElem?_cons_succ]
  refine h1 _ _ ?_
  try clear h1 K_h1
  refine T.seq_k (fun K_h0 h0 => ?_)
  refine T.regi hm ?_
  simp only [↓reduceIte, namesOf, List.any, I.names, aopsI, astep, ev, setd, List.set, List.getD, List.getElem?_cons_zero, List.getElem?_cons_succ, List.length_cons, List.length_nil, then_normal, Option.getD_some, Bool.or_false, Bool.false_eq_true, up_zero, Nat.reduceAdd, binv, ↓opt_def, List.map_cons, List.map_nil, eq_self, mtsAV, e19_nn, e19_11, Bool.bne_false]
  refine h0 _ _ ?_
  try clear h0 K_h0
  exact T.ret (Fin.ret rfl ⟨rfl, rfl⟩)

set_option maxRecDepth 10000 in
set_option maxHeartbeats 1000000 in
theorem planGroups_ok {l : List Mt} {g : Ver} {long at_ : Int} {σ : St} (hl : l.length ≤ 9223372036854775807) (hok : ∀ m ∈ l, MtOk m) :
    ACalls Try.prog n_planGroups [.sl (mtsAV l) g, .int .i64 long, .int .i64 at_] σ (fun v σ' => v = .bool true ∧ σ' = σ) := by
  refine s_planGroups (fun wf => ?_)
  unfold c_planGroups
  refine T.seq_k (fun K_h0 h0 => ?_)
  refine T.regi hm ?_
  simp only [↓reduceIte, namesOf, List.any, I.names, aopsI, astep, ev, setd, List.set, List.cons_append, List.nil_append, List.length_cons, List.length_nil, List.replicate, then_normal, Bool.or_false, Bool.false_eq_true, up_zero, Nat.reduceAdd, Nat.reduceSub]
  refine h0 _ _ ?_
  try clear h0 K_h0
  refine T.seq_k (fun K_h1 h1 => ?_)
  refine T.regi hm ?_
  simp only [↓reduceIte, namesOf, List.any, I.names, aopsI, astep, ev, setd, List.set, List.getD, List.getElem?_cons_zero, List.getElem?_cons_succ, then_normal, Option.getD_some, Bool.or_false, Bool.false_eq_true, up_zero, List.map_nil]
  refine up19_ok.mono ?_
  rintro v σ1 ⟨rfl, rfl⟩
  try simp only [↓reduceIte, namesOf, List.any, I.names, aops, aopsI, aopsT, qstep, CPt, qget, Tbl.get, astep, ev, setd, List.set, List.getD, List.getElem?_cons_zero, List.getElem?_cons_succ, List.getElem?_nil, List.cons_append, List.nil_append, List.length_cons, List.length_nil, List.replicate, then_normal, inBlock_normal, Option.getD_some, Option.getD_none, Bool.or_false, Bool.or_true, Bool.true_or, Bool.false_or, Bool.false_eq_true, if_false, if_true, up_zero, Nat.reduceAdd, Nat.reduceSub, binv, ↓opt_def, AV.isAny, AV.cells, ldc, List.map_cons, List.map_nil, St.set_next, St.set_same, St.up_next, Int.natCast_nonneg, lt_len, le_len, Int.toNat_natCast, true_and, and_true, eq_self, reduceCtorEq, decide_true, List.length_singleton, er_int, er_bool, er_str, srcR, up_zero]
  refine h1 _ _ ?_
  try clear h1 K_h1
  refine T.seq_k (fun K_h1 h1 => ?_)
  by_cases hl2 : l.length ≤ 100
  case neg =>
    have e1 : decide ((l.length : Int) > 100) = true := decide_eq_true (by omega)
    refine T.seq_k (fun K_h0 h0 => ?_)
    refine T.regi hm ?_
    simp only [↓reduceIte, namesOf, List.any, I.names, aopsI, astep, ev, setd, List.set, List.getD, List.getElem?_cons_zero, List.getElem?_cons_succ, then_normal, Option.getD_some, Bool.or_false, Bool.false_eq_true, up_zero, binv, ↓opt_def, eq_self, mts_len, e1]
    refine h0 _ _ ?_
    try clear h0 K_h0
    refine T.cond rfl (fun _ => ?_) (fun h => by cases h)
    refine T.seq_k (fun K_h0 h0 => ?_)
    refine T.regi hm ?_
    simp only [↓reduceIte, namesOf, List.any, I.names, aopsI, astep, ev, setd, List.set, List.getD, List.getElem?_cons_zero, List.getElem?_cons_succ, then_normal, Option.getD_some, Bool.or_false, Bool.false_eq_true, up_zero]
    refine h0 _ _ ?_
    try clear h0 K_h0
    exact T.ret (Fin.ret rfl ⟨rfl, rfl⟩)
  have e1 : decide ((l.length : Int) > 100) = false := decide_eq_false (by omega)
  refine T.seq_k (fun K_h0 h0 => ?_)
  refine T.regi hm ?_
  simp only [↓reduceIte, namesOf, List.any, I.names, aopsI, astep, ev, setd, List.set, List.getD, List.getElem?_cons_zero, List.getElem?_cons_succ, then_normal, Option.getD_some, Bool.or_false, Bool.false_eq_true, up_zero, binv, ↓opt_def, eq_self, mts_len, e1]
  refine h0 _ _ ?_
  try clear h0 K_h0
  refine T.cond rfl (fun h => by cases h) (fun _ => T.skip ?_)
  refine h1 _ _ ?_
  try clear h1 K_h1
  refine T.seq_k (fun K_h1 h1 => ?_)
  refine T.regi hm ?_
  simp only [↓reduceIte, namesOf, List.any, I.names, aopsI, astep, ev, setd, List.set, List.getD, List.getElem?_cons_zero, List.getElem?_cons_succ, then_normal, Option.getD_some, Bool.or_false, Bool.false_eq_true, up_zero, ↓opt_def, List.map_cons, List.map_nil]
  refine (plgroup_ok (by omega) hok).mono ?_
  rintro v σ2 ⟨rfl, hv⟩
  have hz : ((([] : List AV).length : Int) == 0) = true := rfl
  rcases hv with ⟨hb, rfl⟩ | ⟨hb, out, hG, rfl⟩
  · try simp only [List.getElem?_cons_zero, List.getElem?_cons_succ]
    refine h1 _ _ ?_
    try clear h1 K_h1
    refine T.seq_k (fun K_h1 h1 => ?_)
    refine T.regi hm ?_
    simp only [↓reduceIte, namesOf, List.any, I.names, aopsI, astep, ev, setd, List.set, List.getD, List.getElem?_cons_zero, List.getElem?_cons_succ, then_normal, Option.getD_some, Bool.or_false, Bool.false_eq_true, up_zero, List.map_cons, List.map_nil]
    refine (ris19_ok (by omega)).mono ?_
    rintro v σ3 ⟨rfl, rfl⟩
    try simp only [↓reduceIte, namesOf, List.any, I.names, aops, aopsI, aopsT, qstep, CPt, qget, Tbl.get, astep, ev, setd, List.set, List.getD, List.getElem?_cons_zero, List.getElem?_cons_succ, List.getElem?_nil, List.cons_append, List.nil_append, List.length_cons, List.length_nil, List.replicate, then_normal, inBlock_normal, Option.getD_some, Option.getD_none, Bool.or_false, Bool.or_true, Bool.true_or, Bool.false_or, Bool.false_eq_true, if_false, if_true, up_zero, Nat.reduceAdd, Nat.reduceSub, binv, ↓opt_def, AV.isAny, AV.cells, ldc, List.map_cons, List.map_nil, St.set_next, St.set_same, St.up_next, Int.natCast_nonneg, lt_len, le_len, Int.toNat_natCast, true_and, and_true, eq_self, reduceCtorEq, decide_true, List.length_singleton, er_int, er_bool, er_str, srcR, up_zero]
    refine h1 _ _ ?_
    try clear h1 K_h1
    refine T.seq_k (fun K_h1 h1 => ?_)
    have hb' := of_decide_eq_true hb
    by_cases c1 : long < 1
    · have e1 : decide (long < 1) = true := decide_eq_true c1
      refine T.seq_k (fun K_h0 h0 => ?_)
      refine T.regi hm ?_
      simp only [↓reduceIte, namesOf, List.any, I.names, aopsI, astep, ev, setd, List.set, List.getD, List.getElem?_cons_zero, List.getElem?_cons_succ, then_normal, Option.getD_some, Bool.or_false, Bool.false_eq_true, up_zero, binv, ↓opt_def, eq_self, reduceCtorEq, e1]
      refine h0 _ _ ?_
      try clear h0 K_h0
      refine T.cond rfl (fun _ => ?_) (fun h => by cases h)
      refine T.seq_k (fun K_h0 h0 => ?_)
      refine T.regi hm ?_
      simp only [↓reduceIte, namesOf, List.any, I.names, aopsI, astep, ev, setd, List.set, List.getD, List.getElem?_cons_zero, List.getElem?_cons_succ, List.length_nil, then_normal, Option.getD_some, Bool.or_false, Bool.false_eq_true, up_zero, binv, ↓opt_def, eq_self, e19_11, Bool.bne_false]
      refine h0 _ _ ?_
      try clear h0 K_h0
      exact T.ret (Fin.ret rfl ⟨rfl, rfl⟩)
    have e1 : decide (long < 1) = false := decide_eq_false c1
    by_cases c2 : long > 1099511627776
    · have e2 : decide (long > 1099511627776) = true := decide_eq_true c2
      refine T.seq_k (fun K_h0 h0 => ?_)
      refine T.regi hm ?_
      simp only [↓reduceIte, namesOf, List.any, I.names, aopsI, astep, ev, setd, List.set, List.getD, List.getElem?_cons_zero, List.getElem?_cons_succ, then_normal, Option.getD_some, Bool.or_false, Bool.false_eq_true, up_zero, binv, ↓opt_def, eq_self, reduceCtorEq, e1, e2]
      refine h0 _ _ ?_
      try clear h0 K_h0
      refine T.cond rfl (fun _ => ?_) (fun h => by cases h)
      refine T.seq_k (fun K_h0 h0 => ?_)
      refine T.regi hm ?_
      simp only [↓reduceIte, namesOf, List.any, I.names, aopsI, astep, ev, setd, List.set, List.getD, List.getElem?_cons_zero, List.getElem?_cons_succ, List.length_nil, then_normal, Option.getD_some, Bool.or_false, Bool.false_eq_true, up_zero, binv, ↓opt_def, eq_self, e19_11, Bool.bne_false]
      refine h0 _ _ ?_
      try clear h0 K_h0
      exact T.ret (Fin.ret rfl ⟨rfl, rfl⟩)
    have e2 : decide (long > 1099511627776) = false := decide_eq_false c2
    by_cases c3 : at_ < 2
    · have e3 : decide (at_ < 2) = true := decide_eq_true c3
      refine T.seq_k (fun K_h0 h0 => ?_)
      refine T.regi hm ?_
      simp only [↓reduceIte, namesOf, List.any, I.names, aopsI, astep, ev, setd, List.set, List.getD, List.getElem?_cons_zero, List.getElem?_cons_succ, then_normal, Option.getD_some, Bool.or_false, Bool.false_eq_true, up_zero, binv, ↓opt_def, eq_self, reduceCtorEq, e1, e2, e3]
      refine h0 _ _ ?_
      try clear h0 K_h0
      refine T.cond rfl (fun _ => ?_) (fun h => by cases h)
      refine T.seq_k (fun K_h0 h0 => ?_)
      refine T.regi hm ?_
      simp only [↓reduceIte, namesOf, List.any, I.names, aopsI, astep, ev, setd, List.set, List.getD, List.getElem?_cons_zero, List.getElem?_cons_succ, List.length_nil, then_normal, Option.getD_some, Bool.or_false, Bool.false_eq_true, up_zero, binv, ↓opt_def, eq_self, e19_11, Bool.bne_false]
      refine h0 _ _ ?_
      try clear h0 K_h0
      exact T.ret (Fin.ret rfl ⟨rfl, rfl⟩)
    have e3 : decide (at_ < 2) = false := decide_eq_false c3
    by_cases c4 : at_ > 8
    · have e4 : decide (at_ > 8) = true := decide_eq_true c4
      refine T.seq_k (fun K_h0 h0 => ?_)
      refine T.regi hm ?_
      simp only [↓reduceIte, namesOf, List.any, I.names, aopsI, astep, ev, setd, List.set, List.getD, List.getElem?_cons_zero, List.getElem?_cons_succ, then_normal, Option.getD_some, Bool.or_false, Bool.false_eq_true, up_zero, binv, ↓opt_def, eq_self, reduceCtorEq, e1, e2, e3, e4]
      refine h0 _ _ ?_
      try clear h0 K_h0
      refine T.cond rfl (fun _ => ?_) (fun h => by cases h)
      refine T.seq_k (fun K_h0 h0 => ?_)
      refine T.regi hm ?_
      simp only [↓reduceIte, namesOf, List.any, I.names, aopsI, astep, ev, setd, List.set, List.getD, List.getElem?_cons_zero, List.getElem?_cons_succ, List.length_nil, then_normal, Option.getD_some, Bool.or_false, Bool.false_eq_true, up_zero, binv, ↓opt_def, eq_self, e19_11, Bool.bne_false]
      refine h0 _ _ ?_
      try clear h0 K_h0
      exact T.ret (Fin.ret rfl ⟨rfl, rfl⟩)
    have e4 : decide (at_ > 8) = false := decide_eq_false c4
    have e5 : decide (RisM l) = false := decide_eq_false fun h => by
      rcases hb' with h' | h' | h' | h' | h'
      · exact c1 h'
      · exact c2 h'
      · exact c3 h'
      · exact c4 h'
      · exact h' h
    refine T.seq_k (fun K_h0 h0 => ?_)
    refine T.regi hm ?_
    simp only [↓reduceIte, namesOf, List.any, I.names, aopsI, astep, ev, setd, List.set, List.getD, List.getElem?_cons_zero, List.getElem?_cons_succ, then_normal, Option.getD_some, Bool.or_false, Bool.false_eq_true, up_zero, binv, ↓opt_def, eq_self, e1, e2, e3, e4, e5, Bool.not_false]
    refine h0 _ _ ?_
    try clear h0 K_h0
    refine T.cond rfl (fun _ => ?_) (fun h => by cases h)
    refine T.seq_k (fun K_h0 h0 => ?_)
    refine T.regi hm ?_
    simp only [↓reduceIte, namesOf, List.any, I.names, aopsI, astep, ev, setd, List.set, List.getD, List.getElem?_cons_zero, List.getElem?_cons_succ, List.length_nil, then_normal, Option.getD_some, Bool.or_false, Bool.false_eq_true, up_zero, binv, ↓opt_def, eq_self, e19_11, Bool.bne_false]
    refine h0 _ _ ?_
    try clear h0 K_h0
    exact T.ret (Fin.ret rfl ⟨rfl, rfl⟩)
  have hb' := of_decide_eq_false hb
  have c1 : ¬ long < 1 := fun h => hb' (.inl h)
  have c2 : ¬ long > 1099511627776 := fun h => hb' (.inr (.inl h))
  have c3 : ¬ at_ < 2 := fun h => hb' (.inr (.inr (.inl h)))
  have c4 : ¬ at_ > 8 := fun h => hb' (.inr (.inr (.inr (.inl h))))
  have c5 : RisM l := Classical.byContradiction fun h => hb' (.inr (.inr (.inr (.inr h))))
  have e1 : decide (long < 1) = false := decide_eq_false c1
  have e2 : decide (long > 1099511627776) = false := decide_eq_false c2
  have e3 : decide (at_ < 2) = false := decide_eq_false c3
  have e4 : decide (at_ > 8) = false := decide_eq_false c4
  have e5 : decide (RisM l) = true := decide_eq_true c5
  try simp only [List.getElem?_cons_zero, List.getElem?_cons_succ]
  refine h1 _ _ ?_
  try clear h1 K_h1
  refine T.seq_k (fun K_h1 h1 => ?_)
  refine T.regi hm ?_
  simp only [↓reduceIte, namesOf, List.any, I.names, aopsI, astep, ev, setd, List.set, List.getD, List.getElem?_cons_zero, List.getElem?_cons_succ, then_normal, Option.getD_some, Bool.or_false, Bool.false_eq_true, up_zero, List.map_cons, List.map_nil]
  refine (ris19_ok (by omega)).mono ?_
  rintro v σ3 ⟨rfl, rfl⟩
  try simp only [↓reduceIte, namesOf, List.any, I.names, aops, aopsI, aopsT, qstep, CPt, qget, Tbl.get, astep, ev, setd, List.set, List.getD, List.getElem?_cons_zero, List.getElem?_cons_succ, List.getElem?_nil, List.cons_append, List.nil_append, List.length_cons, List.length_nil, List.replicate, then_normal, inBlock_normal, Option.getD_some, Option.getD_none, Bool.or_false, Bool.or_true, Bool.true_or, Bool.false_or, Bool.false_eq_true, if_false, if_true, up_zero, Nat.reduceAdd, Nat.reduceSub, binv, ↓opt_def, AV.isAny, AV.cells, ldc, List.map_cons, List.map_nil, St.set_next, St.set_same, St.up_next, Int.natCast_nonneg, lt_len, le_len, Int.toNat_natCast, true_and, and_true, eq_self, reduceCtorEq, decide_true, List.length_singleton, er_int, er_bool, er_str, srcR, up_zero]
  refine h1 _ _ ?_
  try clear h1 K_h1
  refine T.seq_k (fun K_h1 h1 => ?_)
  refine T.seq_k (fun K_h0 h0 => ?_)
  refine T.regi hm ?_
  simp only [↓reduceIte, namesOf, List.any, I.names, aopsI, astep, ev, setd, List.set, List.getD, List.getElem?_cons_zero, List.getElem?_cons_succ, then_normal, Option.getD_some, Bool.or_false, Bool.false_eq_true, up_zero, binv, ↓opt_def, eq_self, e1, e2, e3, e4, e5, Bool.not_true]
  refine h0 _ _ ?_
  try clear h0 K_h0
  refine T.cond rfl (fun h => by cases h) (fun _ => T.skip ?_)
  refine h1 _ _ ?_
  try clear h1 K_h1
  refine T.seq_k (fun K_h1 h1 => ?_)
  obtain ⟨n, hn⟩ : ∃ n : Nat, at_ = (n : Int) := ⟨at_.toNat, by omega⟩
  subst hn
  refine T.regi hm ?_
  simp only [↓reduceIte, namesOf, List.any, I.names, aopsI, astep, ev, setd, List.set, List.getD, List.getElem?_cons_zero, List.getElem?_cons_succ, then_normal, Option.getD_some, Bool.or_false, Bool.false_eq_true, up_zero, List.map_cons, List.map_nil, eq_self, e19_nn, Bool.bne_false]
  refine (g19_ok (by omega) (by omega) (by omega) (by omega) hok).mono ?_
  rintro v σ4 ⟨out2, hG2, rfl, rfl⟩
  have ho : out2 = out := hG2.uniq (by simpa using hG)
  subst ho
  try simp only [↓reduceIte, namesOf, List.any, I.names, aops, aopsI, aopsT, qstep, CPt, qget, Tbl.get, astep, ev, setd, List.set, List.getD, List.getElem?_cons_zero, List.getElem?_cons_succ, List.getElem?_nil, List.cons_append, List.nil_append, List.length_cons, List.length_nil, List.replicate, then_normal, inBlock_normal, Option.getD_some, Option.getD_none, Bool.or_false, Bool.or_true, Bool.true_or, Bool.false_or, Bool.false_eq_true, if_false, if_true, up_zero, Nat.reduceAdd, Nat.reduceSub, binv, ↓opt_def, AV.isAny, AV.cells, ldc, List.map_cons, List.map_nil, St.set_next, St.set_same, St.up_next, Int.natCast_nonneg, lt_len, le_len, Int.toNat_natCast, true_and, and_true, eq_self, reduceCtorEq, decide_true, List.length_singleton, er_int, er_bool, er_str, srcR, up_zero]
  refine (metas_ok ?_).mono ?_
  · rcases hG with ⟨_, rfl⟩ | ⟨k, _, rfl⟩
    · simp
    · exact Nat.le_trans (List.length_take_le' _ _) (Nat.le_trans (List.length_filter_le _ _) hl)
  rintro v σ5 ⟨rfl, rfl⟩
  try simp only [eq_self, decide_true, decide_true]
  refine h1 _ _ ?_
  try clear h1 K_h1
  exact T.ret (Fin.ret rfl ⟨rfl, rfl⟩)

end Go.VL

namespace Go.VL

open Go.Proofs

def fts (P : Program) (t : TypeId) : Option (List TypeId) := match P.underlying t with
  | some (.struct fs) => some (fs.toList.map (·.type))
  | _ => none

def HasTs (P : Program) (n : Nat) : List TypeId → List AV → Prop
  | [], xs => xs = []
  | t :: r, xs => ∃ ys zs, xs = ys ++ zs ∧ HasT P n t ys ∧ HasTs P n r zs

theorem hasTs_of {P : Program} {n : Nat} : ∀ {fs : List Field} {xs : List AV}, HasF P n fs xs → HasTs P n (fs.map (·.type)) xs
  | [], xs, h => by rw [hasF_nil] at h; exact h
  | f :: r, xs, h => by
    rw [hasF_cons] at h
    obtain ⟨ys, zs, e, h1, h2⟩ := h
    exact ⟨ys, zs, e, h1, hasTs_of h2⟩

theorem has_fields {P : Program} {n : Nat} {t : TypeId} {ts : List TypeId} {y : AV} (hf : fts P t = some ts) (h : HasE P (n + 1) t y) : ∃ zs, y = .agg zs ∧ HasTs P n ts zs := by
  unfold fts at hf
  split at hf
  · rename_i fs hu
    simp only [Option.some.injEq] at hf; subst hf
    rw [hasE_iff] at h
    obtain ⟨h1, h2, _⟩ := h
    obtain ⟨zs, rfl⟩ := h2 (by unfold isStruct; rw [hu])
    rw [hasT_succ, hu] at h1
    exact ⟨zs, rfl, hasTs_of h1⟩
  · cases hf

theorem hasT_int {P : Program} {n : Nat} {t : TypeId} {k : IntKind} {xs : List AV} (hu : P.underlying t = some (.int k)) (h : HasT P (n + 1) t xs) : ∃ m, xs = [.int k m] ∧ k.min ≤ m ∧ m ≤ k.max := by
  rw [hasT_succ, hu] at h; exact h

theorem maxLen_eq : maxLen = 9223372036854775807 := by decide

theorem u64_nat {m : Int} (h1 : IntKind.u64.min ≤ m) (h2 : m ≤ IntKind.u64.max) : ∃ n : Nat, m = (n : Int) ∧ n < 18446744073709551616 := by
  have h1' : 0 ≤ m := h1
  have h2' : m ≤ 18446744073709551615 := h2
  exact ⟨m.toNat, by omega, by omega⟩

end Go.VL

namespace Go.Proofs.Ytmbbeldgfhnkbaa

open Go.RowKit Go.VL

theorem own : ownKnob Try.prog.godebug = none := by kernel_rfl

theorem laidOut : laidOutB Try.prog = true := by kernel_rfl

end Go.Proofs.Ytmbbeldgfhnkbaa

namespace Go.VL

open Go.Proofs

/-- a span whose numbers fit -/
def Sp.ok (s : Sp) : Prop := s.tr < 18446744073709551616 ∧ s.id < 18446744073709551616 ∧ (-9223372036854775808 ≤ s.st ∧ s.st ≤ 9223372036854775807) ∧ (-9223372036854775808 ≤ s.en ∧ s.en ≤ 9223372036854775807) ∧ s.da.length ≤ 9223372036854775807

def Tc.ok (t : Tc) : Prop := t.id < 18446744073709551616 ∧ t.sp.length ≤ 9223372036854775807 ∧ ∀ s ∈ t.sp, s.ok

end Go.VL

namespace Go.VL

open Go.Proofs

set_option maxRecDepth 100000 in
theorem meta_fts : fts Try.prog 119 = some [51, 3, 2, 2, 3, 3] := by kernel_rfl

theorem metas_ty : Try.prog.underlying 40 = some (.slice 119) := by kernel_rfl

theorem u64_ty : Try.prog.underlying 51 = some (.int .u64) := by kernel_rfl

theorem i64_ty : Try.prog.underlying 2 = some (.int .i64) := by kernel_rfl

theorem int_ty : Try.prog.underlying 3 = some (.int .i64) := by kernel_rfl

theorem meta_of {n : Nat} {y : AV} (h : HasE Try.prog (n + 2) 119 y) : ∃ m : Mt, y = .agg (mtC m) ∧ MtOk m := by
  obtain ⟨zs, hy, hf⟩ := has_fields meta_fts h
  clear h
  subst hy
  have h := hf
  clear hf
  obtain ⟨y1, z1, rfl, k1, h⟩ := h
  obtain ⟨y2, z2, rfl, k2, h⟩ := h
  obtain ⟨y3, z3, rfl, k3, h⟩ := h
  obtain ⟨y4, z4, rfl, k4, h⟩ := h
  obtain ⟨y5, z5, rfl, k5, h⟩ := h
  obtain ⟨y6, z6, rfl, k6, h⟩ := h
  have hz : z6 = [] := h
  subst hz
  obtain ⟨m1, rfl, a1, b1⟩ := hasT_int u64_ty k1
  obtain ⟨m2, rfl, a2, b2⟩ := hasT_int int_ty k2
  obtain ⟨m3, rfl, a3, b3⟩ := hasT_int i64_ty k3
  obtain ⟨m4, rfl, a4, b4⟩ := hasT_int i64_ty k4
  obtain ⟨m5, rfl, a5, b5⟩ := hasT_int int_ty k5
  obtain ⟨m6, rfl, a6, b6⟩ := hasT_int int_ty k6
  obtain ⟨n1, rfl, c1⟩ := u64_nat a1 b1
  exact ⟨⟨n1, m2, m3, m4, m5, m6⟩, rfl, a4, b4⟩

theorem metas_of {n : Nat} : ∀ {ys : List AV}, (∀ y ∈ ys, HasE Try.prog (n + 2) 119 y) → ∃ l : List Mt, ys = mtsAV l ∧ ∀ m ∈ l, MtOk m
  | [], _ => ⟨[], rfl, fun _ h => by cases h⟩
  | y :: r, h => by
    obtain ⟨s, rfl, hs⟩ := meta_of (h y (by simp))
    obtain ⟨l, rfl, hl⟩ := metas_of (fun z hz => h z (List.mem_cons_of_mem _ hz))
    exact ⟨s :: l, rfl, fun x hx => by rcases List.mem_cons.1 hx with rfl | hx; exact hs; exact hl x hx⟩

end Go.VL

namespace Go.Proofs.Ytmbbeldgfhnkbaa

open Go.ChangeShapes Go.WideShapes Go.ChangeAt Go.RowKit Go.VL

set_option maxRecDepth 100000 in
theorem planGroups_lifted (os : Os) (started : os.Started) (H : Type) (enc : TypeId × Value → H) :
    ReturnsInHanded {} Try.checked os n_planGroups .any (Rows.planGroupsSpec.pre6 enc Try.prog Try.f5 Rows.planGroupsRow.domain false) (Rows.planGroupsSpec.post enc Try.prog Try.f5 false true false false) := by
  refine returnsInHanded_of_change (C := Try.checked) own started (by kernel_rfl) Try.func5
    (ChangeSpec.witness6 (enc := enc) (C := Try.checked) false ⟨#[], #[.slice none 0 0, .int .i64 0, .int .i64 0], []⟩ 8 (by kernel_rfl) (by kernel_rfl) (by kernel_rfl) (by kernel_rfl)) ?_
  intro W base args ds gs before hval0 hW _ _
  refine law_calls 3 (tb := 4) laidOut (by kernel_rfl) rfl (by kernel_rfl) (by kernel_rfl) (fun ds hds => ?_) (fun xs hxs => ?_) hval0 hW
  · match ds, hds with
    | [_d1, _d2, _d3], _ => rfl
  · have hxs' : HasAll Try.prog 3 [_, _, _] xs := hxs
    cases hxs' with
    | cons h1 r1 =>
    cases r1 with
    | cons h2 r2 =>
    cases r2 with
    | cons h3 r3 =>
    cases r3
    obtain ⟨ys, rfl, hlen, h1⟩ := has_slice metas_ty h1
    obtain ⟨l, rfl, hl⟩ := metas_of (n := 0) h1
    rw [maxLen_eq, mts_len] at hlen
    obtain ⟨long, rfl, _⟩ := has_int i64_ty h2
    obtain ⟨most, rfl, _⟩ := has_int int_ty h3
    exact (planGroups_ok hlen hl).mono fun v _ ⟨e, _⟩ => e

theorem planGroups_holds : Rows.PlanGroupsSaid :=
  OpenClaim.holds_of_wide n_planGroups Try.f5 rfl rfl rfl rfl rfl rfl rfl ⟨rfl, rfl, rfl, rfl, rfl⟩ rfl rfl rfl rfl rfl (by kernel_rfl) Try.func5 (by kernel_rfl)
    (of_decide_eq_true (by kernel_rfl)) (by unfold Func.isWrapper; first | (rw [if_pos (by decide +kernel)]; kernel_rfl) | (rw [if_neg (by decide +kernel)]; exact ⟨rfl, rfl⟩))
    (fun os started H enc _ => planGroups_lifted os started H enc)

end Go.Proofs.Ytmbbeldgfhnkbaa
