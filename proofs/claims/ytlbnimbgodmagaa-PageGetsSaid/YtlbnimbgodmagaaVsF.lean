/- The plain law of IndexOf: what is canonical by the code is so by the document. -/
import Derived.Test.YtlbnimbgodmagaaVsE
namespace Go.VL
open Go.Proofs

theorem cmp3_neg {a b : Int} : cmp3 a b < 0 ↔ a < b := by
  unfold cmp3; split
  · omega
  · split <;> omega
theorem cmp3_zero {a b : Int} : cmp3 a b = 0 ↔ a = b := by
  unfold cmp3; split
  · omega
  · split <;> omega
theorem cmp3_self (a : Int) : cmp3 a a = 0 := by unfold cmp3; simp
theorem cmp_ahead (a b : Sp) : decide (cmpSp a b < 0) = aheadS a b := by
  rw [Bool.eq_iff_iff, decide_eq_true_eq]
  unfold cmpSp cmpS aheadS
  simp only [orI]
  by_cases h1 : a.st = b.st
  · have e1 : cmp3 a.st b.st = 0 := cmp3_zero.2 h1
    by_cases h2 : a.id = b.id
    · have e2 : cmp3 (a.id : Int) (b.id : Int) = 0 := cmp3_zero.2 (by omega)
      by_cases h3 : a.tr = b.tr
      · have e3 : cmp3 (a.tr : Int) (b.tr : Int) = 0 := cmp3_zero.2 (by omega)
        simp only [cmp3_self, h1, h2, h3, if_true, ne_eq, not_true_eq_false, if_false, decide_eq_true_eq]; omega
      · have e3 : ¬ cmp3 (a.tr : Int) (b.tr : Int) = 0 := by rw [cmp3_zero]; omega
        simp only [cmp3_self, e3, h1, h2, if_true, ne_eq, not_true_eq_false, if_false, decide_eq_true_eq, cmp3_neg]; omega
    · have e2 : ¬ cmp3 (a.id : Int) (b.id : Int) = 0 := by rw [cmp3_zero]; omega
      simp only [cmp3_self, e2, h1, h2, if_true, ne_eq, not_true_eq_false, not_false_eq_true, if_false, decide_eq_true_eq, cmp3_neg]; omega
  · have e1 : ¬ cmp3 a.st b.st = 0 := by rw [cmp3_zero]; exact h1
    simp only [e1, h1, if_true, ne_eq, not_false_eq_true, if_false, decide_eq_true_eq, cmp3_neg]

def docOne (t : Tc) : Bool := decide (1 ≤ t.sp.length) && decide (t.sp.length ≤ 100) && t.sp.all (fun s => mayS s && decide (s.tr = t.id)) && decide (gatherL t.sp = t.sp)

theorem ok_at {t : Tc} {i : Nat} (hi : i < t.sp.length) : okAt t i = true ↔ t.sp[i].tr = t.id ∧ mayS t.sp[i] = true ∧ (∀ j (hj : j < i), t.sp[j].id ≠ t.sp[i].id) ∧ ∀ j (hj : j + 1 = i), aheadS t.sp[j] t.sp[i] = true := by
  unfold okAt
  have e : t.sp[i]? = some t.sp[i] := by simp [hi]
  rw [e]
  simp only [Bool.and_eq_true, decide_eq_true_eq, Bool.not_eq_true', Bool.or_eq_true, beq_iff_eq, and_assoc]
  refine and_congr Iff.rfl (and_congr Iff.rfl (and_congr ?_ ?_))
  · constructor
    · intro h j hj he
      have : ((t.sp.take i).map Sp.id).contains t.sp[i].id = true := by
        simp only [List.contains_iff_mem, List.mem_map]
        refine ⟨t.sp[j], ?_, he⟩
        have : (t.sp.take i)[j]? = some t.sp[j] := by rw [List.getElem?_take, if_pos hj]; simp [show j < t.sp.length by omega]
        exact List.mem_of_getElem? this
      rw [h] at this; cases this
    · intro h
      rw [Bool.eq_false_iff]
      intro hc
      simp only [List.contains_iff_mem, List.mem_map] at hc
      obtain ⟨s, hs, he⟩ := hc
      obtain ⟨j, hj⟩ := List.getElem?_of_mem hs
      rw [List.getElem?_take] at hj
      split at hj
      · rename_i hji
        have : t.sp[j]'(by omega) = s := by simpa [show j < t.sp.length by omega] using hj
        exact h j hji (by rw [this]; exact he)
      · cases hj
  · cases i with
    | zero => exact ⟨fun _ j hj => by omega, fun _ => .inl rfl⟩
    | succ i =>
      have e2 : t.sp[i]? = some (t.sp[i]'(by omega)) := by simp [show i < t.sp.length by omega]
      simp only [Nat.add_sub_cancel, e2, Nat.succ_ne_zero, false_or]
      rw [cmp_ahead]
      exact ⟨fun h j hj => by have : j = i := by omega
                              subst this; exact h, fun h => h i rfl⟩

theorem one_doc (t : Tc) : oneB t = docOne t := by
  rw [Bool.eq_iff_iff]
  unfold oneB docOne
  simp only [Bool.and_eq_true, decide_eq_true_eq, List.all_eq_true, List.mem_range]
  constructor
  · rintro ⟨⟨h1, h2⟩, h3⟩
    have hk : ∀ i (hi : i < t.sp.length), _ := fun i hi => (ok_at hi).1 (h1 i hi)
    have htr : ∀ s ∈ t.sp, s.tr = t.id := by
      intro s hs
      obtain ⟨i, hi, rfl⟩ := List.getElem_of_mem hs
      exact (hk i hi).1
    refine ⟨⟨⟨h2, h3⟩, fun s hs => ?_⟩, (gather_id htr).2 ⟨fun i j hi hj hij => (hk j hj).2.2.1 i hij, ?_⟩⟩
    · obtain ⟨i, hi, rfl⟩ := List.getElem_of_mem hs
      exact ⟨(hk i hi).2.1, (hk i hi).1⟩
    · rw [SortedS, List.pairwise_iff_getElem]
      intro i j hi hj hij
      induction j with
      | zero => omega
      | succ j ih =>
        have hst := (hk (j + 1) hj).2.2.2 j rfl
        by_cases hx : i = j
        · subst hx; exact hst
        · exact ahead_trans (ih (by omega) (by omega)) hst
  · rintro ⟨⟨⟨h2, h3⟩, h1⟩, hg⟩
    have htr : ∀ s ∈ t.sp, s.tr = t.id := fun s hs => (h1 s hs).2
    obtain ⟨hap, hso⟩ := (gather_id htr).1 hg
    refine ⟨⟨fun i hi => (ok_at hi).2 ⟨(h1 _ (List.getElem_mem hi)).2, (h1 _ (List.getElem_mem hi)).1, fun j hj => hap j i (by omega) hi hj, fun j hj => ?_⟩, h2⟩, h3⟩
    exact List.pairwise_iff_getElem.1 hso j i (by omega) hi (by omega)

theorem is_doc (l : List Tc) : isB l = risB l := by
  unfold isB risB
  congr 1
  funext i
  unfold isAt risAt
  cases l[i]? with
  | none => rfl
  | some t =>
    simp only
    rw [one_doc]
    unfold docOne
    generalize (i == 0 || (match l[i - 1]? with | some p => decide (p.id < t.id) | none => false)) = b
    cases b <;> simp only [Bool.and_true, Bool.and_false, Bool.false_and]

/-- one more than the last place where a number is no greater -/
def lastLe (xs : List Int) (id : Int) : Nat → Nat
  | 0 => 0
  | k + 1 => match xs[k]? with
    | some a => if a ≤ id then k + 1 else lastLe xs id k
    | none => lastLe xs id k
theorem lastLe_yes {xs : List Int} {id : Int} {k : Nat} (hk : k < xs.length) (h : xs[k] ≤ id) : lastLe xs id (k + 1) = k + 1 := by
  unfold lastLe
  have e : xs[k]? = some xs[k] := by simp [hk]
  rw [e]; simp [h]
theorem lastLe_no {xs : List Int} {id : Int} {k : Nat} (hk : k < xs.length) (h : ¬ xs[k] ≤ id) : lastLe xs id (k + 1) = lastLe xs id k := by
  conv => lhs; unfold lastLe
  have e : xs[k]? = some xs[k] := by simp [hk]
  rw [e]; simp only; rw [if_neg h]
theorem up_mono {xs : List Int} (h : Up xs) : ∀ i j (hi : i < xs.length) (hj : j < xs.length), i < j → xs[i] < xs[j] := by
  intro i j hi hj hij
  induction j with
  | zero => omega
  | succ j ih =>
    have := h j hj
    by_cases hx : i = j
    · subst hx; exact this
    · have := ih (by omega) (by omega); omega
theorem find_doc {xs : List Int} (h : Up xs) {id : Int} {c : Nat} (hc : c ≤ xs.length) (hlo : ∀ (_ : c ≤ xs.length) (h0 : 0 < c), xs[c - 1]'(by omega) ≤ id) (hhi : ∀ h : c < xs.length, xs[c] > id) : lastLe xs id xs.length = c := by
  have h1 : ∀ n, c ≤ n → n ≤ xs.length → lastLe xs id n = lastLe xs id c := by
    intro n
    induction n with
    | zero => intro h0 _; have : c = 0 := by omega
              subst this; rfl
    | succ n ih =>
      intro hcn hn
      by_cases hx : c = n + 1
      · rw [hx]
      · rw [lastLe_no (by omega) ?_, ih (by omega) (by omega)]
        have h2 := hhi (by omega)
        by_cases hy : c = n
        · subst hy; omega
        · have := up_mono h c n (by omega) (by omega) (by omega); omega
  rw [h1 _ hc (Nat.le_refl _)]
  cases c with
  | zero => rfl
  | succ c => exact lastLe_yes (by omega) (by have := hlo hc (by omega); simpa using this)

theorem rfindB_ok {xs : List Int} {g : Ver} {id : Int} {σ : St} (hl : xs.length ≤ 9223372036854775807) : ACalls Try.prog n_rfindB [.sl (nums .u64 xs) g, .int .u64 id] σ (fun v σ' => v = .int .i64 ((lastLe xs id xs.length : Int) - 1) ∧ σ' = σ) := by
  refine s_rfindB (fun wf => ?_)
  unfold c_rfindB
  refine T.seq_k (fun K_h1 h1 => ?_)
  refine T.regi hm ?_
  simp only [↓reduceIte, namesOf, List.any, I.names, aopsI, astep, ev, setd, List.set, List.cons_append, List.nil_append, List.length_cons, List.length_nil, List.replicate, then_normal, Bool.or_false, Bool.false_eq_true, up_zero, Nat.reduceAdd, Nat.reduceSub]
  refine h1 _ _ ?_
  try clear h1 K_h1
  refine T.seq_k (fun K_h1 h1 => ?_)
  refine T.regi hm ?_
  simp only [↓reduceIte, namesOf, List.any, I.names, aopsI, astep, ev, setd, List.set, then_normal, Bool.or_false, Bool.false_eq_true, up_zero]
  refine h1 _ _ ?_
  try clear h1 K_h1
  refine T.seq_k (fun K_h1 h1 => ?_)
  refine T.seq_k (fun K_h2 h2 => ?_)
  refine T.regi hm ?_
  simp only [↓reduceIte, namesOf, List.any, I.names, aopsI, astep, ev, setd, List.set, then_normal, Bool.or_false, Bool.false_eq_true, up_zero]
  refine h2 _ _ ?_
  try clear h2 K_h2
  refine T.block ?_
  refine T.gh (Gh.keep [0, 1, 5, 6]) ?_
  refine T.loopi (fun i ρ σ' => σ' = σ ∧ ρ = [.sl (nums .u64 xs) g, .int .u64 id, .any, .any, .any, .int .i64 ((lastLe xs id i : Int) - 1), .int .i64 (i : Int)] ++ List.replicate 14 .any)
    xs.length 0 (Nat.zero_le _) ⟨rfl, rfl⟩ ?_
  rintro i ρ σ' hi ⟨rfl, rfl⟩
  refine T.seq_k (fun K_h2 h2 => ?_)
  refine T.seq_k (fun K_h3 h3 => ?_)
  refine T.regi hm ?_
  simp only [↓reduceIte, namesOf, List.any, I.names, aopsI, astep, ev, setd, List.set, List.getD, List.getElem?_cons_zero, List.getElem?_cons_succ, List.cons_append, List.nil_append, List.replicate, then_normal, Option.getD_some, Bool.or_false, Bool.false_eq_true, up_zero, binv, ↓opt_def, lt_len, eq_self, nums_len]
  refine h3 _ _ ?_
  try clear h3 K_h3
  refine T.cond rfl (fun hb => ?_) (fun hb => ?_)
  · refine T.skip ?_
    refine h2 _ _ ?_
    try clear h2 K_h2
    have hil : i < xs.length := by simpa using hb
    clear hb
    have hw := inc64 hil hl
    refine T.seq_k (fun K_h2 h2 => ?_)
    refine T.block ?_
    refine T.seq_k (fun K_h3 h3 => ?_)
    refine T.regi hm ?_
    simp only [↓reduceIte, namesOf, List.any, I.names, aopsI, astep, ev, setd, List.set, List.getD, List.getElem?_cons_zero, List.getElem?_cons_succ, List.cons_append, List.nil_append, List.length_cons, List.length_nil, List.replicate, then_normal, Option.getD_some, Bool.or_false, Bool.false_eq_true, up_zero, Nat.reduceAdd, binv, ↓opt_def, AV.cells, ldc, Int.natCast_nonneg, lt_len, Int.toNat_natCast, true_and, and_true, eq_self, decide_true, nums_len, nums_get .u64 hil, hil]
    refine h3 _ _ ?_
    try clear h3 K_h3
    by_cases hle : xs[i] ≤ id
    · refine T.cond (b := true) (by simp [ev, hle]) (fun _ => ?_) (fun h => by cases h)
      refine T.regi hm ?_
      simp only [↓reduceIte, namesOf, List.any, I.names, aopsI, astep, ev, setd, List.set, List.getD, List.getElem?_cons_zero, List.getElem?_cons_succ, List.cons_append, List.nil_append, List.replicate, then_normal, inBlock_normal, Option.getD_some, Bool.or_false, Bool.false_eq_true, up_zero]
      refine h2 _ _ ?_
      try clear h2 K_h2
      refine T.regi hm ?_
      simp only [↓reduceIte, namesOf, List.any, I.names, aopsI, astep, ev, setd, List.set, List.getD, List.getElem?_cons_zero, List.getElem?_cons_succ, List.cons_append, List.nil_append, List.replicate, then_normal, Option.getD_some, Bool.or_false, Bool.false_eq_true, up_zero, binv, ↓opt_def, eq_self, hw]
      refine ⟨hil, _, _, Gh.keep [0, 1, 5, 6], rfl, ?_⟩
      rw [lastLe_yes hil hle]
      have : (((i + 1 : Nat) : Int) - 1) = (i : Int) := by omega
      rw [this]; rfl
    · refine T.cond (b := false) (by simp [ev, hle]) (fun h => by cases h) (fun _ => T.skip ?_)
      try simp only [List.cons_append, List.nil_append, List.replicate, then_normal, inBlock_normal, inBlock_normal]
      refine h2 _ _ ?_
      try clear h2 K_h2
      refine T.regi hm ?_
      simp only [↓reduceIte, namesOf, List.any, I.names, aopsI, astep, ev, setd, List.set, List.getD, List.getElem?_cons_zero, List.getElem?_cons_succ, List.cons_append, List.nil_append, List.replicate, then_normal, Option.getD_some, Bool.or_false, Bool.false_eq_true, up_zero, binv, ↓opt_def, eq_self, hw]
      exact ⟨hil, _, _, Gh.keep [0, 1, 5, 6], rfl, by rw [lastLe_no hil hle]; rfl⟩
  · refine T.exit ?_
    have : i = xs.length := by simp at hb; omega
    subst this
    try simp only [List.cons_append, List.nil_append, List.replicate, then_normal, inBlock_exit, then_exit]
    refine h1 _ _ ?_
    try clear h1 K_h1
    refine T.seq_k (fun K_h1 h1 => ?_)
    refine T.regi hm ?_
    simp only [↓reduceIte, namesOf, List.any, I.names, aopsI, astep, ev, setd, List.set, List.getD, List.getElem?_cons_zero, List.getElem?_cons_succ, then_normal, Option.getD_some, Bool.or_false, Bool.false_eq_true, up_zero]
    refine h1 _ _ ?_
    try clear h1 K_h1
    exact T.ret (Fin.ret rfl ⟨rfl, rfl⟩)
end Go.VL
