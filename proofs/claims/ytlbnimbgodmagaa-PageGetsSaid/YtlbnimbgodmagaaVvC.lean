/- Contracts: a trace's bytes in a page; a page's bytes. -/
import Derived.Test.YtlbnimbgodmagaaVvB
namespace Go.VL
open Go.Proofs

def trB (t : Tc) : List UInt8 := beB 8 t.id ++ (beB 4 (spansB t.sp).length ++ spansB t.sp)
theorem spansB_len (l : List Sp) : (spansB l).length = 2 + (l.flatMap spanB).length := by simp [spansB, beB_len]
theorem trB_len (t : Tc) : (trB t).length = 12 + (spansB t.sp).length := by simp [trB, beB_len]; omega
def pageB (l : List Tc) : List UInt8 := sealB (beB 2 l.length ++ l.flatMap trB)

theorem pput1_ok {t : Tc} {σ : St} (hl : t.sp.length ≤ 1000) (hm : t.sp.all mayS = true) :
    ACalls Try.prog n_pput1 [.agg [.int .u64 (t.id : Int), .sl (spsAV t.sp) .none]] σ (fun v σ' => v = .tup [.sl (bytesAV (trB t)) .none, .nili] ∧ σ' = σ) := by
  refine s_pput1 (fun wf => ?_)
  unfold c_pput1
  have hall := hm
  have hm := VL.hm
  have hmem : ∀ s ∈ t.sp, s.da.length ≤ 200 := fun s hs => mayS_len (List.all_eq_true.1 hall s hs)
  have hfl : (t.sp.flatMap spanB).length ≤ 1000 * 234 := Nat.le_trans (spans_le hmem) (Nat.mul_le_mul_right _ hl)
  have hsl := spansB_len t.sp
  refine T.seq_k (fun K_h1 h1 => ?_)
  refine T.regi hm ?_
  simp only [↓reduceIte, namesOf, List.any, I.names, aopsI, astep, ev, setd, List.set, List.getD, List.getElem?_cons_zero, List.cons_append, List.nil_append, List.length_cons, List.length_nil, List.replicate, then_normal, Option.getD_some, Bool.or_false, Bool.false_eq_true, Nat.reduceAdd, Nat.reduceSub, AV.isAny, AV.cells, eq_self]
  have k0 : Like σ ((σ.up 3).set (σ.next + 0) (.obj [.int .u64 (t.id : Int), .sl (spsAV t.sp) .none])) := (Like.refl σ).box _
  have hb : ((σ.up 3).set (σ.next + 0) (.obj [.int .u64 (t.id : Int), .sl (spsAV t.sp) .none])).res (σ.next + 0) = some (.obj [.int .u64 (t.id : Int), .sl (spsAV t.sp) .none]) := by simp
  have ha : σ.next + 0 < ((σ.up 3).set (σ.next + 0) (.obj [.int .u64 (t.id : Int), .sl (spsAV t.sp) .none])).next := by simp
  generalize ((σ.up 3).set (σ.next + 0) (.obj [.int .u64 (t.id : Int), .sl (spsAV t.sp) .none])) = τ at k0 hb ha ⊢
  generalize σ.next + 0 = a at hb ha ⊢
  refine h1 _ _ ?_
  try clear h1 K_h1
  refine T.seq_k (fun K_h1 h1 => ?_)
  refine T.regi hm ?_
  simp only [↓reduceIte, namesOf, List.any, I.names, aopsI, astep, ev, setd, List.set, List.getD, List.getElem?_cons_zero, List.getElem?_cons_succ, then_normal, Option.getD_some, Bool.or_false, Bool.false_eq_true, up_zero, Nat.reduceAdd, ↓opt_def, ldc, List.map_cons, List.map_nil, hb]
  refine (spput_ok (by omega) (fun s hs => by have := hmem s hs; omega)).mono ?_
  rintro v τ1 ⟨rfl, rfl⟩
  rw [if_pos hall]
  try simp only [List.getElem?_cons_zero, List.getElem?_cons_succ]
  refine h1 _ _ ?_
  try clear h1 K_h1
  refine T.seq_k (fun K_h1 h1 => ?_)
  refine T.seq_k (fun K_h0 h0 => ?_)
  refine T.regi hm ?_
  simp only [↓reduceIte, namesOf, List.any, I.names, aopsI, astep, ev, setd, List.set, List.getD, List.getElem?_cons_zero, List.getElem?_cons_succ, then_normal, Option.getD_some, Bool.or_false, Bool.false_eq_true, up_zero, eq_self, eqIv, bne_self_eq_false]
  refine h0 _ _ ?_
  try clear h0 K_h0
  refine T.cond rfl (fun h => by cases h) (fun _ => T.skip ?_)
  refine h1 _ _ ?_
  try clear h1 K_h1
  have hnil : AV.sl [] .nil = .sl (bytesAV []) .nil := rfl
  refine T.seq_k (fun K_h1 h1 => ?_)
  rw [hnil]
  refine T.regi hm ?_
  simp only [↓reduceIte, namesOf, List.any, I.names, aopsI, astep, ev, setd, List.set, List.getD, List.getElem?_cons_zero, List.getElem?_cons_succ, then_normal, Option.getD_some, Bool.or_false, Bool.false_eq_true, up_zero, Nat.reduceAdd, ↓opt_def, ldc, List.map_cons, List.map_nil, hb]
  refine (wput_q (l := []) (w := 8) (by simp) rfl (fun h => by omega)).mono ?_
  rintro v τ2 ⟨rfl, rfl⟩
  rw [List.nil_append, ← hnil]
  try simp only [List.getElem?_cons_zero, List.getElem?_cons_succ]
  refine h1 _ _ ?_
  try clear h1 K_h1
  refine T.seq_k (fun K_h1 h1 => ?_)
  refine T.seq_k (fun K_h0 h0 => ?_)
  refine T.regi hm ?_
  simp only [↓reduceIte, namesOf, List.any, I.names, aopsI, astep, ev, setd, List.set, List.getD, List.getElem?_cons_zero, List.getElem?_cons_succ, then_normal, Option.getD_some, Bool.or_false, Bool.false_eq_true, up_zero, eq_self, eqIv, bne_self_eq_false]
  refine h0 _ _ ?_
  try clear h0 K_h0
  refine T.cond rfl (fun h => by cases h) (fun _ => T.skip ?_)
  refine h1 _ _ ?_
  try clear h1 K_h1
  have e2 := u64w (n := (spansB t.sp).length) (by omega)
  refine T.seq_k (fun K_h1 h1 => ?_)
  refine T.regi hm ?_
  simp only [↓reduceIte, namesOf, List.any, I.names, aopsI, astep, ev, setd, List.set, List.getD, List.getElem?_cons_zero, List.getElem?_cons_succ, then_normal, Option.getD_some, Bool.or_false, Bool.false_eq_true, up_zero, ↓opt_def, List.map_cons, List.map_nil, bytesAV_len, e2]
  refine (wput_ok (w := 4) (by rw [beB_len]; omega) rfl (fun _ => by omega)).mono ?_
  rintro v τ3 ⟨h, o1, rfl⟩
  have q := Tq.trans k0 (Tq.one o1)
  try simp only [List.getElem?_cons_zero, List.getElem?_cons_succ]
  refine h1 _ _ ?_
  try clear h1 K_h1
  have hat := q.ats
  have hle : decide ((8 + 4 + (spansB t.sp).length) * 1 ≤ 70368744177664 ∧ 8 + 4 + (spansB t.sp).length ≤ 4611686018427387904) = true := app_le (by omega)
  have hle2 : decide ((12 + (spansB t.sp).length) * 1 ≤ 70368744177664 ∧ 12 + (spansB t.sp).length ≤ 4611686018427387904) = true := app_le (by omega)
  refine T.seq_k (fun K_h1 h1 => ?_)
  refine T.regi hm ?_
  simp only [↓reduceIte, namesOf, List.any, I.names, aopsI, astep, ev, setd, List.set, List.getD, List.getElem?_cons_zero, List.getElem?_cons_succ, List.length_cons, List.length_nil, then_normal, Option.getD_some, Bool.or_false, Bool.or_true, Nat.reduceAdd, eq_self, srcOf, bytesAV_er, bytesAV_app, bytes_all, bytesAV_len, List.length_append, Bool.and_self, hat, beB_len, hle]
  refine h1 _ _ ?_
  try clear h1 K_h1
  have q2 := q.app (n := 6) (i := 2) (by omega)
  refine T.ret (Fin.quietw rfl (Wk.tup2 (Wk.sl _ _)) ⟨⟨nb_bytes _ _, trivial⟩, trivial, trivial⟩ (q2.quiet wf) ⟨?_, rfl⟩)
  rw [trB, List.append_assoc]; rfl

/-- what canonical traces are -/
theorem is_each {l : List Tc} (h : isB l = true) {t : Tc} (ht : t ∈ l) : oneB t = true := by
  obtain ⟨i, hi⟩ := List.getElem?_of_mem ht
  have hil := (List.getElem?_eq_some_iff.1 hi).1
  have := List.all_eq_true.1 h i (by simpa using hil)
  unfold isAt at this
  rw [hi] at this
  simp only [Bool.and_eq_true] at this
  exact this.1
theorem one_facts {t : Tc} (h : oneB t = true) : t.sp.all mayS = true ∧ 1 ≤ t.sp.length ∧ t.sp.length ≤ 100 := by
  unfold oneB at h
  simp only [Bool.and_eq_true, decide_eq_true_eq] at h
  refine ⟨?_, h.1.2, h.2⟩
  rw [List.all_eq_true]
  intro s hs
  obtain ⟨i, hi⟩ := List.getElem?_of_mem hs
  have hil := (List.getElem?_eq_some_iff.1 hi).1
  have := List.all_eq_true.1 h.1.1 i (by simpa using hil)
  unfold okAt at this
  rw [hi] at this
  simp only [Bool.and_eq_true] at this
  exact this.1.1.2
theorem trs_le {l : List Tc} (h : ∀ t ∈ l, (trB t).length ≤ 30000) : (l.flatMap trB).length ≤ l.length * 30000 := by
  induction l with
  | nil => simp
  | cons s r ih =>
    rw [List.flatMap_cons, List.length_append, List.length_cons, Nat.add_mul]
    have := h s (by simp)
    have := ih (fun x hx => h x (List.mem_cons_of_mem _ hx))
    omega
theorem trB_le {t : Tc} (h : oneB t = true) : (trB t).length ≤ 30000 := by
  obtain ⟨h1, _, h3⟩ := one_facts h
  rw [trB_len, spansB_len]
  have : (t.sp.flatMap spanB).length ≤ 100 * 234 := Nat.le_trans (spans_le (fun s hs => mayS_len (List.all_eq_true.1 h1 s hs))) (Nat.mul_le_mul_right _ h3)
  omega

/-- what putting tells -/
def pputB (l : List Tc) : Bool := isB l && decide (l.length ≤ 64)

set_option maxRecDepth 10000 in
set_option maxHeartbeats 1000000 in
theorem ppput_ok {l : List Tc} {g : Ver} {σ : St} (hl : l.length ≤ 9223372036854775807) (hs : ∀ t ∈ l, t.sp.length ≤ 9223372036854775807) :
    ACalls Try.prog n_ppput [.sl (tcsAV l) g] σ (fun v σ' => v = (if pputB l then .tup [.sl (bytesAV (pageB l)) .none, .nili] else .tup [.sl [] .none, .iface tCode (.int .i64 1)]) ∧ σ' = σ) := by
  refine s_ppput (fun wf => ?_)
  unfold c_ppput
  refine T.seq_k (fun K_h0 h0 => ?_)
  refine T.regi hm ?_
  simp only [↓reduceIte, namesOf, List.any, I.names, aopsI, astep, ev, setd, List.set, List.cons_append, List.nil_append, List.length_cons, List.length_nil, List.replicate, then_normal, Bool.or_false, Bool.false_eq_true, up_zero, Nat.reduceAdd, Nat.reduceSub]
  refine h0 _ _ ?_
  try clear h0 K_h0
  refine T.seq_k (fun K_h1 h1 => ?_)
  refine T.seq_k (fun K_h2 h2 => ?_)
  refine T.regi hm ?_
  simp only [↓reduceIte, namesOf, List.any, I.names, aopsI, astep, ev, setd, List.set, List.getD, List.getElem?_cons_zero, List.getElem?_cons_succ, then_normal, Option.getD_some, Bool.or_false, Bool.false_eq_true, up_zero, binv, ↓opt_def, List.map_cons, List.map_nil, eq_self]
  refine (is_ok hl hs).mono ?_
  rintro v σ1 ⟨rfl, rfl⟩
  cases his : isB l with
  | false =>
    try simp only [↓reduceIte, eq_self, reduceCtorEq, Bool.not_false]
    refine h2 _ _ ?_
    try clear h2 K_h2
    refine T.cond rfl (fun _ => ?_) (fun h => by cases h)
    refine T.seq_k (fun K_h0 h0 => ?_)
    refine T.regi hm ?_
    simp only [↓reduceIte, namesOf, List.any, I.names, aopsI, astep, ev, setd, List.set, List.getD, List.getElem?_cons_zero, List.getElem?_cons_succ, then_normal, Option.getD_some, Bool.or_false, Bool.false_eq_true, up_zero]
    refine h0 _ _ ?_
    try clear h0 K_h0
    exact T.ret (Fin.retw rfl (Wk.tup2 (Wk.sl _ _)) ⟨by unfold pputB; rw [his]; rfl, rfl⟩)
  | true =>
  by_cases c1 : l.length > 64
  · have e1 : decide ((l.length : Int) > 64) = true := decide_eq_true (by omega)
    try simp only [↓reduceIte, Bool.false_eq_true, eq_self, Bool.not_true, tcs_len, e1]
    refine h2 _ _ ?_
    try clear h2 K_h2
    refine T.cond rfl (fun _ => ?_) (fun h => by cases h)
    refine T.seq_k (fun K_h0 h0 => ?_)
    refine T.regi hm ?_
    simp only [↓reduceIte, namesOf, List.any, I.names, aopsI, astep, ev, setd, List.set, List.getD, List.getElem?_cons_zero, List.getElem?_cons_succ, then_normal, Option.getD_some, Bool.or_false, Bool.false_eq_true, up_zero]
    refine h0 _ _ ?_
    try clear h0 K_h0
    exact T.ret (Fin.retw rfl (Wk.tup2 (Wk.sl _ _)) ⟨by unfold pputB; rw [decide_eq_false (by omega), Bool.and_false]; rfl, rfl⟩)
  have e1 : decide ((l.length : Int) > 64) = false := decide_eq_false (by omega)
  have hok : pputB l = true := by unfold pputB; rw [his, decide_eq_true (by omega)]; rfl
  try simp only [↓reduceIte, Bool.false_eq_true, eq_self, Bool.not_true, tcs_len, e1]
  refine h2 _ _ ?_
  try clear h2 K_h2
  refine T.cond rfl (fun h => by cases h) (fun _ => T.skip ?_)
  refine h1 _ _ ?_
  try clear h1 K_h1
  have e2 := u64w (n := l.length) (by omega)
  have hnil : AV.sl [] .nil = .sl (bytesAV []) .nil := rfl
  refine T.seq_k (fun K_h1 h1 => ?_)
  rw [hnil]
  refine T.regi hm ?_
  simp only [↓reduceIte, namesOf, List.any, I.names, aopsI, astep, ev, setd, List.set, List.getD, List.getElem?_cons_zero, List.getElem?_cons_succ, then_normal, Option.getD_some, Bool.or_false, Bool.false_eq_true, up_zero, ↓opt_def, List.map_cons, List.map_nil, tcs_len, e2]
  refine (wput_ok (l := []) (w := 2) (by simp) rfl (fun _ => by omega)).mono ?_
  rintro v σ2 ⟨h, o1, rfl⟩
  rw [List.nil_append, ← hnil]
  have q0 := Tq.one o1
  clear o1
  try simp only [List.getElem?_cons_zero, List.getElem?_cons_succ]
  refine h1 _ _ ?_
  try clear h1 K_h1
  refine T.seq_k (fun K_h1 h1 => ?_)
  refine T.seq_k (fun K_h0 h0 => ?_)
  refine T.regi hm ?_
  simp only [↓reduceIte, namesOf, List.any, I.names, aopsI, astep, ev, setd, List.set, List.getD, List.getElem?_cons_zero, List.getElem?_cons_succ, then_normal, Option.getD_some, Bool.or_false, Bool.false_eq_true, up_zero, eq_self, eqIv, bne_self_eq_false]
  refine h0 _ _ ?_
  try clear h0 K_h0
  refine T.cond rfl (fun h => by cases h) (fun _ => T.skip ?_)
  refine h1 _ _ ?_
  try clear h1 K_h1
  have hfl : (l.flatMap trB).length ≤ 64 * 30000 := Nat.le_trans (trs_le (fun t ht => trB_le (is_each his ht))) (Nat.mul_le_mul_right _ (by omega))
  refine T.seq_k (fun K_h1 h1 => ?_)
  refine T.seq_k (fun K_h0 h0 => ?_)
  refine T.regi hm ?_
  simp only [↓reduceIte, namesOf, List.any, I.names, aopsI, astep, ev, setd, List.set, List.getD, List.getElem?_cons_zero, List.getElem?_cons_succ, then_normal, Option.getD_some, Bool.or_false, Bool.false_eq_true, up_zero, tcs_len]
  refine h0 _ _ ?_
  try clear h0 K_h0
  refine T.block ?_
  refine T.gh (Gh.keep [2, 3, 4, 29, 30, 31]) ?_
  refine T.loopi (fun i ρ t => (∃ g1, Tq σ1 t g1 1 ∧ ρ = [.any, .any, .sl [] .nil, .nili, .sl (bytesAV (beB 2 l.length ++ (l.take i).flatMap trB)) (.tip g1)] ++ List.replicate 24 .any ++ [.sl (tcsAV l) g, .int .i64 (l.length : Int), .int .i64 (i : Int)] ++ List.replicate 17 .any))
    l.length 0 (Nat.zero_le _) ⟨h, q0, by rw [List.take_zero, List.flatMap_nil, List.append_nil]; rfl⟩ ?_
  clear q0 h
  rintro i ρ t hi ⟨h, q0, rfl⟩
  refine T.seq_k (fun K_h0 h0 => ?_)
  refine T.regi hm ?_
  simp only [↓reduceIte, namesOf, List.any, I.names, aopsI, astep, ev, setd, List.set, List.getD, List.getElem?_cons_zero, List.getElem?_cons_succ, List.cons_append, List.nil_append, List.replicate, then_normal, Option.getD_some, Bool.or_false, Bool.false_eq_true, up_zero, binv, ↓opt_def, lt_len, eq_self]
  refine h0 _ _ ?_
  try clear h0 K_h0
  refine T.seq_k (fun K_h2 h2 => ?_)
  by_cases hil : i < l.length
  case neg =>
    refine T.cond (b := false) (by simp [ev]; omega) (fun h => by cases h) (fun _ => T.exit ?_)
    have : i = l.length := by omega
    subst this
    rw [List.take_length]
    try simp only [List.cons_append, List.nil_append, List.replicate, then_normal, inBlock_exit, then_exit]
    refine h1 _ _ ?_
    try clear h1 K_h1
    refine T.seq_k (fun K_h1 h1 => ?_)
    refine T.regi hm ?_
    simp only [↓reduceIte, namesOf, List.any, I.names, aopsI, astep, ev, setd, List.set, List.getD, List.getElem?_cons_zero, List.getElem?_cons_succ, then_normal, Option.getD_some, Bool.or_false, Bool.false_eq_true, up_zero, List.map_cons, List.map_nil]
    refine (cseal_q (by rw [List.length_append, beB_len]; omega)).mono ?_
    rintro v t2 ⟨rfl, rfl⟩
    try simp only [↓reduceIte, namesOf, List.any, I.names, aops, aopsI, aopsT, qstep, CPt, qget, Tbl.get, astep, ev, setd, List.set, List.getD, List.getElem?_cons_zero, List.getElem?_cons_succ, List.getElem?_nil, List.cons_append, List.nil_append, List.length_cons, List.length_nil, List.replicate, then_normal, inBlock_normal, Option.getD_some, Option.getD_none, Bool.or_false, Bool.or_true, Bool.true_or, Bool.false_or, Bool.false_eq_true, if_false, if_true, up_zero, Nat.reduceAdd, Nat.reduceSub, binv, ↓opt_def, AV.isAny, AV.cells, ldc, List.map_cons, List.map_nil, St.set_next, St.set_same, St.up_next, Int.natCast_nonneg, lt_len, le_len, Int.toNat_natCast, true_and, and_true, eq_self, reduceCtorEq, decide_true, List.length_singleton, er_int, er_bool, er_str, up_zero]
    refine h1 _ _ ?_
    try clear h1 K_h1
    exact T.ret (Fin.quiet rfl ⟨⟨nb_bytes _ _, trivial⟩, trivial, trivial⟩ (q0.quiet wf) ⟨by rw [if_pos hok]; rfl, rfl⟩)
  refine T.cond (b := true) (by simp [ev]; omega) (fun _ => T.skip ?_) (fun h => by cases h)
  refine h2 _ _ ?_
  try clear h2 K_h2
  have hiw := inc64' hil (by omega)
  have hilI : (i : Int) < (l.length : Int) := by omega
  have hg := tcs_get hil
  have hfs := flat_snoc trB hil
  have hone := is_each his (List.getElem_mem hil)
  have hpl : ((l.take i).flatMap trB).length ≤ 64 * 30000 := by
    refine Nat.le_trans (trs_le (fun t ht => trB_le (is_each his (List.mem_of_mem_take ht)))) (Nat.mul_le_mul_right _ ?_)
    rw [List.length_take]; omega
  generalize l[i] = x at hg hfs hone
  rw [tcav'] at hg
  obtain ⟨o1, o2, o3⟩ := one_facts hone
  have otl := trB_le hone
  refine T.seq_k (fun K_h2 h2 => ?_)
  refine T.block ?_
  refine T.seq_k (fun K_h3 h3 => ?_)
  refine T.regi hm ?_
  simp only [↓reduceIte, namesOf, List.any, I.names, aopsI, astep, ev, setd, List.set, List.getD, List.getElem?_cons_zero, List.getElem?_cons_succ, List.cons_append, List.nil_append, List.length_cons, List.length_nil, List.replicate, then_normal, Option.getD_some, Bool.or_false, Bool.or_true, Nat.reduceAdd, ↓opt_def, AV.isAny, AV.cells, ldc, St.set_same, Int.natCast_nonneg, Int.toNat_natCast, and_true, eq_self, decide_true, tcs_len, hg, hilI, AV.fits, AV.one, List.all_cons, List.all_nil, Nat.reduceBEq, Bool.not_false, Bool.and_self, Nat.zero_add, splice, List.take, List.drop, Nat.reduceLeDiff, St.set_set]
  have q1 := q0.box (n := 4) (i := 2) (by omega) (.obj [.int .u64 (x.id : Int), .sl (spsAV x.sp) .none])
  have hb : ((t.up 4).set (t.next + 2) (.obj [.int .u64 (x.id : Int), .sl (spsAV x.sp) .none])).res (t.next + 2) = some (.obj [.int .u64 (x.id : Int), .sl (spsAV x.sp) .none]) := by simp
  generalize ((t.up 4).set (t.next + 2) (.obj [.int .u64 (x.id : Int), .sl (spsAV x.sp) .none])) = τ at q1 hb ⊢
  generalize t.next + 2 = a at hb ⊢
  clear q0
  refine h3 _ _ ?_
  try clear h3 K_h3
  refine T.seq_k (fun K_h3 h3 => ?_)
  refine T.regi hm ?_
  simp only [↓reduceIte, namesOf, List.any, I.names, aopsI, astep, ev, setd, List.set, List.getD, List.getElem?_cons_zero, List.getElem?_cons_succ, List.cons_append, List.nil_append, List.length_cons, List.length_nil, List.replicate, then_normal, Option.getD_some, Bool.or_false, Bool.false_eq_true, up_zero, Nat.reduceAdd, ↓opt_def, ldc, List.map_cons, List.map_nil, hb, Nat.zero_add, List.take, List.drop, Nat.reduceLeDiff]
  refine (pput1_ok (by omega) o1).mono ?_
  rintro v τ3 ⟨rfl, rfl⟩
  try simp only [List.getElem?_cons_zero, List.getElem?_cons_succ]
  refine h3 _ _ ?_
  try clear h3 K_h3
  refine T.seq_k (fun K_h3 h3 => ?_)
  refine T.seq_k (fun K_h0 h0 => ?_)
  refine T.regi hm ?_
  simp only [↓reduceIte, namesOf, List.any, I.names, aopsI, astep, ev, setd, List.set, List.getD, List.getElem?_cons_zero, List.getElem?_cons_succ, List.cons_append, List.nil_append, List.replicate, then_normal, Option.getD_some, Bool.or_false, Bool.false_eq_true, up_zero, eq_self, eqIv, bne_self_eq_false]
  refine h0 _ _ ?_
  try clear h0 K_h0
  refine T.cond rfl (fun h => by cases h) (fun _ => T.skip ?_)
  refine h3 _ _ ?_
  try clear h3 K_h3
  have hat := q1.ats
  have hle : decide ((2 + ((l.take i).flatMap trB).length + (trB x).length) * 1 ≤ 70368744177664 ∧ 2 + ((l.take i).flatMap trB).length + (trB x).length ≤ 4611686018427387904) = true := app_le (by omega)
  refine T.regi hm ?_
  simp only [↓reduceIte, namesOf, List.any, I.names, aopsI, astep, ev, setd, List.set, List.getD, List.getElem?_cons_zero, List.getElem?_cons_succ, List.cons_append, List.nil_append, List.length_cons, List.length_nil, List.replicate, then_normal, inBlock_normal, Option.getD_some, Bool.or_false, Bool.or_true, Nat.reduceAdd, eq_self, srcOf, bytesAV_er, bytesAV_app, bytes_all, bytesAV_len, List.length_append, Bool.and_self, hat, beB_len, hle]
  refine h2 _ _ ?_
  try clear h2 K_h2
  refine T.regi hm ?_
  simp only [↓reduceIte, namesOf, List.any, I.names, aopsI, astep, ev, setd, List.set, List.getD, List.getElem?_cons_zero, List.getElem?_cons_succ, List.cons_append, List.nil_append, List.replicate, then_normal, Option.getD_some, Bool.or_false, Bool.false_eq_true, up_zero, binv, ↓opt_def, eq_self, hiw]
  refine ⟨hil, _, _, Gh.keep [2, 3, 4, 29, 30, 31], _, q1.app (n := 4) (i := 2) (by omega), ?_⟩
  rw [hfs, ← List.append_assoc]; rfl
end Go.VL
