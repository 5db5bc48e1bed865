/- Contracts: the bytes of spans; a page's bytes. -/
import Derived.Test.YtlbnimbgodmagaaVvA
import Derived.Test.YtlbnimbgodmagaaVrD
namespace Go.VL
open Go.Proofs

def spsLen (l : List Sp) : Nat := (l.flatMap spanB).length
theorem flat_snoc {α β : Type} (f : α → List β) {l : List α} {i : Nat} (h : i < l.length) : (l.take (i + 1)).flatMap f = (l.take i).flatMap f ++ f l[i] := by
  rw [List.take_succ_eq_append_getElem h, List.flatMap_append]; simp
theorem spans_le {l : List Sp} (h : ∀ s ∈ l, s.da.length ≤ 200) : (l.flatMap spanB).length ≤ l.length * 234 := by
  induction l with
  | nil => simp
  | cons s r ih =>
    rw [List.flatMap_cons, List.length_append, List.length_cons, spanB_len, Nat.add_mul]
    have := h s (by simp)
    have := ih (fun x hx => h x (List.mem_cons_of_mem _ hx))
    omega
theorem mayS_len {s : Sp} (h : mayS s = true) : s.da.length ≤ 200 := by have := mayS_facts h; omega
theorem sps_cells (s : Sp) : [AV.int .u64 (s.tr : Int), .int .u64 (s.id : Int), .int .i64 s.st, .int .i64 s.en, .sl (bytesAV s.da) .none].length = 5 := rfl

set_option maxRecDepth 10000 in
set_option maxHeartbeats 1000000 in
theorem spput_ok {l : List Sp} {g : Ver} {σ : St} (hl : l.length ≤ 65535) (hd : ∀ s ∈ l, s.da.length ≤ 9223372036854775807) :
    ACalls Try.prog n_spput [.sl (spsAV l) g] σ (fun v σ' => v = (if l.all mayS then .tup [.sl (bytesAV (spansB l)) .none, .nili] else .tup [.sl [] .none, .iface tCode (.int .i64 1)]) ∧ σ' = σ) := by
  refine s_spput (fun wf => ?_)
  unfold c_spput
  have e1 : decide ((l.length : Int) > 65535) = false := decide_eq_false (by omega)
  have e2 := u64w (n := l.length) (by omega)
  refine T.seq_k (fun K_h0 h0 => ?_)
  refine T.regi hm ?_
  simp only [↓reduceIte, namesOf, List.any, I.names, aopsI, astep, ev, setd, List.set, List.cons_append, List.nil_append, List.length_cons, List.length_nil, List.replicate, then_normal, Bool.or_false, Bool.false_eq_true, up_zero, Nat.reduceAdd, Nat.reduceSub]
  refine h0 _ _ ?_
  try clear h0 K_h0
  refine T.seq_k (fun K_h1 h1 => ?_)
  refine T.seq_k (fun K_h0 h0 => ?_)
  refine T.regi hm ?_
  simp only [↓reduceIte, namesOf, List.any, I.names, aopsI, astep, ev, setd, List.set, List.getD, List.getElem?_cons_zero, List.getElem?_cons_succ, then_normal, Option.getD_some, Bool.or_false, Bool.false_eq_true, up_zero, binv, ↓opt_def, eq_self, sps_len, e1]
  refine h0 _ _ ?_
  try clear h0 K_h0
  refine T.cond rfl (fun h => by cases h) (fun _ => T.skip ?_)
  refine h1 _ _ ?_
  try clear h1 K_h1
  refine T.seq_k (fun K_h1 h1 => ?_)
  have hnil : AV.sl [] .nil = .sl (bytesAV []) .nil := rfl
  rw [hnil]
  refine T.regi hm ?_
  simp only [↓reduceIte, namesOf, List.any, I.names, aopsI, astep, ev, setd, List.set, List.getD, List.getElem?_cons_zero, List.getElem?_cons_succ, then_normal, Option.getD_some, Bool.or_false, Bool.false_eq_true, up_zero, ↓opt_def, List.map_cons, List.map_nil, sps_len, e2]
  refine (wput_ok (l := []) (w := 2) (by simp) rfl (fun _ => by omega)).mono ?_
  rintro v σ1 ⟨h, o1, rfl⟩
  rw [List.nil_append, ← hnil]
  have q0 := Tq.one o1
  clear o1
  try simp only [List.getElem?_cons_zero, List.getElem?_cons_succ]
  refine h1 _ _ ?_
  try clear h1 K_h1
  refine T.seq_k (fun K_h1 h1 => ?_)
  refine T.seq_k (fun K_h0 h0 => ?_)
  refine T.regi hm ?_
  simp only [↓reduceIte, namesOf, List.any, I.names, aopsI, astep, ev, setd, List.set, List.getD, List.getElem?_cons_zero, List.getElem?_cons_succ, then_normal, Option.getD_some, Bool.or_false, Bool.false_eq_true, up_zero, eq_self, eqIv, bne_self_eq_false]
  refine h0 _ _ ?_
  try clear h0 K_h0
  refine T.cond rfl (fun h => by cases h) (fun _ => T.skip ?_)
  refine h1 _ _ ?_
  try clear h1 K_h1
  refine T.seq_k (fun K_h1 h1 => ?_)
  refine T.seq_k (fun K_h0 h0 => ?_)
  refine T.regi hm ?_
  simp only [↓reduceIte, namesOf, List.any, I.names, aopsI, astep, ev, setd, List.set, List.getD, List.getElem?_cons_zero, List.getElem?_cons_succ, then_normal, Option.getD_some, Bool.or_false, Bool.false_eq_true, up_zero, sps_len]
  refine h0 _ _ ?_
  try clear h0 K_h0
  refine T.block ?_
  refine T.gh (Gh.keep [2, 3, 4, 24, 25, 26]) ?_
  refine T.loopi (fun i ρ t => (∃ g1, Tq σ t g1 1 ∧ (l.take i).all mayS = true ∧ ρ = [.any, .any, .sl [] .nil, .nili, .sl (bytesAV (beB 2 l.length ++ (l.take i).flatMap spanB)) (.tip g1)] ++ List.replicate 19 .any ++ [.sl (spsAV l) g, .int .i64 (l.length : Int), .int .i64 (i : Int)] ++ List.replicate 20 .any))
    l.length 0 (Nat.zero_le _) ⟨h, q0, rfl, by rw [List.take_zero, List.flatMap_nil, List.append_nil]; rfl⟩ ?_
  clear q0 h
  rintro i ρ t hi ⟨h, q0, hall, rfl⟩
  refine T.seq_k (fun K_h0 h0 => ?_)
  refine T.regi hm ?_
  simp only [↓reduceIte, namesOf, List.any, I.names, aopsI, astep, ev, setd, List.set, List.getD, List.getElem?_cons_zero, List.getElem?_cons_succ, List.cons_append, List.nil_append, List.replicate, then_normal, Option.getD_some, Bool.or_false, Bool.false_eq_true, up_zero, binv, ↓opt_def, lt_len, eq_self]
  refine h0 _ _ ?_
  try clear h0 K_h0
  refine T.seq_k (fun K_h2 h2 => ?_)
  by_cases hil : i < l.length
  case neg =>
    refine T.cond (b := false) (by simp [ev]; omega) (fun h => by cases h) (fun _ => T.exit ?_)
    have : i = l.length := by omega
    subst this
    rw [List.take_length] at hall ⊢
    try simp only [List.cons_append, List.nil_append, List.replicate, then_normal, inBlock_exit, then_exit]
    refine h1 _ _ ?_
    try clear h1 K_h1
    refine T.seq_k (fun K_h0 h0 => ?_)
    refine T.regi hm ?_
    simp only [↓reduceIte, namesOf, List.any, I.names, aopsI, astep, ev, setd, List.set, List.getD, List.getElem?_cons_zero, List.getElem?_cons_succ, then_normal, Option.getD_some, Bool.or_false, Bool.false_eq_true, up_zero]
    refine h0 _ _ ?_
    try clear h0 K_h0
    exact T.ret (Fin.quietw rfl (Wk.tup2 (Wk.sl _ _)) ⟨⟨nb_bytes _ _, trivial⟩, trivial, trivial⟩ (q0.quiet wf) ⟨by rw [if_pos hall]; rfl, rfl⟩)
  refine T.cond (b := true) (by simp [ev]; omega) (fun _ => T.skip ?_) (fun h => by cases h)
  refine h2 _ _ ?_
  try clear h2 K_h2
  have hiw := inc64' hil (by omega)
  have hilI : (i : Int) < (l.length : Int) := by omega
  have hg := sps_get hil
  have hds := hd _ (List.getElem_mem hil)
  have hfs := flat_snoc spanB hil
  have hta : (l.take (i + 1)).all mayS = ((l.take i).all mayS && mayS l[i]) := by rw [List.take_succ_eq_append_getElem hil, List.all_append]; simp
  have hlm : l.all mayS = true → mayS l[i] = true := fun h => List.all_eq_true.1 h _ (List.getElem_mem hil)
  have hpl : ((l.take i).flatMap spanB).length ≤ 65535 * 234 := by
    refine Nat.le_trans (spans_le (fun s hs => mayS_len (List.all_eq_true.1 hall s hs))) (Nat.mul_le_mul_right _ ?_)
    rw [List.length_take]; omega
  generalize l[i] = s at hg hds hfs hta hlm
  rw [spav] at hg
  refine T.seq_k (fun K_h2 h2 => ?_)
  refine T.block ?_
  refine T.seq_k (fun K_h3 h3 => ?_)
  refine T.regi hm ?_
  simp only [↓reduceIte, namesOf, List.any, I.names, aopsI, astep, ev, setd, List.set, List.getD, List.getElem?_cons_zero, List.getElem?_cons_succ, List.cons_append, List.nil_append, List.length_cons, List.length_nil, List.replicate, then_normal, Option.getD_some, Bool.or_false, Bool.or_true, Nat.reduceAdd, ↓opt_def, AV.isAny, AV.cells, ldc, St.set_same, Int.natCast_nonneg, Int.toNat_natCast, and_true, eq_self, decide_true, sps_len, hg, hilI, AV.fits, AV.one, List.all_cons, List.all_nil, Nat.reduceBEq, Bool.not_false, Bool.and_self, Nat.zero_add, splice, List.take, List.drop, Nat.reduceLeDiff, St.set_set]
  have q1 := q0.box (n := 4) (i := 2) (by omega) (.obj [.int .u64 (s.tr : Int), .int .u64 (s.id : Int), .int .i64 s.st, .int .i64 s.en, .sl (bytesAV s.da) .none])
  have hb : ((t.up 4).set (t.next + 2) (.obj [.int .u64 (s.tr : Int), .int .u64 (s.id : Int), .int .i64 s.st, .int .i64 s.en, .sl (bytesAV s.da) .none])).res (t.next + 2) = some (.obj [.int .u64 (s.tr : Int), .int .u64 (s.id : Int), .int .i64 s.st, .int .i64 s.en, .sl (bytesAV s.da) .none]) := by simp
  generalize ((t.up 4).set (t.next + 2) (.obj [.int .u64 (s.tr : Int), .int .u64 (s.id : Int), .int .i64 s.st, .int .i64 s.en, .sl (bytesAV s.da) .none])) = τ at q1 hb ⊢
  generalize t.next + 2 = a at hb ⊢
  clear q0
  refine h3 _ _ ?_
  try clear h3 K_h3
  refine T.seq_k (fun K_h3 h3 => ?_)
  refine T.seq_k (fun K_h4 h4 => ?_)
  refine T.regi hm ?_
  simp only [↓reduceIte, namesOf, List.any, I.names, aopsI, astep, ev, setd, List.set, List.getD, List.getElem?_cons_zero, List.getElem?_cons_succ, List.cons_append, List.nil_append, List.length_cons, List.length_nil, List.replicate, then_normal, Option.getD_some, Bool.or_false, Bool.false_eq_true, up_zero, Nat.reduceAdd, ↓opt_def, ldc, List.map_cons, List.map_nil, hb, Nat.zero_add, List.take, List.drop, Nat.reduceLeDiff]
  refine (may_ok).mono ?_
  rintro v τ2 ⟨rfl, rfl⟩
  have hms : mayI s.st s.en (((bytesAV s.da).length : Nat) : Int) = mayS s := by rw [bytesAV_len]; rfl
  rw [hms]
  cases hmay : mayS s with
  | false =>
    try simp only [Bool.not_false]
    refine h4 _ _ ?_
    try clear h4 K_h4
    refine T.cond rfl (fun _ => ?_) (fun h => by cases h)
    refine T.seq_k (fun K_h0 h0 => ?_)
    refine T.regi hm ?_
    simp only [↓reduceIte, namesOf, List.any, I.names, aopsI, astep, ev, setd, List.set, List.getD, List.getElem?_cons_zero, List.getElem?_cons_succ, List.cons_append, List.nil_append, List.replicate, then_normal, Option.getD_some, Bool.or_false, Bool.false_eq_true, up_zero]
    refine h0 _ _ ?_
    try clear h0 K_h0
    have : ¬ l.all mayS = true := fun h => by rw [hlm h] at hmay; cases hmay
    exact T.ret (Fin.quietw rfl (Wk.tup2 (Wk.sl _ _)) ⟨⟨trivial, trivial⟩, trivial, trivial⟩ (q1.quiet wf) ⟨by rw [if_neg this]; rfl, rfl⟩)
  | true =>
    try simp only [Bool.not_true]
    refine h4 _ _ ?_
    try clear h4 K_h4
    refine T.cond rfl (fun h => by cases h) (fun _ => T.skip ?_)
    refine h3 _ _ ?_
    try clear h3 K_h3
    refine T.seq_k (fun K_h3 h3 => ?_)
    refine T.regi hm ?_
    simp only [↓reduceIte, namesOf, List.any, I.names, aopsI, astep, ev, setd, List.set, List.getD, List.getElem?_cons_zero, List.getElem?_cons_succ, List.cons_append, List.nil_append, List.length_cons, List.length_nil, List.replicate, then_normal, Option.getD_some, Bool.or_false, Bool.false_eq_true, up_zero, Nat.reduceAdd, ↓opt_def, ldc, List.map_cons, List.map_nil, hb, Nat.zero_add, List.take, List.drop, Nat.reduceLeDiff]
    refine (sput1_ok hmay).mono ?_
    rintro v τ3 ⟨rfl, rfl⟩
    try simp only [List.getElem?_cons_zero, List.getElem?_cons_succ]
    refine h3 _ _ ?_
    try clear h3 K_h3
    refine T.seq_k (fun K_h3 h3 => ?_)
    refine T.seq_k (fun K_h0 h0 => ?_)
    refine T.regi hm ?_
    simp only [↓reduceIte, namesOf, List.any, I.names, aopsI, astep, ev, setd, List.set, List.getD, List.getElem?_cons_zero, List.getElem?_cons_succ, List.cons_append, List.nil_append, List.replicate, then_normal, Option.getD_some, Bool.or_false, Bool.false_eq_true, up_zero, eq_self, eqIv, bne_self_eq_false]
    refine h0 _ _ ?_
    try clear h0 K_h0
    refine T.cond rfl (fun h => by cases h) (fun _ => T.skip ?_)
    refine h3 _ _ ?_
    try clear h3 K_h3
    have hat := q1.ats
    have hsl := mayS_len hmay
    have hle : decide ((2 + ((l.take i).flatMap spanB).length + (s.da.length + 34)) * 1 ≤ 70368744177664 ∧ 2 + ((l.take i).flatMap spanB).length + (s.da.length + 34) ≤ 4611686018427387904) = true := app_le (by omega)
    refine T.regi hm ?_
    simp only [↓reduceIte, namesOf, List.any, I.names, aopsI, astep, ev, setd, List.set, List.getD, List.getElem?_cons_zero, List.getElem?_cons_succ, List.cons_append, List.nil_append, List.length_cons, List.length_nil, List.replicate, then_normal, inBlock_normal, Option.getD_some, Bool.or_false, Bool.or_true, Nat.reduceAdd, eq_self, srcOf, bytesAV_er, bytesAV_app, bytes_all, bytesAV_len, List.length_append, Bool.and_self, hat, beB_len, spanB_len, hle]
    refine h2 _ _ ?_
    try clear h2 K_h2
    refine T.regi hm ?_
    simp only [↓reduceIte, namesOf, List.any, I.names, aopsI, astep, ev, setd, List.set, List.getD, List.getElem?_cons_zero, List.getElem?_cons_succ, List.cons_append, List.nil_append, List.replicate, then_normal, Option.getD_some, Bool.or_false, Bool.false_eq_true, up_zero, binv, ↓opt_def, eq_self, hiw]
    refine ⟨hil, _, _, Gh.keep [2, 3, 4, 24, 25, 26], _, q1.app (n := 4) (i := 2) (by omega), by rw [hta, hall, hmay]; rfl, ?_⟩
    rw [hfs, ← List.append_assoc]; rfl
end Go.VL
