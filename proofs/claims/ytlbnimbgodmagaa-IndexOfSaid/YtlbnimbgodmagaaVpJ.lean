/- Contracts: the document's reader. -/
import Derived.Test.YtlbnimbgodmagaaVpI
namespace Go.VL
open Go.Proofs

theorem wide_ok {w : Int} {σ : St} : ACalls Try.prog n_wide [.int .i64 w] σ (fun v σ' => v = .bool (rightB w) ∧ σ' = σ) := by
  refine s_wide (fun wf => ?_)
  unfold c_wide
  refine T.seq_k (fun K_h1 h1 => ?_)
  refine T.regi hm ?_
  simp only [↓reduceIte, namesOf, List.any, I.names, aopsI, astep, ev, setd, List.set, List.cons_append, List.nil_append, List.length_cons, List.length_nil, List.replicate, then_normal, Bool.or_false, Bool.false_eq_true, up_zero, Nat.reduceAdd, Nat.reduceSub]
  refine h1 _ _ ?_
  try clear h1 K_h1
  refine T.seq_k (fun K_h1 h1 => ?_)
  by_cases w1 : w = 1
  · subst w1
    refine T.regi hm ?_
    simp only [↓reduceIte, namesOf, List.any, I.names, aopsI, astep, ev, setd, List.set, List.getD, List.getElem?_cons_zero, List.getElem?_cons_succ, then_normal, Option.getD_some, Bool.or_false, Bool.false_eq_true, up_zero, binv, ↓opt_def, eq_self, reduceCtorEq, beq_self_eq_true, reduceCtorEq]
    refine h1 _ _ ?_
    try clear h1 K_h1
    exact T.ret (Fin.ret rfl ⟨by simp [pack, rightB], rfl⟩)
  by_cases w2 : w = 2
  · subst w2
    refine T.regi hm ?_
    simp only [↓reduceIte, namesOf, List.any, I.names, aopsI, astep, ev, setd, List.set, List.getD, List.getElem?_cons_zero, List.getElem?_cons_succ, then_normal, Option.getD_some, Bool.or_false, Bool.false_eq_true, up_zero, binv, ↓opt_def, eq_self, reduceCtorEq, beq_self_eq_true, reduceCtorEq, Int.reduceBEq]
    refine h1 _ _ ?_
    try clear h1 K_h1
    exact T.ret (Fin.ret rfl ⟨by simp [pack, rightB], rfl⟩)
  by_cases w4 : w = 4
  · subst w4
    refine T.regi hm ?_
    simp only [↓reduceIte, namesOf, List.any, I.names, aopsI, astep, ev, setd, List.set, List.getD, List.getElem?_cons_zero, List.getElem?_cons_succ, then_normal, Option.getD_some, Bool.or_false, Bool.false_eq_true, up_zero, binv, ↓opt_def, eq_self, reduceCtorEq, beq_self_eq_true, reduceCtorEq, Int.reduceBEq]
    refine h1 _ _ ?_
    try clear h1 K_h1
    exact T.ret (Fin.ret rfl ⟨by simp [pack, rightB], rfl⟩)
  · have e1 : (w == 1) = false := by simpa using w1
    have e2 : (w == 2) = false := by simpa using w2
    have e4 : (w == 4) = false := by simpa using w4
    refine T.regi hm ?_
    simp only [↓reduceIte, namesOf, List.any, I.names, aopsI, astep, ev, setd, List.set, List.getD, List.getElem?_cons_zero, List.getElem?_cons_succ, then_normal, Option.getD_some, Bool.or_false, Bool.false_eq_true, up_zero, binv, ↓opt_def, eq_self, e1, e2, e4]
    refine h1 _ _ ?_
    try clear h1 K_h1
    refine T.ret (Fin.ret rfl ⟨?_, rfl⟩)
    by_cases w8 : w = 8
    · subst w8; simp [pack, rightB]
    · have e8 : (w == 8) = false := by simpa using w8
      simp [pack, rightB, w1, w2, w4, w8]


def g_wide : List AV → Option AV
  | [.int .i64 w] => some (.bool (rightB w))
  | _ => none
theorem wide_pure : PureC Try.prog n_wide g_wide := by
  intro args σ v h
  unfold g_wide at h
  split at h
  · simp only [Option.some.injEq] at h; subst h; exact wide_ok
  · cases h
def t3 : Tbl := [(n_wide, g_wide)]
theorem t3_ok : t3.ok Try.prog := Tbl.ok_cons wide_pure Tbl.ok_nil

theorem u64_mul (a : Nat) (h : a < 72057594037927936) : IntKind.u64.wrap (256 * (a : Int)) = ((256 * a : Nat) : Int) := by
  simp [IntKind.wrap, IntKind.bits, IntKind.signed]; omega
theorem u64_add (a : Nat) (b : UInt8) (h : a < 72057594037927936) : IntKind.u64.wrap (((256 * a : Nat) : Int) + (b.toNat : Int)) = ((256 * a + b.toNat : Nat) : Int) := by
  have hb := b.toNat_lt
  simp [IntKind.wrap, IntKind.bits, IntKind.signed]; omega

set_option maxHeartbeats 1000000 in
theorem rword_ok {l : List UInt8} {g : Ver} {at_ bad : Int} {w n : Nat} {σ : St} (hd : Rd l at_ bad) (hbd : bad = -1 ∨ 0 ≤ bad) (hw : rightB w = true) (hr : σ.res n = some (rd l g at_ bad)) :
    ACalls Try.prog n_rword [.ptr n 0, .int .i64 w] σ (fun v σ' => (takeOk l at_ bad w ∧ v = .int .u64 (numB ((l.drop at_.toNat).take w) : Int) ∧ σ' = σ.set n (rd l g (at_ + w) bad)) ∨
      (¬ takeOk l at_ bad w ∧ v = .int .u64 0 ∧ σ' = σ.set n (rd l g at_ (if bad = -1 then at_ else bad)))) := by
  have hw8 : w ≤ 8 := by simp [rightB] at hw; omega
  have hr' := hr
  unfold rd at hr
  obtain ⟨hl, h0, hhi⟩ := hd
  refine s_rword (fun wf => ?_)
  unfold c_rword
  refine T.seq_k (fun K_h1 h1 => ?_)
  refine T.regi hm ?_
  simp only [↓reduceIte, namesOf, List.any, I.names, aopsI, astep, ev, setd, List.set, List.cons_append, List.nil_append, List.length_cons, List.length_nil, List.replicate, then_normal, Bool.or_false, Bool.false_eq_true, up_zero, Nat.reduceAdd, Nat.reduceSub]
  refine h1 _ _ ?_
  try clear h1 K_h1
  refine T.seq_k (fun K_h1 h1 => ?_)
  refine T.regt hm t3_ok ?_
  simp only [↓reduceIte, namesOf, List.any, I.names, aopsT, qstep, CPt, Tbl.get, astep, ev, setd, List.set, List.getD, List.getElem?_cons_zero, List.getElem?_cons_succ, then_normal, Option.getD_some, Bool.or_false, Bool.false_eq_true, up_zero, ↓opt_def, List.map_cons, List.map_nil, eq_self, t3, g_wide, hw]
  refine h1 _ _ ?_
  try clear h1 K_h1
  refine T.seq_k (fun K_h1 h1 => ?_)
  refine T.seq_k (fun K_h2 h2 => ?_)
  rcases hbd with rfl | hbd
  case inr =>
    have e1 : decide (bad ≥ 0) = true := decide_eq_true hbd
    refine T.regi hm ?_
    simp only [↓reduceIte, namesOf, List.any, I.names, aopsI, astep, ev, setd, List.set, List.getD, List.getElem?_cons_zero, List.getElem?_cons_succ, then_normal, Option.getD_some, Bool.or_false, Bool.false_eq_true, up_zero, binv, ↓opt_def, ldc, eq_self, hr, Nat.zero_add, e1]
    refine h2 _ _ ?_
    try clear h2 K_h2
    refine T.cond rfl (fun _ => ?_) (fun h => by cases h)
    refine T.seq_k (fun K_h2 h2 => ?_)
    refine T.regi hm ?_
    simp only [↓reduceIte, namesOf, List.any, I.names, aopsI, astep, ev, setd, List.set, then_normal, Bool.or_false, Bool.false_eq_true, up_zero]
    refine h2 _ _ ?_
    try clear h2 K_h2
    refine T.ret (Fin.ret rfl (.inr ⟨fun h => ?_, rfl, ?_⟩))
    · have := h.1; omega
    · rw [if_neg (by omega), St.set_self hr']
  have e1 : decide ((-1 : Int) ≥ 0) = false := by decide
  refine T.regi hm ?_
  simp only [↓reduceIte, namesOf, List.any, I.names, aopsI, astep, ev, setd, List.set, List.getD, List.getElem?_cons_zero, List.getElem?_cons_succ, then_normal, Option.getD_some, Bool.or_false, Bool.false_eq_true, up_zero, binv, ↓opt_def, ldc, eq_self, hr, Nat.zero_add, e1]
  refine h2 _ _ ?_
  try clear h2 K_h2
  refine T.cond rfl (fun h => by cases h) (fun _ => ?_)
  refine T.skip ?_
  refine h1 _ _ ?_
  try clear h1 K_h1
  refine T.seq_k (fun K_h1 h1 => ?_)
  refine T.seq_k (fun K_h2 h2 => ?_)
  have e2 : IntKind.i64.wrap (at_ + (w : Int)) = at_ + w := wrap64 (by omega) (by omega)
  by_cases hok : at_ + (w : Int) ≤ l.length
  case neg =>
    have e3 : decide (at_ + (w : Int) > l.length) = true := decide_eq_true (by omega)
    refine T.regi hm ?_
    simp only [↓reduceIte, namesOf, List.any, I.names, aopsI, astep, ev, setd, List.set, List.getD, List.getElem?_cons_zero, List.getElem?_cons_succ, then_normal, Option.getD_some, Bool.or_false, Bool.false_eq_true, up_zero, binv, ↓opt_def, ldc, eq_self, hr, Nat.zero_add, bytesAV_len, e2, e3, Bool.not_true]
    refine h2 _ _ ?_
    try clear h2 K_h2
    refine T.cond rfl (fun _ => ?_) (fun h => by cases h)
    refine T.seq_k (fun K_h2 h2 => ?_)
    refine T.regi hm ?_
    simp only [↓reduceIte, namesOf, List.any, I.names, aopsI, astep, ev, setd, List.set, List.getD, List.getElem?_cons_zero, List.getElem?_cons_succ, List.cons_append, List.nil_append, List.length_cons, List.length_nil, then_normal, Option.getD_some, Bool.or_false, Bool.false_eq_true, up_zero, Nat.reduceAdd, ↓opt_def, AV.isAny, AV.cells, ldc, eq_self, decide_true, hr, AV.fits, AV.one, List.all_cons, List.all_nil, Nat.reduceBEq, Bool.not_false, Bool.and_self, Nat.zero_add, splice, List.take, List.drop, Nat.reduceLeDiff]
    refine h2 _ _ ?_
    try clear h2 K_h2
    refine T.seq_k (fun K_h2 h2 => ?_)
    refine T.regi hm ?_
    simp only [↓reduceIte, namesOf, List.any, I.names, aopsI, astep, ev, setd, List.set, then_normal, Bool.or_false, Bool.false_eq_true, up_zero, eq_self]
    refine h2 _ _ ?_
    try clear h2 K_h2
    exact T.ret (Fin.ret rfl (.inr ⟨fun h => by have := h.2; omega, rfl, rfl⟩))
  have e3 : decide (at_ + (w : Int) > l.length) = false := decide_eq_false (by omega)
  refine T.regi hm ?_
  simp only [↓reduceIte, namesOf, List.any, I.names, aopsI, astep, ev, setd, List.set, List.getD, List.getElem?_cons_zero, List.getElem?_cons_succ, then_normal, Option.getD_some, Bool.or_false, Bool.false_eq_true, up_zero, binv, ↓opt_def, ldc, eq_self, hr, Nat.zero_add, bytesAV_len, e2, e3, Bool.not_true]
  refine h2 _ _ ?_
  try clear h2 K_h2
  refine T.cond rfl (fun h => by cases h) (fun _ => ?_)
  refine T.skip ?_
  refine h1 _ _ ?_
  try clear h1 K_h1
  refine T.seq_k (fun K_h1 h1 => ?_)
  refine T.regi hm ?_
  simp only [↓reduceIte, namesOf, List.any, I.names, aopsI, astep, ev, setd, List.set, then_normal, Bool.or_false, Bool.false_eq_true, up_zero, eq_self]
  refine h1 _ _ ?_
  try clear h1 K_h1
  refine T.seq_k (fun K_h1 h1 => ?_)
  refine T.seq_k (fun K_h2 h2 => ?_)
  refine T.regi hm ?_
  simp only [↓reduceIte, namesOf, List.any, I.names, aopsI, astep, ev, setd, List.set, then_normal, Bool.or_false, Bool.false_eq_true, up_zero, eq_self]
  refine h2 _ _ ?_
  try clear h2 K_h2
  refine T.block ?_
  obtain ⟨a, rfl⟩ : ∃ a : Nat, at_ = (a : Int) := ⟨at_.toNat, by omega⟩
  have hbl : ((l.drop a).take w).length = w := by rw [List.length_take, List.length_drop]; omega
  generalize hbs : (l.drop a).take w = bs at hbl
  have hget : ∀ i, (h : i < w) → (h2 : a + i < l.length) → l[a + i] = bs[i]'(by omega) := by
    intro i h h2
    subst hbs
    simp
  refine T.gh (Gh.keep [0, 1, 6, 7]) ?_
  refine T.loop (fun ρ σ' => σ' = σ ∧ ∃ (i : Nat), i ≤ w ∧ ρ = [.ptr n 0, .int .i64 w, .any, .any, .any, .any, .int .u64 (numB (bs.take i) : Int), .int .i64 (i : Int)] ++ List.replicate 61 .any)
    (fun ρ _ => match ρ.getD 7 .any with | .int _ m => (w - m).toNat | _ => 0) ⟨rfl, 0, Nat.zero_le _, rfl⟩ ?_
  rintro ρ σ' ⟨rfl, i, hi, rfl⟩
  refine T.seq_k (fun K_h2 h2 => ?_)
  refine T.seq_k (fun K_h3 h3 => ?_)
  refine T.regi hm ?_
  simp only [↓reduceIte, namesOf, List.any, I.names, aopsI, astep, ev, setd, List.set, List.getD, List.getElem?_cons_zero, List.getElem?_cons_succ, List.cons_append, List.nil_append, List.replicate, then_normal, Option.getD_some, Bool.or_false, Bool.false_eq_true, up_zero, binv, ↓opt_def, Int.toNat_natCast, eq_self]
  refine h3 _ _ ?_
  try clear h3 K_h3
  refine T.cond rfl (fun hb => ?_) (fun hb => ?_)
  · refine T.skip ?_
    refine h2 _ _ ?_
    try clear h2 K_h2
    have hil : i < w := by simp at hb; omega
    clear hb
    have hlt := numB_lt bs i (by omega)
    have h256 : 256 ^ i ≤ 256 ^ 7 := Nat.pow_le_pow_right (by omega) (by omega)
    have hlt' : numB (bs.take i) < 72057594037927936 := by omega
    have hal : a + i < l.length := by omega
    have e4 := u64_mul _ hlt'
    have e5 := u64_add _ bs[i] hlt'
    have e6 := u64_byte bs[i]
    rw [← numB_take (by omega)] at e5
    have e7 : IntKind.i64.wrap ((a : Int) + (i : Int)) = ((a + i : Nat) : Int) := by rw [wrap64 (by omega) (by omega)]; omega
    have e8 := bytes_get hal
    rw [hget i hil hal] at e8
    refine T.seq_k (fun K_h2 h2 => ?_)
    refine T.block ?_
    refine T.regi hm ?_
    simp only [↓reduceIte, namesOf, List.any, I.names, aopsI, astep, ev, setd, List.set, List.getD, List.getElem?_cons_zero, List.getElem?_cons_succ, List.cons_append, List.nil_append, List.length_cons, List.length_nil, List.replicate, then_normal, inBlock_normal, Option.getD_some, Bool.or_false, Bool.false_eq_true, up_zero, binv, ↓opt_def, AV.cells, ldc, Int.natCast_nonneg, lt_len, Int.toNat_natCast, and_true, eq_self, hr, Nat.zero_add, bytesAV_len, e4, e7, e8, e6, e5, hal]
    refine h2 _ _ ?_
    try clear h2 K_h2
    have e9 : IntKind.i64.wrap ((i : Int) + 1) = (i : Int) + 1 := wrap64 (by omega) (by omega)
    refine T.regi hm ?_
    simp only [↓reduceIte, namesOf, List.any, I.names, aopsI, astep, ev, setd, List.set, List.getD, List.getElem?_cons_zero, List.getElem?_cons_succ, List.cons_append, List.nil_append, List.replicate, then_normal, Option.getD_some, Bool.or_false, Bool.false_eq_true, up_zero, binv, ↓opt_def, Int.toNat_natCast, eq_self, e9]
    refine ⟨_, _, Gh.keep [0, 1, 6, 7], ⟨rfl, i + 1, hil, rfl⟩, ?_⟩
    show ((w : Int) - ((i : Int) + 1)).toNat < ((w : Int) - (i : Int)).toNat
    omega
  · refine T.exit ?_
    have : i = w := by simp at hb; omega
    subst this
    rw [show bs.take i = bs by rw [← hbl, List.take_length]]
    try simp only [↓reduceIte, List.getD, List.getElem?_cons_zero, List.getElem?_cons_succ, List.cons_append, List.nil_append, List.replicate, then_normal, Option.getD_some, Int.toNat_natCast, eq_self, inBlock_exit, then_exit]
    refine h1 _ _ ?_
    try clear h1 K_h1
    refine T.seq_k (fun K_h1 h1 => ?_)
    refine T.regi hm ?_
    simp only [↓reduceIte, namesOf, List.any, I.names, aopsI, astep, ev, setd, List.set, List.getD, List.getElem?_cons_zero, List.getElem?_cons_succ, List.cons_append, List.nil_append, List.length_cons, List.length_nil, then_normal, Option.getD_some, Bool.or_false, Bool.false_eq_true, up_zero, Nat.reduceAdd, binv, ↓opt_def, AV.isAny, AV.cells, ldc, Int.toNat_natCast, eq_self, decide_true, hr, e2, AV.fits, AV.one, List.all_cons, List.all_nil, Nat.reduceBEq, Bool.not_false, Bool.and_self, Nat.zero_add, splice, List.take, List.drop, Nat.reduceLeDiff]
    refine h1 _ _ ?_
    try clear h1 K_h1
    refine T.seq_k (fun K_h1 h1 => ?_)
    refine T.regi hm ?_
    simp only [↓reduceIte, namesOf, List.any, I.names, aopsI, astep, ev, setd, List.set, List.getD, List.getElem?_cons_zero, List.getElem?_cons_succ, then_normal, Option.getD_some, Bool.or_false, Bool.false_eq_true, up_zero, Int.toNat_natCast, eq_self]
    refine h1 _ _ ?_
    try clear h1 K_h1
    exact T.ret (Fin.ret rfl (.inl ⟨⟨rfl, by omega⟩, by rw [Int.toNat_natCast, hbs]; rfl, rfl⟩))
end Go.VL
