/- Contracts: readers. A reader is an owned row of three: bytes, how far, where amiss. -/
import Derived.Test.YtlbnimbgodmagaaVpH
namespace Go.VL
open Go.Proofs

def rd (l : List UInt8) (g : Ver) (at_ bad : Int) : Res := .obj [.sl (bytesAV l) g, .int .i64 at_, .int .i64 bad]

theorem wbad_ok {l : List UInt8} {g : Ver} {at_ bad : Int} {n : Nat} {σ : St} (hr : σ.res n = some (rd l g at_ bad)) : ACalls Try.prog n_wbad [.ptr n 0] σ (fun v σ' => v = .int .i64 bad ∧ σ' = σ) := by
  refine s_wbad (fun wf => ?_)
  unfold c_wbad rd at *
  refine T.seq_k (fun K_h1 h1 => ?_)
  refine T.regi hm ?_
  simp only [↓reduceIte, namesOf, List.any, I.names, aopsI, astep, ev, setd, List.set, List.cons_append, List.nil_append, List.length_cons, List.length_nil, List.replicate, then_normal, Bool.or_false, Bool.false_eq_true, up_zero, Nat.reduceAdd, Nat.reduceSub]
  refine h1 _ _ ?_
  try clear h1 K_h1
  refine T.seq_k (fun K_h1 h1 => ?_)
  refine T.regi hm ?_
  simp only [↓reduceIte, namesOf, List.any, I.names, aopsI, astep, ev, setd, List.set, List.getD, List.getElem?_cons_zero, List.getElem?_cons_succ, then_normal, Option.getD_some, Bool.or_false, Bool.false_eq_true, up_zero, ↓opt_def, ldc, hr, Nat.zero_add]
  refine h1 _ _ ?_
  try clear h1 K_h1
  exact T.ret (Fin.ret rfl ⟨rfl, rfl⟩)

theorem wleft_ok {l : List UInt8} {g : Ver} {at_ bad : Int} {n : Nat} {σ : St} (hl : l.length ≤ 1099511627776) (h0 : 0 ≤ at_) (h1' : at_ ≤ l.length) (hr : σ.res n = some (rd l g at_ bad)) :
    ACalls Try.prog n_wleft [.ptr n 0] σ (fun v σ' => v = .int .i64 (l.length - at_) ∧ σ' = σ) := by
  refine s_wleft (fun wf => ?_)
  unfold c_wleft rd at *
  refine T.seq_k (fun K_h1 h1 => ?_)
  refine T.regi hm ?_
  simp only [↓reduceIte, namesOf, List.any, I.names, aopsI, astep, ev, setd, List.set, List.cons_append, List.nil_append, List.length_cons, List.length_nil, List.replicate, then_normal, Bool.or_false, Bool.false_eq_true, up_zero, Nat.reduceAdd, Nat.reduceSub]
  refine h1 _ _ ?_
  try clear h1 K_h1
  refine T.seq_k (fun K_h1 h1 => ?_)
  have e1 : IntKind.i64.wrap ((l.length : Int) - at_) = (l.length : Int) - at_ := wrap64 (by omega) (by omega)
  refine T.regi hm ?_
  simp only [↓reduceIte, namesOf, List.any, I.names, aopsI, astep, ev, setd, List.set, List.getD, List.getElem?_cons_zero, List.getElem?_cons_succ, then_normal, Option.getD_some, Bool.or_false, Bool.false_eq_true, up_zero, binv, ↓opt_def, ldc, eq_self, hr, Nat.zero_add, bytesAV_len, e1]
  refine h1 _ _ ?_
  try clear h1 K_h1
  exact T.ret (Fin.ret rfl ⟨rfl, rfl⟩)

theorem wfail_ok {l : List UInt8} {g : Ver} {at_ bad x : Int} {n : Nat} {σ : St} (hr : σ.res n = some (rd l g at_ bad)) :
    ACalls Try.prog n_wfail [.ptr n 0, .int .i64 x] σ (fun _ σ' => σ' = σ.set n (rd l g at_ (if bad = -1 then x else bad))) := by
  refine s_wfail (fun wf => ?_)
  unfold c_wfail rd at *
  refine T.seq_k (fun K_h1 h1 => ?_)
  by_cases hb : bad = -1
  · have e : (bad == -1) = true := by simpa using hb
    refine T.regi hm ?_
    simp only [↓reduceIte, namesOf, List.any, I.names, aopsI, astep, ev, setd, List.set, List.getD, List.getElem?_cons_zero, List.getElem?_cons_succ, List.cons_append, List.nil_append, List.length_cons, List.length_nil, List.replicate, then_normal, Option.getD_some, Bool.or_false, Bool.false_eq_true, up_zero, Nat.reduceAdd, Nat.reduceSub, binv, ↓opt_def, ldc, eq_self, hr, Nat.zero_add, e]
    refine h1 _ _ ?_
    try clear h1 K_h1
    refine T.cond rfl (fun _ => ?_) (fun h => by cases h)
    refine T.regi hm ?_
    simp only [↓reduceIte, namesOf, List.any, I.names, aopsI, astep, ev, setd, List.set, List.getD, List.getElem?_cons_zero, List.getElem?_cons_succ, List.cons_append, List.nil_append, List.length_cons, List.length_nil, Option.getD_some, Bool.or_false, Bool.false_eq_true, up_zero, Nat.reduceAdd, AV.isAny, AV.cells, eq_self, decide_true, hr, AV.fits, AV.one, List.all_cons, List.all_nil, Nat.reduceBEq, Bool.not_false, Bool.and_self, Nat.zero_add, splice, List.take, List.drop, Nat.reduceLeDiff]
    refine Fin.retn rfl ?_
    simp only [hb, if_true]
  · have e : (bad == -1) = false := by simpa using hb
    refine T.regi hm ?_
    simp only [↓reduceIte, namesOf, List.any, I.names, aopsI, astep, ev, setd, List.set, List.getD, List.getElem?_cons_zero, List.getElem?_cons_succ, List.cons_append, List.nil_append, List.length_cons, List.length_nil, List.replicate, then_normal, Option.getD_some, Bool.or_false, Bool.false_eq_true, up_zero, Nat.reduceAdd, Nat.reduceSub, binv, ↓opt_def, ldc, eq_self, hr, Nat.zero_add, e]
    refine h1 _ _ ?_
    try clear h1 K_h1
    refine T.cond rfl (fun h => by cases h) (fun _ => ?_)
    refine T.skip (Fin.retn rfl ?_)
    simp only [if_neg hb]
    have : σ.set n (.obj [.sl (bytesAV l) g, .int .i64 at_, .int .i64 bad]) = σ := by
      rw [← St.set_self hr]
      simp
    exact this.symm

/-- what a reader may be -/
structure Rd (l : List UInt8) (at_ bad : Int) : Prop where
  len : l.length ≤ 1099511627776
  lo : 0 ≤ at_
  hi : at_ ≤ l.length

def takeOk (l : List UInt8) (at_ bad w : Int) : Prop := bad = -1 ∧ w ≤ l.length - at_

theorem wtake_ok {l : List UInt8} {g : Ver} {at_ bad : Int} {w n : Nat} {σ : St} (hd : Rd l at_ bad) (hw : w ≤ 1000) (hr : σ.res n = some (rd l g at_ bad)) :
    ACalls Try.prog n_wtake [.ptr n 0, .int .i64 w] σ (fun v σ' => (takeOk l at_ bad w ∧ v = .sl (bytesAV ((l.drop at_.toNat).take w)) .none ∧ σ' = σ.set n (rd l g (at_ + w) bad)) ∨
      (¬ takeOk l at_ bad w ∧ v = .sl [] .none ∧ σ' = σ.set n (rd l g at_ (if bad = -1 then at_ else bad)))) := by
  obtain ⟨hl, h0, hhi⟩ := hd
  refine s_wtake (fun wf => ?_)
  unfold c_wtake
  refine T.seq_k (fun K_h1 h1 => ?_)
  refine T.regi hm ?_
  simp only [↓reduceIte, namesOf, List.any, I.names, aopsI, astep, ev, setd, List.set, List.cons_append, List.nil_append, List.length_cons, List.length_nil, List.replicate, then_normal, Bool.or_false, Bool.false_eq_true, up_zero, Nat.reduceAdd, Nat.reduceSub]
  refine h1 _ _ ?_
  try clear h1 K_h1
  refine T.seq_k (fun K_h1 h1 => ?_)
  refine T.seq_k (fun K_h2 h2 => ?_)
  have hr' := hr
  unfold rd at hr
  have hfail : ¬ takeOk l at_ bad w → ∀ ρ, keep [0, 23] 0 ρ = [.ptr n 0] ++ List.replicate 22 .any ++ [.bool true] ++ List.replicate 29 .any → K_h2 ρ σ := by
    intro hno ρ hρ
    refine h2 _ _ (T.gh (Gh.keep [0, 23]) ?_)
    rw [hρ]
    clear h1 h2 hρ ρ
    refine T.cond rfl (fun _ => ?_) (fun h => by cases h)
    refine T.seq_k (fun K_h1 h1 => ?_)
    refine T.regi hm ?_
    simp only [↓reduceIte, namesOf, List.any, I.names, aopsI, astep, ev, setd, List.set, List.getD, List.getElem?_cons_zero, List.getElem?_cons_succ, List.cons_append, List.nil_append, List.replicate, then_normal, Option.getD_some, Bool.or_false, Bool.false_eq_true, up_zero, ↓opt_def, ldc, List.map_cons, List.map_nil, hr, Nat.zero_add]
    refine (wfail_ok (σ := σ) hr').mono ?_
    rintro v σ2 rfl
    refine h1 _ _ ?_
    try clear h1 K_h1
    refine T.seq_k (fun K_h1 h1 => ?_)
    refine T.regi hm ?_
    simp only [↓reduceIte, namesOf, List.any, I.names, aopsI, astep, ev, setd, List.set, then_normal, Bool.or_false, Bool.false_eq_true, up_zero]
    refine h1 _ _ ?_
    try clear h1 K_h1
    exact T.ret (Fin.retw rfl (Wk.sl _ _) (.inr ⟨hno, rfl, rfl⟩))
  by_cases hbad : bad = -1
  · have e1 : (bad != -1) = false := by simpa using hbad
    have e2 : IntKind.i64.wrap ((l.length : Int) - at_) = (l.length : Int) - at_ := wrap64 (by omega) (by omega)
    by_cases hwl : (w : Int) ≤ l.length - at_
    · have e3 : decide ((w : Int) > (l.length : Int) - at_) = false := decide_eq_false (by omega)
      have e4 : IntKind.i64.wrap (at_ + (w : Int)) = at_ + w := wrap64 (by omega) (by omega)
      have e5 : IntKind.i64.wrap (at_ + (w : Int) - w) = at_ := by rw [wrap64 (by omega) (by omega)]; omega
      refine T.regi hm ?_
      simp only [↓reduceIte, namesOf, List.any, I.names, aopsI, astep, ev, setd, List.set, List.getD, List.getElem?_cons_zero, List.getElem?_cons_succ, then_normal, Option.getD_some, Bool.or_false, Bool.false_eq_true, up_zero, binv, ↓opt_def, ldc, eq_self, hr, Nat.zero_add, bytesAV_len, e1, e2, e3]
      refine h2 _ _ ?_
      try clear h2 K_h2
      refine T.cond rfl (fun h => by cases h) (fun _ => ?_)
      refine T.skip ?_
      refine h1 _ _ ?_
      try clear h1 K_h1
      refine T.seq_k (fun K_h1 h1 => ?_)
      refine T.regi hm ?_
      simp only [↓reduceIte, namesOf, List.any, I.names, aopsI, astep, ev, setd, List.set, List.getD, List.getElem?_cons_zero, List.getElem?_cons_succ, List.cons_append, List.nil_append, List.length_cons, List.length_nil, then_normal, Option.getD_some, Bool.or_false, Bool.false_eq_true, up_zero, Nat.reduceAdd, binv, ↓opt_def, AV.isAny, AV.cells, ldc, eq_self, decide_true, hr, e4, AV.fits, AV.one, List.all_cons, List.all_nil, Nat.reduceBEq, Bool.not_false, Bool.and_self, Nat.zero_add, splice, List.take, List.drop, Nat.reduceLeDiff]
      refine h1 _ _ ?_
      try clear h1 K_h1
      refine T.seq_k (fun K_h1 h1 => ?_)
      have e6 : 0 ≤ at_ ∧ at_ ≤ at_ + (w : Int) ∧ at_ + (w : Int) ≤ (l.length : Int) := by omega
      refine T.regi hm ?_
      simp only [↓reduceIte, namesOf, List.any, I.names, aopsI, astep, ev, setd, List.set, List.getD, List.getElem?_cons_zero, List.getElem?_cons_succ, then_normal, Option.getD_some, Bool.or_false, Bool.false_eq_true, up_zero, binv, ↓opt_def, ldc, St.set_same, and_true, eq_self, e5, Nat.zero_add, idx, bytesAV_len, bytes_all, e6]
      refine h1 _ _ ?_
      try clear h1 K_h1
      refine T.ret (Fin.retw rfl (Wk.sl _ _) (.inl ⟨⟨hbad, hwl⟩, ?_, rfl⟩))
      rw [show (at_ + (w : Int) - at_).toNat = w by omega, bytes_drop, bytes_take]
    · have e3 : decide ((w : Int) > (l.length : Int) - at_) = true := decide_eq_true (by omega)
      refine T.regi hm ?_
      simp only [↓reduceIte, namesOf, List.any, I.names, aopsI, astep, ev, setd, List.set, List.getD, List.getElem?_cons_zero, List.getElem?_cons_succ, then_normal, Option.getD_some, Bool.or_false, Bool.false_eq_true, up_zero, binv, ↓opt_def, ldc, eq_self, hr, Nat.zero_add, bytesAV_len, e1, e2, e3]
      exact hfail (fun h => hwl h.2) _ rfl
  · have e1 : (bad != -1) = true := by simpa using hbad
    refine T.regi hm ?_
    simp only [↓reduceIte, namesOf, List.any, I.names, aopsI, astep, ev, setd, List.set, List.getD, List.getElem?_cons_zero, List.getElem?_cons_succ, then_normal, Option.getD_some, Bool.or_false, Bool.false_eq_true, up_zero, binv, ↓opt_def, ldc, eq_self, reduceCtorEq, hr, Nat.zero_add, e1]
    exact hfail (fun h => hbad h.1) _ rfl
def numB (l : List UInt8) : Nat := l.foldl (fun n b => 256 * n + b.toNat) 0
theorem numB_take {l : List UInt8} {i : Nat} (h : i < l.length) : numB (l.take (i + 1)) = 256 * numB (l.take i) + l[i].toNat := by
  unfold numB; rw [List.take_succ_eq_append_getElem h, List.foldl_append]; rfl
theorem numB_lt : ∀ (l : List UInt8) (i : Nat), i ≤ l.length → numB (l.take i) < 256 ^ i
  | l, 0, _ => by simp [numB]
  | l, i + 1, h => by
    have h1 := numB_lt l i (by omega)
    have h2 := (l[i]'(by omega)).toNat_lt
    rw [numB_take (by omega), Nat.pow_succ]
    omega

theorem u64_shl8 (a : Nat) (h : a < 72057594037927936) : IntKind.u64.wrap ((a : Int) * 2 ^ min (8 : Int).toNat IntKind.u64.bits) = ((a * 256 : Nat) : Int) := by
  have : (2 : Int) ^ min (8 : Int).toNat IntKind.u64.bits = 256 := by simp [IntKind.bits]
  rw [this]
  simp [IntKind.wrap, IntKind.bits, IntKind.signed]; omega
theorem u64_byte (b : UInt8) : IntKind.u64.wrap (b.toNat : Int) = (b.toNat : Int) := by
  have := b.toNat_lt
  simp [IntKind.wrap, IntKind.bits, IntKind.signed]; omega
theorem u64_or (a : Nat) (b : UInt8) (h : a < 72057594037927936) : IntKind.u64.wrap ((BitVec.ofInt IntKind.u64.bits ((a * 256 : Nat) : Int) ||| BitVec.ofInt IntKind.u64.bits (b.toNat : Int)).toNat) = ((256 * a + b.toNat : Nat) : Int) := by
  have hb := b.toNat_lt
  have h1 : BitVec.ofInt IntKind.u64.bits ((a * 256 : Nat) : Int) = BitVec.ofNat 64 (a * 256) := BitVec.ofInt_natCast ..
  have h2 : BitVec.ofInt IntKind.u64.bits (b.toNat : Int) = BitVec.ofNat 64 b.toNat := BitVec.ofInt_natCast ..
  rw [h1, h2]
  have h3 : (BitVec.ofNat 64 (a * 256) ||| BitVec.ofNat 64 b.toNat : BitVec 64).toNat = 256 * a + b.toNat := by
    rw [BitVec.toNat_or, BitVec.toNat_ofNat, BitVec.toNat_ofNat, Nat.mod_eq_of_lt (by omega), Nat.mod_eq_of_lt (by omega)]
    have := Nat.shiftLeft_add_eq_or_of_lt (b := b.toNat) (i := 8) (by omega) a
    rw [Nat.shiftLeft_eq] at this
    rw [show a * 256 = a * 2 ^ 8 from rfl, ← this]; omega
  show IntKind.u64.wrap (((BitVec.ofNat 64 (a * 256) ||| BitVec.ofNat 64 b.toNat : BitVec 64).toNat : Nat) : Int) = _
  rw [h3]
  simp [IntKind.wrap, IntKind.bits, IntKind.signed]; omega

set_option maxHeartbeats 1000000 in
theorem wword_ok {l : List UInt8} {g : Ver} {at_ bad : Int} {w n : Nat} {σ : St} (hd : Rd l at_ bad) (hw : rightB w = true) (hr : σ.res n = some (rd l g at_ bad)) :
    ACalls Try.prog n_wword [.ptr n 0, .int .i64 w] σ (fun v σ' => (takeOk l at_ bad w ∧ v = .int .u64 (numB ((l.drop at_.toNat).take w) : Int) ∧ σ' = σ.set n (rd l g (at_ + w) bad)) ∨
      (¬ takeOk l at_ bad w ∧ v = .int .u64 0 ∧ σ' = σ.set n (rd l g at_ (if bad = -1 then at_ else bad)))) := by
  have hw8 : w ≤ 8 := by simp [rightB] at hw; omega
  refine s_wword (fun wf => ?_)
  unfold c_wword
  refine T.seq_k (fun K_h1 h1 => ?_)
  refine T.regi hm ?_
  simp only [↓reduceIte, namesOf, List.any, I.names, aopsI, astep, ev, setd, List.set, List.cons_append, List.nil_append, List.length_cons, List.length_nil, List.replicate, then_normal, Bool.or_false, Bool.false_eq_true, up_zero, Nat.reduceAdd, Nat.reduceSub]
  refine h1 _ _ ?_
  try clear h1 K_h1
  refine T.seq_k (fun K_h1 h1 => ?_)
  refine T.seq_k (fun K_h2 h2 => ?_)
  refine T.regt hm t1_ok ?_
  simp only [↓reduceIte, namesOf, List.any, I.names, aopsT, qstep, CPt, Tbl.get, astep, ev, setd, List.set, List.getD, List.getElem?_cons_zero, List.getElem?_cons_succ, then_normal, Option.getD_some, Bool.or_false, Bool.false_eq_true, up_zero, ↓opt_def, List.map_cons, List.map_nil, eq_self, t1, g_right, hw]
  refine h2 _ _ ?_
  try clear h2 K_h2
  refine T.cond rfl (fun h => by cases h) (fun _ => ?_)
  refine T.skip ?_
  refine h1 _ _ ?_
  try clear h1 K_h1
  refine T.seq_k (fun K_h1 h1 => ?_)
  refine T.regi hm ?_
  simp only [↓reduceIte, namesOf, List.any, I.names, aopsI, astep, ev, setd, List.set, then_normal, Bool.or_false, Bool.false_eq_true, up_zero]
  refine h1 _ _ ?_
  try clear h1 K_h1
  refine T.seq_k (fun K_h1 h1 => ?_)
  refine T.seq_k (fun K_h2 h2 => ?_)
  have hloop : ∀ (bs : List UInt8) (σ1 : St), bs.length ≤ 8 → ∀ ρ, keep [5, 19, 20, 21] 0 ρ = List.replicate 5 .any ++ [.int .u64 0] ++ List.replicate 13 .any ++ [.sl (bytesAV bs) .none, .int .i64 (bs.length : Int), .int .i64 0] ++ List.replicate 10 .any →
      (∀ ρ, keep [5] 0 ρ = List.replicate 5 .any ++ [.int .u64 (numB bs : Int)] ++ List.replicate 26 .any → K_h1 ρ σ1) → K_h2 ρ σ1 := by
    intro bs σ1 hbl ρ hρ hend
    refine h2 _ _ ?_
    refine T.block ?_
    refine T.gh (Gh.keep [5, 19, 20, 21]) ?_
    rw [hρ]
    clear h2 hρ ρ
    refine T.loop (fun ρ σ' => σ' = σ1 ∧ ∃ (i : Nat), i ≤ bs.length ∧ ρ = List.replicate 5 .any ++ [.int .u64 (numB (bs.take i) : Int)] ++ List.replicate 13 .any ++ [.sl (bytesAV bs) .none, .int .i64 (bs.length : Int), .int .i64 (i : Int)] ++ List.replicate 10 .any)
      (fun ρ _ => match ρ.getD 21 .any with | .int _ m => (bs.length - m).toNat | _ => 0) ⟨rfl, 0, Nat.zero_le _, rfl⟩ ?_
    rintro ρ σ' ⟨rfl, i, hi, rfl⟩
    refine T.seq_k (fun K_h2 h2 => ?_)
    refine T.regi hm ?_
    simp only [↓reduceIte, namesOf, List.any, I.names, aopsI, astep, ev, setd, List.set, List.getD, List.getElem?_cons_zero, List.getElem?_cons_succ, List.cons_append, List.nil_append, List.replicate, then_normal, Option.getD_some, Bool.or_false, Bool.false_eq_true, up_zero, binv, ↓opt_def, lt_len, eq_self]
    refine h2 _ _ ?_
    try clear h2 K_h2
    refine T.seq_k (fun K_h2 h2 => ?_)
    refine T.cond rfl (fun hb => ?_) (fun hb => ?_)
    · refine T.skip ?_
      refine h2 _ _ ?_
      try clear h2 K_h2
      have hil : i < bs.length := by simp at hb; omega
      clear hb
      have hlt := numB_lt bs i (by omega)
      have h256 : 256 ^ i ≤ 256 ^ 7 := Nat.pow_le_pow_right (by omega) (by omega)
      have hlt' : numB (bs.take i) < 72057594037927936 := by omega
      have e1 := u64_shl8 _ hlt'
      have e2 := u64_or _ bs[i] hlt'
      have e3 := u64_byte bs[i]
      rw [← numB_take hil] at e2
      refine T.seq_k (fun K_h2 h2 => ?_)
      refine T.block ?_
      refine T.seq_k (fun K_h3 h3 => ?_)
      refine T.regi hm ?_
      simp only [↓reduceIte, namesOf, List.any, I.names, aopsI, astep, ev, setd, List.set, List.getD, List.getElem?_cons_zero, List.getElem?_cons_succ, List.cons_append, List.nil_append, List.length_cons, List.length_nil, List.replicate, then_normal, Option.getD_some, Bool.or_false, Bool.false_eq_true, up_zero, Nat.reduceAdd, ↓opt_def, AV.cells, ldc, Int.natCast_nonneg, lt_len, Int.toNat_natCast, and_true, eq_self, decide_true, bytesAV_len, bytes_get hil, hil]
      refine h3 _ _ ?_
      try clear h3 K_h3
      refine T.regi hm ?_
      simp only [↓reduceIte, namesOf, List.any, I.names, aopsI, astep, ev, setd, List.set, List.getD, List.getElem?_cons_zero, List.getElem?_cons_succ, List.cons_append, List.nil_append, List.replicate, then_normal, inBlock_normal, Option.getD_some, Bool.or_false, Bool.false_eq_true, up_zero, binv, ↓opt_def, eq_self, e1, e2, e3, show ¬ ((8 : Int) < 0) by omega]
      refine h2 _ _ ?_
      try clear h2 K_h2
      have e4 : IntKind.i64.wrap ((i : Int) + 1) = (i : Int) + 1 := wrap64 (by omega) (by omega)
      refine T.regi hm ?_
      simp only [↓reduceIte, namesOf, List.any, I.names, aopsI, astep, ev, setd, List.set, List.getD, List.getElem?_cons_zero, List.getElem?_cons_succ, List.cons_append, List.nil_append, List.replicate, then_normal, Option.getD_some, Bool.or_false, Bool.false_eq_true, up_zero, binv, ↓opt_def, eq_self, e4]
      refine ⟨_, _, Gh.keep [5, 19, 20, 21], ⟨rfl, i + 1, hil, rfl⟩, ?_⟩
      show ((bs.length : Int) - ((i : Int) + 1)).toNat < ((bs.length : Int) - (i : Int)).toNat
      omega
    · refine T.exit ?_
      have : i = bs.length := by simp at hb; omega
      subst this
      rw [List.take_length]
      exact hend _ rfl
  refine T.regi hm ?_
  simp only [↓reduceIte, namesOf, List.any, I.names, aopsI, astep, ev, setd, List.set, List.getD, List.getElem?_cons_zero, List.getElem?_cons_succ, then_normal, Option.getD_some, Bool.or_false, Bool.false_eq_true, up_zero, List.map_cons, List.map_nil]
  refine (wtake_ok hd (by omega) hr).mono ?_
  have hfin : ∀ (x : Int) (σ1 : St), ((takeOk l at_ bad w ∧ AV.int .u64 x = .int .u64 (numB ((l.drop at_.toNat).take w) : Int) ∧ σ1 = σ.set n (rd l g (at_ + w) bad)) ∨
      (¬ takeOk l at_ bad w ∧ AV.int .u64 x = .int .u64 0 ∧ σ1 = σ.set n (rd l g at_ (if bad = -1 then at_ else bad)))) → ∀ ρ, keep [5] 0 ρ = List.replicate 5 .any ++ [.int .u64 x] ++ List.replicate 26 .any → K_h1 ρ σ1 := by
    intro x σ1 hx ρ h5
    refine h1 _ _ (T.gh (Gh.keep [5]) ?_)
    rw [h5]
    clear h1 hloop h2 h5 ρ
    refine T.seq_k (fun K_h1 h1 => ?_)
    refine T.regi hm ?_
    simp only [↓reduceIte, namesOf, List.any, I.names, aopsI, astep, ev, setd, List.set, List.getD, List.getElem?_cons_zero, List.getElem?_cons_succ, List.cons_append, List.nil_append, List.replicate, then_normal, Option.getD_some, Bool.or_false, Bool.false_eq_true, up_zero]
    refine h1 _ _ ?_
    try clear h1 K_h1
    exact T.ret (Fin.ret rfl hx)
  rintro v σ2 (⟨hok, rfl, rfl⟩ | ⟨hok, rfl, rfl⟩)
  · have hbl : ((l.drop at_.toNat).take w).length ≤ 8 := by rw [List.length_take]; omega
    try simp only [bytesAV_len]
    exact hloop _ _ hbl _ rfl (fun ρ h5 => hfin _ _ (.inl ⟨hok, rfl, rfl⟩) ρ h5)
  · try simp only [List.length_nil, List.length_nil]
    exact hloop [] _ (by simp) _ rfl (fun ρ h5 => hfin _ _ (.inr ⟨hok, rfl, rfl⟩) ρ h5)
end Go.VL
