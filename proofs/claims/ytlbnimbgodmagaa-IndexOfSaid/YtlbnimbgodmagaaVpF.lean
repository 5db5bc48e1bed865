/- Contracts: sealed bytes opened. -/
import Derived.Test.YtlbnimbgodmagaaVpE
namespace Go.VL
open Go.Proofs

theorem Wk.tup2 {a b c : AV} (h : Wk a b) : Wk (.tup [a, c]) (.tup [b, c]) := fun κ w v hv => by
  obtain ⟨u, rfl, hu⟩ := hv.tup_inv
  cases hu with
  | cons v x vs xs hx t => exact .tup _ _ (.cons _ _ _ _ (h κ w v hx) t)
theorem Fin.quietw {σ0 : St} {rs : List RX} {K : AV → St → Prop} {ρ : List AV} {σ : St} {xs : List AV} {y : AV} (h1 : rvals ρ σ rs = some xs) (hw : Wk (pack xs) y) (hx : y.nb σ0.next) (hr : ∀ n r, σ0.res n = some r → σ.res n = some r) (h2 : K y σ0) : Fin σ0 rs K .ret ρ σ :=
  ⟨ρ, σ, xs, _, σ0, .refl, h1, (Gv.wk hw).trans (.quiet hx hr), h2⟩

theorem toBytes_bytes : ∀ l : List UInt8, toBytes (bytesAV l) = some l
  | [] => rfl
  | b :: r => by
    have h := toBytes_bytes r
    simp only [bytesAV] at h
    simp only [bytesAV, List.map_cons, toBytes, h, Option.map_some, Int.toNat_natCast]
    simp
theorem ba_eq (a b : List UInt8) : decide ((⟨a.toArray⟩ : ByteArray) = ⟨b.toArray⟩) = decide (a = b) := by
  by_cases h : a = b
  · subst h; simp
  · rw [decide_eq_false h, decide_eq_false]
    intro e
    injection e with e
    exact h (by simpa using e)
theorem bytes_take (l : List UInt8) (n : Nat) : (bytesAV l).take n = bytesAV (l.take n) := by simp [bytesAV, List.map_take]
theorem bytes_drop (l : List UInt8) (n : Nat) : (bytesAV l).drop n = bytesAV (l.drop n) := by simp [bytesAV, List.map_drop]

theorem bequal_ok {a b : List UInt8} {g g' : Ver} {σ : St} : ACalls Try.prog n_bequal [.sl (bytesAV a) g, .sl (bytesAV b) g'] σ (fun v σ' => v = .bool (decide (a = b)) ∧ σ' = σ) := by
  refine s_bequal (fun wf => ?_)
  unfold c_bequal
  refine T.seq_k (fun K_h1 h1 => ?_)
  refine T.regi hm ?_
  simp only [↓reduceIte, namesOf, List.any, I.names, aopsI, astep, ev, setd, List.set, List.cons_append, List.nil_append, List.length_cons, List.length_nil, List.replicate, then_normal, Bool.or_false, Bool.false_eq_true, up_zero, Nat.reduceAdd, Nat.reduceSub]
  refine h1 _ _ ?_
  try clear h1 K_h1
  refine T.seq_k (fun K_h1 h1 => ?_)
  refine T.regi hm ?_
  simp only [↓reduceIte, namesOf, List.any, I.names, aopsI, astep, ev, setd, List.set, List.getD, List.getElem?_cons_zero, List.getElem?_cons_succ, then_normal, Option.getD_some, Bool.or_false, Bool.false_eq_true, up_zero, ↓opt_def, toBytes_bytes, sbinv, ba_eq]
  refine h1 _ _ ?_
  try clear h1 K_h1
  exact T.ret (Fin.ret rfl ⟨rfl, rfl⟩)

def openB (l : List UInt8) : Int × List UInt8 := if l.length < 4 then (2, []) else if l = sealB (l.take (l.length - 4)) then (0, l.take (l.length - 4)) else (7, [])
def errAV (c : Int) : AV := if c = 0 then .nili else .iface tCode (.int .i64 c)

theorem copen_ok {l : List UInt8} {g : Ver} {σ : St} (hl : l.length ≤ 1099511627776) : ACalls Try.prog n_copen [.sl (bytesAV l) g] σ (fun v σ' => v = .tup [.sl (bytesAV (openB l).2) .none, errAV (openB l).1] ∧ σ' = σ) := by
  refine s_copen (fun wf => ?_)
  unfold c_copen
  refine T.seq_k (fun K_h1 h1 => ?_)
  refine T.regi hm ?_
  simp only [↓reduceIte, namesOf, List.any, I.names, aopsI, astep, ev, setd, List.set, List.cons_append, List.nil_append, List.length_cons, List.length_nil, List.replicate, then_normal, Bool.or_false, Bool.false_eq_true, up_zero, Nat.reduceAdd, Nat.reduceSub]
  refine h1 _ _ ?_
  try clear h1 K_h1
  refine T.seq_k (fun K_h1 h1 => ?_)
  have e1 : IntKind.i64.wrap ((l.length : Int) - 4) = (l.length : Int) - 4 := wrap64 (by omega) (by omega)
  refine T.regi hm ?_
  simp only [↓reduceIte, namesOf, List.any, I.names, aopsI, astep, ev, setd, List.set, List.getD, List.getElem?_cons_zero, List.getElem?_cons_succ, then_normal, Option.getD_some, Bool.or_false, Bool.false_eq_true, up_zero, binv, ↓opt_def, eq_self, bytesAV_len, e1]
  refine h1 _ _ ?_
  try clear h1 K_h1
  refine T.seq_k (fun K_h1 h1 => ?_)
  refine T.block ?_
  refine T.seq_k (fun K_h2 h2 => ?_)
  refine T.regi hm ?_
  simp only [↓reduceIte, namesOf, List.any, I.names, aopsI, astep, ev, setd, List.set, List.getD, List.getElem?_cons_zero, List.getElem?_cons_succ, then_normal, Option.getD_some, Bool.or_false, Bool.false_eq_true, up_zero, binv, ↓opt_def, eq_self]
  refine h2 _ _ ?_
  try clear h2 K_h2
  refine T.cond rfl (fun hb => ?_) (fun hb => ?_)
  · have hlt : l.length < 4 := by simp at hb; omega
    have e2 : openB l = (2, []) := by unfold openB; rw [if_pos hlt]
    refine T.seq_k (fun K_h2 h2 => ?_)
    refine T.regi hm ?_
    simp only [↓reduceIte, namesOf, List.any, I.names, aopsI, astep, ev, setd, List.set, List.getD, List.getElem?_cons_zero, List.getElem?_cons_succ, then_normal, Option.getD_some, Bool.or_false, Bool.false_eq_true, up_zero]
    refine h2 _ _ ?_
    try clear h2 K_h2
    exact T.ret (Fin.quietw rfl (Wk.tup2 (Wk.sl _ _)) ⟨⟨trivial, trivial⟩, trivial, trivial⟩ (fun _ _ h => h) ⟨by rw [e2]; rfl, rfl⟩)
  · obtain ⟨n, hn⟩ : ∃ n, l.length = n + 4 := ⟨l.length - 4, by simp at hb; omega⟩
    have e2 : (l.length : Int) - 4 = (n : Int) := by omega
    have e3 : (n : Int) ≤ (((bytesAV l).length : Nat) : Int) := by rw [bytesAV_len]; omega
    have e4 : ¬ ((n : Int) = (((bytesAV l).length : Nat) : Int)) := by rw [bytesAV_len]; omega
    rw [e2]
    clear hb
    refine T.seq_k (fun K_h2 h2 => ?_)
    refine T.regi hm ?_
    simp only [↓reduceIte, namesOf, List.any, I.names, aopsI, astep, ev, setd, List.set, List.getD, List.getElem?_cons_zero, List.getElem?_cons_succ, then_normal, Option.getD_some, Bool.or_false, Bool.false_eq_true, up_zero, List.map_cons, List.map_nil, Int.natCast_nonneg, Int.toNat_natCast, and_true, eq_self, idx, e3, e4, bytes_all, Int.sub_zero, List.drop_zero, bytes_take, Int.toNat_zero, false_and, Int.le_refl]
    have hlt : (l.take n).length ≤ 1099511627776 := by rw [List.length_take]; omega
    refine (cseal_q hlt).mono ?_
    rintro v σ1 ⟨rfl, rfl⟩
    try simp only [↓reduceIte, namesOf, List.any, I.names, aops, aopsI, aopsT, qstep, CPt, qget, Tbl.get, astep, ev, setd, List.set, List.getD, List.getElem?_cons_zero, List.getElem?_cons_succ, List.getElem?_nil, List.cons_append, List.nil_append, List.length_cons, List.length_nil, List.replicate, then_normal, inBlock_normal, Option.getD_some, Option.getD_none, Bool.or_false, Bool.or_true, Bool.true_or, Bool.false_or, Bool.false_eq_true, if_false, if_true, up_zero, Nat.reduceAdd, Nat.reduceSub, binv, ↓opt_def, AV.isAny, AV.cells, ldc, List.map_cons, List.map_nil, St.set_next, St.set_same, St.up_next, Int.natCast_nonneg, lt_len, le_len, Int.toNat_natCast, true_and, and_true, eq_self, reduceCtorEq, decide_true, List.length_singleton, er_int, er_bool, er_str, up_zero]
    refine bequal_ok.mono ?_
    rintro v σ1 ⟨rfl, rfl⟩
    try simp only []
    refine h2 _ _ ?_
    try clear h2 K_h2
    have e5 : l.take (l.length - 4) = l.take n := by rw [hn]; rfl
    by_cases he : l = sealB (l.take n)
    · refine T.cond rfl (fun hb => by simp at hb; exact absurd he hb) (fun hb => ?_)
      have e6 : openB l = (0, l.take n) := by unfold openB; rw [if_neg (by omega), e5, if_pos he]
      refine T.skip ?_
      try simp only [then_normal, inBlock_normal, inBlock_normal]
      refine h1 _ _ ?_
      try clear h1 K_h1
      refine T.seq_k (fun K_h1 h1 => ?_)
      refine T.regi hm ?_
      simp only [↓reduceIte, namesOf, List.any, I.names, aopsI, astep, ev, setd, List.set, List.getD, List.getElem?_cons_zero, List.getElem?_cons_succ, List.nil_append, List.length_cons, List.length_nil, then_normal, Option.getD_some, Bool.or_false, Bool.or_true, Nat.reduceAdd, List.map_nil, St.set_same, Int.natCast_nonneg, Int.toNat_natCast, and_true, eq_self, idx, e3, e4, bytes_all, Int.sub_zero, List.drop_zero, bytes_take, Int.toNat_zero, false_and, Int.le_refl, held, srcOf, St.set_same, bytesAV_er, List.all_nil, Bool.true_and]
      rw [if_pos (by simp only [bytesAV_len, decide_eq_true_eq]; omega)]
      have o1 := ((OneTip.new (σ := σ1) (k := 1) (n := 7) (i := 0) (by omega)).mv wf (g2 := σ1.next + 4) (by omega) (by simp))
      refine h1 _ _ ?_
      try clear h1 K_h1
      exact T.ret (Fin.quietw rfl (Wk.tup2 (Wk.sl _ _)) ⟨⟨nb_bytes _ _, trivial⟩, trivial, trivial⟩ (o1.quiet wf) ⟨by rw [e6]; rfl, rfl⟩)
    · refine T.cond rfl (fun hb => ?_) (fun hb => by simp at hb; exact absurd hb he)
      have e6 : openB l = (7, []) := by unfold openB; rw [if_neg (by omega), e5, if_neg he]
      refine T.seq_k (fun K_h2 h2 => ?_)
      refine T.regi hm ?_
      simp only [↓reduceIte, namesOf, List.any, I.names, aopsI, astep, ev, setd, List.set, List.getD, List.getElem?_cons_zero, List.getElem?_cons_succ, then_normal, Option.getD_some, Bool.or_false, Bool.false_eq_true, up_zero]
      refine h2 _ _ ?_
      try clear h2 K_h2
      exact T.ret (Fin.quietw rfl (Wk.tup2 (Wk.sl _ _)) ⟨⟨trivial, trivial⟩, trivial, trivial⟩ (fun _ _ h => h) ⟨by rw [e6]; rfl, rfl⟩)
end Go.VL
