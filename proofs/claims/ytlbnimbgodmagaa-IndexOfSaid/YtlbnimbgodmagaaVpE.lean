/- Contracts: sealing. -/
import Derived.Test.YtlbnimbgodmagaaVpD
namespace Go.VL
open Go.Proofs

theorem csum_ok {l : List UInt8} {g : Ver} {σ : St} (hl : l.length ≤ 1099511627776) : ACalls Try.prog n_csum [.sl (bytesAV l) g] σ (fun v σ' => v = .int .u32 (crcOf l : Int) ∧ σ' = σ) := by
  refine s_csum (fun wf => ?_)
  unfold c_csum
  refine T.seq_k (fun K_h1 h1 => ?_)
  refine T.regi hm ?_
  simp only [↓reduceIte, namesOf, List.any, I.names, aopsI, astep, ev, setd, List.set, List.cons_append, List.nil_append, List.length_cons, List.length_nil, List.replicate, then_normal, Bool.or_false, Bool.false_eq_true, up_zero, Nat.reduceAdd, Nat.reduceSub]
  refine h1 _ _ ?_
  try clear h1 K_h1
  refine T.seq_k (fun K_h1 h1 => ?_)
  refine T.regi hm ?_
  simp only [↓reduceIte, namesOf, List.any, I.names, aopsI, astep, ev, setd, List.set, List.getD, List.getElem?_cons_zero, List.getElem?_cons_succ, then_normal, Option.getD_some, Bool.or_false, Bool.false_eq_true, up_zero, List.map_cons, List.map_nil]
  refine (con_ok hl).mono ?_
  rintro v σ' ⟨rfl, rfl⟩
  refine h1 _ _ ?_
  try clear h1 K_h1
  exact T.ret (Fin.ret rfl ⟨rfl, rfl⟩)

def sealB (l : List UInt8) : List UInt8 := l ++ beB 4 (crcOf l)
theorem sealB_len (l : List UInt8) : (sealB l).length = l.length + 4 := by simp [sealB, beB_len]

theorem u64_crc (l : List UInt8) : IntKind.u64.wrap (crcOf l : Int) = (crcOf l : Int) := by
  have := crcOf_lt l
  simp [IntKind.wrap, IntKind.bits, IntKind.signed]; omega

theorem cseal_ok {l : List UInt8} {g : Ver} {σ : St} (hl : l.length ≤ 1099511627776) : ACalls Try.prog n_cseal [.sl (bytesAV l) g] σ (fun v σ' => ∃ h, OneTip σ σ' h 1 ∧ v = .sl (bytesAV (sealB l)) (.tip h)) := by
  refine s_cseal (fun wf => ?_)
  unfold c_cseal
  refine T.seq_k (fun K_h1 h1 => ?_)
  refine T.regi hm ?_
  simp only [↓reduceIte, namesOf, List.any, I.names, aopsI, astep, ev, setd, List.set, List.cons_append, List.nil_append, List.length_cons, List.length_nil, List.replicate, then_normal, Bool.or_false, Bool.false_eq_true, up_zero, Nat.reduceAdd, Nat.reduceSub]
  refine h1 _ _ ?_
  try clear h1 K_h1
  refine T.seq_k (fun K_h1 h1 => ?_)
  refine T.regi hm ?_
  simp only [↓reduceIte, namesOf, List.any, I.names, aopsI, astep, ev, setd, List.set, List.getD, List.getElem?_cons_zero, List.getElem?_cons_succ, then_normal, Option.getD_some, Bool.or_false, Bool.false_eq_true, up_zero, ↓opt_def, List.map_cons, List.map_nil]
  refine (csum_ok hl).mono ?_
  rintro v σ' ⟨rfl, rfl⟩
  try simp only [u64_crc]
  have h4 := crcOf_lt l
  refine (wput_ok (w := 4) hl rfl (fun _ => by omega)).mono ?_
  rintro v σ2 ⟨h, o1, rfl⟩
  try simp only [List.getElem?_cons_zero, List.getElem?_cons_succ, List.getElem?_cons_succ]
  refine h1 _ _ ?_
  try clear h1 K_h1
  refine T.seq_k (fun K_h1 h1 => ?_)
  refine T.seq_k (fun K_h2 h2 => ?_)
  refine T.regi hm ?_
  simp only [↓reduceIte, namesOf, List.any, I.names, aopsI, astep, ev, setd, List.set, List.getD, List.getElem?_cons_zero, List.getElem?_cons_succ, then_normal, Option.getD_some, Bool.or_false, Bool.false_eq_true, up_zero, eq_self, eqIv, bne_self_eq_false]
  refine h2 _ _ ?_
  try clear h2 K_h2
  refine T.cond rfl (fun hb => by cases hb) (fun hb => ?_)
  refine T.skip ?_
  refine h1 _ _ ?_
  try clear h1 K_h1
  refine T.seq_k (fun K_h1 h1 => ?_)
  refine T.regi hm ?_
  simp only [↓reduceIte, namesOf, List.any, I.names, aopsI, astep, ev, setd, List.set, List.getD, List.getElem?_cons_zero, List.getElem?_cons_succ, then_normal, Option.getD_some, Bool.or_false, Bool.false_eq_true, up_zero]
  refine h1 _ _ ?_
  try clear h1 K_h1
  exact T.ret (Fin.ret rfl ⟨h, o1, rfl⟩)

theorem nb_bytes (m : Nat) (l : List UInt8) : nbs m (bytesAV l) := by
  rw [nbs_iff]
  intro x hx
  simp only [bytesAV, List.mem_map] at hx
  obtain ⟨b, _, rfl⟩ := hx
  trivial
theorem nb_nums (m : Nat) (k : IntKind) (l : List Int) : nbs m (nums k l) := by
  rw [nbs_iff]
  intro x hx
  simp only [nums, List.mem_map] at hx
  obtain ⟨b, _, rfl⟩ := hx
  trivial

theorem cseal_q {l : List UInt8} {g : Ver} {σ : St} (hl : l.length ≤ 1099511627776) : ACalls Try.prog n_cseal [.sl (bytesAV l) g] σ (fun v σ' => v = .sl (bytesAV (sealB l)) .none ∧ σ' = σ) := by
  refine (cseal_ok hl).gv ?_
  rintro wf v σ' ⟨h, o1, rfl⟩
  refine ⟨_, _, (Gv.wk (Wk.sl _ _)).trans (Gv.quiet ?_ (o1.quiet wf)), rfl, rfl⟩
  exact ⟨nb_bytes _ _, trivial⟩

theorem u64_quo (n : Nat) (hn : n < 18446744073709551616) : IntKind.u64.wrap (Int.tdiv (n : Int) 256) = ((n / 256 : Nat) : Int) := by
  have h1 : Int.tdiv (n : Int) 256 = ((n / 256 : Nat) : Int) := (Int.ofNat_tdiv n 256).symm
  rw [h1]
  simp [IntKind.wrap, IntKind.bits, IntKind.signed]; omega
theorem u64_rem (n : Nat) : IntKind.u8.wrap (Int.tmod (n : Int) 256) = ((UInt8.ofNat (n % 256)).toNat : Int) := by
  have h1 : Int.tmod (n : Int) 256 = ((n % 256 : Nat) : Int) := (Int.ofNat_tmod n 256).symm
  rw [h1]
  simp [IntKind.wrap, IntKind.bits, IntKind.signed]

theorem rbytes_ok : ∀ {w n : Nat} {σ : St}, w ≤ 8 → n < 18446744073709551616 → ACalls Try.prog n_rbytes [.int .i64 w, .int .u64 n] σ (fun v σ' => (w = 0 ∧ v = .sl [] .nil ∧ σ' = σ) ∨ ∃ h, OneTip σ σ' h 1 ∧ v = .sl (bytesAV (beB w n)) (.tip h))
  | 0, n, σ, _, _ => by
    refine s_rbytes (fun wf => ?_)
    unfold c_rbytes
    refine T.seq_k (fun K_h1 h1 => ?_)
    refine T.regi hm ?_
    simp only [↓reduceIte, namesOf, List.any, I.names, aopsI, astep, ev, setd, List.set, List.cons_append, List.nil_append, List.length_cons, List.length_nil, List.replicate, then_normal, Bool.or_false, Bool.false_eq_true, up_zero, Nat.reduceAdd, Nat.reduceSub, true_and, eq_self]
    refine h1 _ _ ?_
    try clear h1 K_h1
    refine T.seq_k (fun K_h1 h1 => ?_)
    refine T.seq_k (fun K_h2 h2 => ?_)
    have e : (((0 : Nat) : Int) == 0) = true := rfl
    refine T.regi hm ?_
    simp only [↓reduceIte, namesOf, List.any, I.names, aopsI, astep, ev, setd, List.set, List.getD, List.getElem?_cons_zero, List.getElem?_cons_succ, then_normal, Option.getD_some, Bool.or_false, Bool.false_eq_true, up_zero, binv, ↓opt_def, true_and, eq_self, e]
    refine h2 _ _ ?_
    try clear h2 K_h2
    refine T.cond rfl (fun hb => ?_) (fun hb => by cases hb)
    refine T.seq_k (fun K_h2 h2 => ?_)
    refine T.regi hm ?_
    simp only [↓reduceIte, namesOf, List.any, I.names, aopsI, astep, ev, setd, List.set, then_normal, Bool.or_false, Bool.false_eq_true, up_zero, true_and, eq_self]
    refine h2 _ _ ?_
    try clear h2 K_h2
    exact T.ret (Fin.ret rfl (.inl ⟨rfl, rfl, rfl⟩))
  | w + 1, n, σ, hw, hn => by
    refine s_rbytes (fun wf => ?_)
    unfold c_rbytes
    refine T.seq_k (fun K_h1 h1 => ?_)
    refine T.regi hm ?_
    simp only [↓reduceIte, namesOf, List.any, I.names, aopsI, astep, ev, setd, List.set, List.cons_append, List.nil_append, List.length_cons, List.length_nil, List.replicate, then_normal, Bool.or_false, Bool.false_eq_true, up_zero, Nat.reduceAdd, Nat.reduceSub, reduceCtorEq]
    refine h1 _ _ ?_
    try clear h1 K_h1
    refine T.seq_k (fun K_h1 h1 => ?_)
    refine T.seq_k (fun K_h2 h2 => ?_)
    have e : (((w + 1 : Nat) : Int) == 0) = false := by
      rw [beq_eq_false_iff_ne]; omega
    refine T.regi hm ?_
    simp only [↓reduceIte, namesOf, List.any, I.names, aopsI, astep, ev, setd, List.set, List.getD, List.getElem?_cons_zero, List.getElem?_cons_succ, then_normal, Option.getD_some, Bool.or_false, Bool.false_eq_true, up_zero, binv, ↓opt_def, eq_self, reduceCtorEq, e]
    refine h2 _ _ ?_
    try clear h2 K_h2
    refine T.cond rfl (fun hb => by cases hb) (fun hb => ?_)
    refine T.skip ?_
    refine h1 _ _ ?_
    try clear h1 K_h1
    refine T.seq_k (fun K_h1 h1 => ?_)
    have e2 : IntKind.i64.wrap (((w + 1 : Nat) : Int) - 1) = (w : Int) := by rw [wrap64 (by omega) (by omega)]; omega
    have e3 := u64_quo n hn
    have e4 := u64_rem n
    refine T.regi hm ?_
    simp only [↓reduceIte, namesOf, List.any, I.names, aopsI, astep, ev, setd, List.set, List.getD, List.getElem?_cons_zero, List.getElem?_cons_succ, List.length_cons, List.length_nil, then_normal, Option.getD_some, Bool.or_false, Bool.or_true, Nat.reduceAdd, binv, ↓opt_def, List.map_cons, List.map_nil, eq_self, reduceCtorEq, e2, e3, e4, show ¬ ((256 : Int) = 0) by omega]
    refine (rbytes_ok (w := w) (n := n / 256) (by omega) (by omega)).mono ?_
    have hlen : (beB w (n / 256)).length ≤ 8 := by rw [beB_len]; omega
    rintro v σ2 (⟨rfl, rfl, rfl⟩ | ⟨h, o1, rfl⟩)
    · try simp only [List.nil_append, List.length_nil, Nat.reduceAdd, held, srcOf, List.isEmpty, byte1, bytesAV_er]
      rw [if_pos (bytes_all _), if_pos (by simp only [bytes_all, bytesAV_len, List.length_singleton, Bool.true_and, decide_eq_true_eq]; omega)]
      refine h1 _ _ ?_
      try clear h1 K_h1
      exact T.ret (Fin.ret rfl (.inr ⟨σ.next + 9, OneTip.new (n := 11) (i := 9) (by omega), rfl⟩))
    · try simp only [↓reduceIte, eq_self, held, srcOf, o1.at_, Bool.true_and, bytes_all, List.all_append, byte1, bytesAV_er]
      rw [if_pos (by simp only [bytesAV_len, List.length_singleton, decide_eq_true_eq]; omega), bytesAV_app]
      have hlo := o1.lo
      have hhi := o1.hi
      simp only [St.up_next] at hlo
      have o2 : OneTip σ ((σ2.del h).set (σ.next + 9) (Res.tip 1)) (σ.next + 9) 1 := o1.down.mv wf (by omega) (by omega)
      refine h1 _ _ ?_
      try clear h1 K_h1
      exact T.ret (Fin.ret rfl (.inr ⟨_, o2, rfl⟩))
theorem rbytes_q {w n : Nat} {σ : St} (hw : w ≤ 8) (hn : n < 18446744073709551616) : ACalls Try.prog n_rbytes [.int .i64 w, .int .u64 n] σ (fun v σ' => v = .sl (bytesAV (beB w n)) .none ∧ σ' = σ) := by
  refine (rbytes_ok hw hn).gv ?_
  rintro wf v σ' (⟨rfl, rfl, rfl⟩ | ⟨h, o1, rfl⟩)
  · exact ⟨_, _, Gv.wk (Wk.sl _ _), rfl, rfl⟩
  · exact ⟨_, _, (Gv.wk (Wk.sl _ _)).trans (Gv.quiet ⟨nb_bytes _ _, trivial⟩ (o1.quiet wf)), rfl, rfl⟩

theorem rseal_ok {l : List UInt8} {g : Ver} {σ : St} (hl : l.length ≤ 1099511627776) : ACalls Try.prog n_rseal [.sl (bytesAV l) g] σ (fun v σ' => ∃ h, OneTip σ σ' h 1 ∧ v = .sl (bytesAV (sealB l)) (.tip h)) := by
  refine s_rseal (fun wf => ?_)
  unfold c_rseal
  refine T.seq_k (fun K_h1 h1 => ?_)
  refine T.regi hm ?_
  simp only [↓reduceIte, namesOf, List.any, I.names, aopsI, astep, ev, setd, List.set, List.cons_append, List.nil_append, List.length_cons, List.length_nil, List.replicate, then_normal, Bool.or_false, Bool.false_eq_true, up_zero, Nat.reduceAdd, Nat.reduceSub]
  refine h1 _ _ ?_
  try clear h1 K_h1
  refine T.seq_k (fun K_h1 h1 => ?_)
  refine T.regi hm ?_
  simp only [↓reduceIte, namesOf, List.any, I.names, aopsI, astep, ev, setd, List.set, List.getD, List.getElem?_cons_zero, List.getElem?_cons_succ, List.nil_append, List.length_cons, List.length_nil, then_normal, Option.getD_some, Bool.or_false, Bool.or_true, Nat.reduceAdd, List.map_cons, List.map_nil, St.set_same, true_and, eq_self, held, srcOf, St.set_same, bytesAV_er, bytes_all, List.all_nil, Bool.true_and]
  rw [if_pos (by simp only [bytesAV_len, decide_eq_true_eq]; omega)]
  refine (rsum_ok hl).mono ?_
  rintro v σ1 ⟨rfl, rfl⟩
  have h4 := crcOf_lt l
  try simp only [u64_crc]
  refine (rbytes_q (w := 4) (by omega) (by omega)).mono ?_
  rintro v σ1 ⟨rfl, rfl⟩
  try simp only [↓reduceIte, St.set_same, eq_self, St.set_same, bytesAV_er, bytes_all, Bool.true_and, List.all_append]
  rw [if_pos (by simp only [bytesAV_len, beB_len, decide_eq_true_eq]; omega), bytesAV_app]
  have o1 := (((OneTip.new (σ := σ) (k := 1) (n := 9) (i := 0) (by omega)).mv wf (g2 := σ.next + 2) (by omega) (by simp)).mv wf (g2 := σ.next + 7) (by omega) (by simp))
  refine h1 _ _ ?_
  try clear h1 K_h1
  exact T.ret (Fin.ret rfl ⟨_, o1, rfl⟩)
theorem rseal_q {l : List UInt8} {g : Ver} {σ : St} (hl : l.length ≤ 1099511627776) : ACalls Try.prog n_rseal [.sl (bytesAV l) g] σ (fun v σ' => v = .sl (bytesAV (sealB l)) .none ∧ σ' = σ) := by
  refine (rseal_ok hl).gv ?_
  rintro wf v σ' ⟨h, o1, rfl⟩
  exact ⟨_, _, (Gv.wk (Wk.sl _ _)).trans (Gv.quiet ⟨nb_bytes _ _, trivial⟩ (o1.quiet wf)), rfl, rfl⟩
end Go.VL
