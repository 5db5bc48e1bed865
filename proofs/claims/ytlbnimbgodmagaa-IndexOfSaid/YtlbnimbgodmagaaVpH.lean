/- Contracts: an index's bytes. -/
import Derived.Test.YtlbnimbgodmagaaVpG
namespace Go.VL
open Go.Proofs

def natI (l : List Nat) : List Int := l.map fun n : Nat => (n : Int)
theorem natI_len (l : List Nat) : (natI l).length = l.length := by simp [natI]
theorem natI_get {l : List Nat} {i : Nat} (h : i < l.length) : (nums .u64 (natI l))[i]? = some (.int .u64 (l[i] : Int)) := by simp [nums, natI, h]
def runB (l : List Nat) : List UInt8 := l.flatMap (beB 8)
def indexB (l : List Nat) : List UInt8 := beB 2 l.length ++ runB l
theorem runB_len : ∀ l : List Nat, (runB l).length = 8 * l.length
  | [] => rfl
  | n :: r => by
    have := runB_len r
    unfold runB at this ⊢
    rw [List.flatMap_cons, List.length_append, beB_len, this, List.length_cons]; omega
theorem runB_take {l : List Nat} {i : Nat} (h : i < l.length) : runB (l.take (i + 1)) = runB (l.take i) ++ beB 8 l[i] := by
  rw [List.take_succ_eq_append_getElem h]; unfold runB; rw [List.flatMap_append]; simp only [List.flatMap_cons, List.flatMap_nil, List.append_nil]

theorem u64_len (n : Nat) (h : n ≤ 1099511627776) : IntKind.u64.wrap (n : Int) = (n : Int) := by
  simp [IntKind.wrap, IntKind.bits, IntKind.signed]; omega

theorem rindex_ok {l : List Nat} {g : Ver} {σ : St} (hl : l.length ≤ 1000000) (hb : ∀ n ∈ l, n < 18446744073709551616) :
    ACalls Try.prog n_rindex [.sl (nums .u64 (natI l)) g] σ (fun v σ' => v = .sl (bytesAV (sealB (indexB l))) .none ∧ σ' = σ) := by
  refine s_rindex (fun wf => ?_)
  unfold c_rindex
  refine T.seq_k (fun K_h1 h1 => ?_)
  refine T.regi hm ?_
  simp only [↓reduceIte, namesOf, List.any, I.names, aopsI, astep, ev, setd, List.set, List.cons_append, List.nil_append, List.length_cons, List.length_nil, List.replicate, then_normal, Bool.or_false, Bool.false_eq_true, up_zero, Nat.reduceAdd, Nat.reduceSub]
  refine h1 _ _ ?_
  try clear h1 K_h1
  refine T.seq_k (fun K_h1 h1 => ?_)
  have e1 := u64_len l.length (by omega)
  refine T.regi hm ?_
  simp only [↓reduceIte, namesOf, List.any, I.names, aopsI, astep, ev, setd, List.set, List.getD, List.getElem?_cons_zero, List.getElem?_cons_succ, then_normal, Option.getD_some, Bool.or_false, Bool.false_eq_true, up_zero, List.map_cons, List.map_nil, nums_len, natI_len, e1]
  refine (rbytes_ok (w := 2) (n := l.length) (by omega) (by omega)).mono ?_
  rintro v σ1 (⟨h0, _⟩ | ⟨g1, o1, rfl⟩)
  · cases h0
  try simp only [↓reduceIte, namesOf, List.any, I.names, aops, aopsI, aopsT, qstep, CPt, qget, Tbl.get, astep, ev, setd, List.set, List.getD, List.getElem?_cons_zero, List.getElem?_cons_succ, List.getElem?_nil, List.cons_append, List.nil_append, List.length_cons, List.length_nil, List.replicate, then_normal, inBlock_normal, Option.getD_some, Option.getD_none, Bool.or_false, Bool.or_true, Bool.true_or, Bool.false_or, Bool.false_eq_true, if_false, if_true, up_zero, Nat.reduceAdd, Nat.reduceSub, binv, ↓opt_def, AV.isAny, AV.cells, ldc, List.map_cons, List.map_nil, St.set_next, St.set_same, St.up_next, Int.natCast_nonneg, lt_len, le_len, Int.toNat_natCast, true_and, and_true, eq_self, reduceCtorEq, decide_true, List.length_singleton, er_int, er_bool, er_str, up_zero]
  refine h1 _ _ ?_
  try clear h1 K_h1
  refine T.seq_k (fun K_h1 h1 => ?_)
  refine T.seq_k (fun K_h2 h2 => ?_)
  refine T.regi hm ?_
  simp only [↓reduceIte, namesOf, List.any, I.names, aopsI, astep, ev, setd, List.set, then_normal, Bool.or_false, Bool.false_eq_true, up_zero]
  refine h2 _ _ ?_
  try clear h2 K_h2
  refine T.block ?_
  refine T.gh (Gh.keep [0, 3, 4]) ?_
  refine T.loop (fun ρ σ' => ∃ (i g1 : Nat), i ≤ l.length ∧ OneTip σ σ' g1 1 ∧ ρ = [.sl (nums .u64 (natI l)) g, .any, .any, .sl (bytesAV (beB 2 l.length ++ runB (l.take i))) (.tip g1), .int .i64 (i : Int)] ++ List.replicate 19 .any)
    (fun ρ _ => match ρ.getD 4 .any with | .int _ m => (l.length - m).toNat | _ => 0) ⟨0, g1, Nat.zero_le _, o1, by simp [runB]; rfl⟩ ?_
  clear o1
  rintro ρ σ' ⟨i, g1, hi, o1, rfl⟩
  refine T.seq_k (fun K_h2 h2 => ?_)
  refine T.seq_k (fun K_h3 h3 => ?_)
  refine T.regi hm ?_
  simp only [↓reduceIte, namesOf, List.any, I.names, aopsI, astep, ev, setd, List.set, List.getD, List.getElem?_cons_zero, List.getElem?_cons_succ, List.cons_append, List.nil_append, List.replicate, then_normal, Option.getD_some, Bool.or_false, Bool.false_eq_true, up_zero, binv, ↓opt_def, lt_len, eq_self]
  refine h3 _ _ ?_
  try clear h3 K_h3
  refine T.cond rfl (fun hb => ?_) (fun hb => ?_)
  · refine T.skip ?_
    refine h2 _ _ ?_
    try clear h2 K_h2
    have hil : i < l.length := by simp [nums_len, natI_len] at hb; omega
    rename_i hbd _
    clear hb
    refine T.seq_k (fun K_h2 h2 => ?_)
    refine T.block ?_
    refine T.regi hm ?_
    simp only [↓reduceIte, namesOf, List.any, I.names, aopsI, astep, ev, setd, List.set, List.getD, List.getElem?_cons_zero, List.getElem?_cons_succ, List.cons_append, List.nil_append, List.length_cons, List.length_nil, List.replicate, then_normal, inBlock_normal, Option.getD_some, Bool.or_false, Bool.or_true, Nat.reduceAdd, ↓opt_def, AV.cells, ldc, List.map_cons, List.map_nil, Int.natCast_nonneg, lt_len, Int.toNat_natCast, and_true, eq_self, decide_true, nums_len, natI_len, natI_get hil, hil]
    refine (rbytes_q (w := 8) (n := l[i]) (by omega) (hbd _ (List.getElem_mem hil))).mono ?_
    rintro v σ2 ⟨rfl, rfl⟩
    try simp only [↓reduceIte, eq_self, srcOf, o1.at_, St.up_res, bytesAV_er, bytes_all, Bool.true_and, List.all_append]
    have hlen : (beB 2 l.length ++ runB (l.take i)).length ≤ 8000002 := by
      rw [List.length_append, beB_len, runB_len, List.length_take]; omega
    rw [if_pos (by simp only [bytesAV_len, beB_len, decide_eq_true_eq]; omega), bytesAV_app, List.append_assoc, ← runB_take hil]
    have o2 : OneTip σ (((σ'.up 8).del g1).set (σ'.next + 6) (Res.tip 1)) (σ'.next + 6) 1 := (o1.up 8).mv wf (by have := o1.lo; have := o1.hi; omega) (by simp)
    generalize (((σ'.up 8).del g1).set (σ'.next + 6) (Res.tip 1)) = σ2 at o2 ⊢
    generalize σ'.next + 6 = g2 at o2 ⊢
    refine h2 _ _ ?_
    try clear h2 K_h2
    have e4 : IntKind.i64.wrap ((i : Int) + 1) = (i : Int) + 1 := wrap64 (by omega) (by omega)
    refine T.regi hm ?_
    simp only [↓reduceIte, namesOf, List.any, I.names, aopsI, astep, ev, setd, List.set, List.getD, List.getElem?_cons_zero, List.getElem?_cons_succ, List.cons_append, List.nil_append, List.replicate, then_normal, Option.getD_some, Bool.or_false, Bool.false_eq_true, up_zero, binv, ↓opt_def, eq_self, e4]
    refine ⟨_, _, Gh.keep [0, 3, 4], ⟨i + 1, g2, hil, o2, rfl⟩, ?_⟩
    show ((l.length : Int) - ((i : Int) + 1)).toNat < ((l.length : Int) - (i : Int)).toNat
    omega
  · refine T.exit ?_
    have : i = l.length := by simp [nums_len, natI_len] at hb; omega
    subst this
    rw [List.take_length]
    try simp only [List.getD, List.getElem?_cons_zero, List.getElem?_cons_succ, List.cons_append, List.nil_append, List.replicate, then_normal, Option.getD_some, inBlock_exit, then_exit]
    refine h1 _ _ ?_
    try clear h1 K_h1
    refine T.seq_k (fun K_h1 h1 => ?_)
    refine T.regi hm ?_
    simp only [↓reduceIte, namesOf, List.any, I.names, aopsI, astep, ev, setd, List.set, List.getD, List.getElem?_cons_zero, List.getElem?_cons_succ, then_normal, Option.getD_some, Bool.or_false, Bool.false_eq_true, up_zero, List.map_cons, List.map_nil]
    have hlen : (beB 2 l.length ++ runB l).length ≤ 1099511627776 := by
      rw [List.length_append, beB_len, runB_len]; omega
    refine (rseal_q hlen).mono ?_
    rintro v σ2 ⟨rfl, rfl⟩
    refine h1 _ _ ?_
    try clear h1 K_h1
    exact T.ret (Fin.quiet rfl ⟨nb_bytes _ _, trivial⟩ (o1.quiet wf) ⟨rfl, rfl⟩)

theorem wput_q {l : List UInt8} {g : Ver} {w n : Nat} {σ : St} (hl : l.length ≤ 1099511627776) (hw : rightB w = true) (hn : w < 8 → n / 256 ^ w = 0) :
    ACalls Try.prog n_wput [.sl (bytesAV l) g, .int .i64 w, .int .u64 n] σ (fun v σ' => v = .tup [.sl (bytesAV (l ++ beB w n)) .none, .nili] ∧ σ' = σ) := by
  refine (wput_ok hl hw hn).gv ?_
  rintro wf v σ' ⟨h, o1, rfl⟩
  exact ⟨_, _, (Gv.wk (Wk.tup2 (Wk.sl _ _))).trans (Gv.quiet ⟨⟨nb_bytes _ _, trivial⟩, trivial, trivial⟩ (o1.quiet wf)), rfl, rfl⟩

theorem risesB_len {l : List Int} (h : risesB l = true) : l.length ≤ 200 := by
  unfold risesB at h
  simp only [Bool.and_eq_true, decide_eq_true_eq] at h
  exact h.1

theorem iput_ok {l : List Nat} {g : Ver} {σ : St} (hl : l.length ≤ 1000000) (_ : ∀ n ∈ l, n < 18446744073709551616) :
    ACalls Try.prog n_iput [.sl (nums .u64 (natI l)) g] σ (fun v σ' => v = (if risesB (natI l) = true then .tup [.sl (bytesAV (sealB (indexB l))) .none, .nili] else .tup [.sl [] .none, errAV 1]) ∧ σ' = σ) := by
  refine s_iput (fun wf => ?_)
  unfold c_iput
  refine T.seq_k (fun K_h1 h1 => ?_)
  refine T.regi hm ?_
  simp only [↓reduceIte, namesOf, List.any, I.names, aopsI, astep, ev, setd, List.set, List.cons_append, List.nil_append, List.length_cons, List.length_nil, List.replicate, then_normal, Bool.or_false, Bool.false_eq_true, up_zero, Nat.reduceAdd, Nat.reduceSub]
  refine h1 _ _ ?_
  try clear h1 K_h1
  refine T.seq_k (fun K_h1 h1 => ?_)
  refine T.seq_k (fun K_h2 h2 => ?_)
  refine T.regi hm ?_
  simp only [↓reduceIte, namesOf, List.any, I.names, aopsI, astep, ev, setd, List.set, List.getD, List.getElem?_cons_zero, List.getElem?_cons_succ, then_normal, Option.getD_some, Bool.or_false, Bool.false_eq_true, up_zero, List.map_cons, List.map_nil]
  refine (rises_ok (by rw [natI_len]; omega)).mono ?_
  rintro v σ2 ⟨rfl, rfl⟩
  try simp only []
  refine h2 _ _ ?_
  try clear h2 K_h2
  cases hr : risesB (natI l) with
  | false =>
    refine T.cond rfl (fun hb => ?_) (fun hb => by cases hb)
    refine T.seq_k (fun K_h2 h2 => ?_)
    refine T.regi hm ?_
    simp only [↓reduceIte, namesOf, List.any, I.names, aopsI, astep, ev, setd, List.set, List.getD, List.getElem?_cons_zero, List.getElem?_cons_succ, then_normal, Option.getD_some, Bool.or_false, Bool.false_eq_true, up_zero]
    refine h2 _ _ ?_
    try clear h2 K_h2
    exact T.ret (Fin.quietw rfl (Wk.tup2 (Wk.sl _ _)) ⟨⟨trivial, trivial⟩, trivial, trivial⟩ (fun _ _ h => h) ⟨rfl, rfl⟩)
  | true =>
    refine T.cond rfl (fun hb => by cases hb) (fun hb => ?_)
    refine T.skip ?_
    have h200 : l.length ≤ 200 := by have := risesB_len hr; rwa [natI_len] at this
    refine h1 _ _ ?_
    try clear h1 K_h1
    refine T.seq_k (fun K_h1 h1 => ?_)
    have e1 := u64_len l.length (by omega)
    refine T.regi hm ?_
    simp only [↓reduceIte, namesOf, List.any, I.names, aopsI, astep, ev, setd, List.set, List.getD, List.getElem?_cons_zero, List.getElem?_cons_succ, then_normal, Option.getD_some, Bool.or_false, Bool.false_eq_true, up_zero, ↓opt_def, List.map_cons, List.map_nil, nums_len, natI_len, e1]
    refine (wput_q (l := []) (g := .nil) (w := 2) (n := l.length) (by simp) rfl (fun _ => by omega)).mono ?_
    rintro v σ1 ⟨rfl, rfl⟩
    try simp only [List.getElem?_cons_zero, List.getElem?_cons_succ, List.nil_append]
    refine h1 _ _ ?_
    try clear h1 K_h1
    refine T.seq_k (fun K_h1 h1 => ?_)
    refine T.seq_k (fun K_h2 h2 => ?_)
    refine T.regi hm ?_
    simp only [↓reduceIte, namesOf, List.any, I.names, aopsI, astep, ev, setd, List.set, List.getD, List.getElem?_cons_zero, List.getElem?_cons_succ, then_normal, Option.getD_some, Bool.or_false, Bool.false_eq_true, up_zero, nums_len, natI_len]
    refine h2 _ _ ?_
    try clear h2 K_h2
    refine T.block ?_
    refine T.gh (Gh.keep [4, 5, 19, 20, 21]) ?_
    refine T.loop (fun ρ σ' => σ' = σ1 ∧ ∃ (i : Nat), i ≤ l.length ∧ ρ = [.any, .any, .any, .any, .sl (bytesAV (beB 2 l.length ++ runB (l.take i))) .none, .nili, .any, .any, .any, .any, .any, .any, .any, .any, .any, .any, .any, .any, .any, .sl (nums .u64 (natI l)) g, .int .i64 (l.length : Int), .int .i64 (i : Int)] ++ List.replicate 15 .any)
      (fun ρ _ => match ρ.getD 21 .any with | .int _ m => (l.length - m).toNat | _ => 0) ⟨rfl, 0, Nat.zero_le _, by simp [runB]; rfl⟩ ?_
    rintro ρ σ' ⟨rfl, i, hi, rfl⟩
    refine T.seq_k (fun K_h2 h2 => ?_)
    refine T.regi hm ?_
    simp only [↓reduceIte, namesOf, List.any, I.names, aopsI, astep, ev, setd, List.set, List.getD, List.getElem?_cons_zero, List.getElem?_cons_succ, List.cons_append, List.nil_append, List.replicate, then_normal, Option.getD_some, Bool.or_false, Bool.false_eq_true, up_zero, binv, ↓opt_def, lt_len, eq_self]
    refine h2 _ _ ?_
    try clear h2 K_h2
    refine T.seq_k (fun K_h2 h2 => ?_)
    refine T.cond rfl (fun hb => ?_) (fun hb => ?_)
    · refine T.skip ?_
      refine h2 _ _ ?_
      try clear h2 K_h2
      have hil : i < l.length := by simp at hb; omega
      clear hb
      refine T.seq_k (fun K_h2 h2 => ?_)
      refine T.block ?_
      refine T.seq_k (fun K_h3 h3 => ?_)
      refine T.regi hm ?_
      simp only [↓reduceIte, namesOf, List.any, I.names, aopsI, astep, ev, setd, List.set, List.getD, List.getElem?_cons_zero, List.getElem?_cons_succ, List.cons_append, List.nil_append, List.length_cons, List.length_nil, List.replicate, then_normal, Option.getD_some, Bool.or_false, Bool.false_eq_true, up_zero, Nat.reduceAdd, ↓opt_def, AV.cells, ldc, Int.natCast_nonneg, lt_len, Int.toNat_natCast, and_true, eq_self, decide_true, nums_len, natI_len, natI_get hil, hil]
      refine h3 _ _ ?_
      try clear h3 K_h3
      refine T.seq_k (fun K_h3 h3 => ?_)
      refine T.regi hm ?_
      simp only [↓reduceIte, namesOf, List.any, I.names, aopsI, astep, ev, setd, List.set, List.getD, List.getElem?_cons_zero, List.getElem?_cons_succ, List.cons_append, List.nil_append, List.replicate, then_normal, Option.getD_some, Bool.or_false, Bool.false_eq_true, up_zero, eq_self, eqIv]
      refine h3 _ _ ?_
      try clear h3 K_h3
      refine T.cond rfl (fun hb => ?_) (fun hb => by cases hb)
      have hlen : (beB 2 l.length ++ runB (l.take i)).length ≤ 1099511627776 := by
        rw [List.length_append, beB_len, runB_len, List.length_take]; omega
      refine T.regi hm ?_
      simp only [↓reduceIte, namesOf, List.any, I.names, aopsI, astep, ev, setd, List.set, List.getD, List.getElem?_cons_zero, List.getElem?_cons_succ, List.cons_append, List.nil_append, List.replicate, then_normal, inBlock_normal, Option.getD_some, Bool.or_false, Bool.false_eq_true, up_zero, ↓opt_def, List.map_cons, List.map_nil]
      refine (wput_q (w := 8) (n := l[i]) hlen rfl (fun h => by omega)).mono ?_
      rintro v σ2 ⟨rfl, rfl⟩
      try simp only [List.getElem?_cons_zero, List.getElem?_cons_succ]
      rw [List.append_assoc, ← runB_take hil]
      refine h2 _ _ ?_
      try clear h2 K_h2
      have e4 : IntKind.i64.wrap ((i : Int) + 1) = (i : Int) + 1 := wrap64 (by omega) (by omega)
      refine T.regi hm ?_
      simp only [↓reduceIte, namesOf, List.any, I.names, aopsI, astep, ev, setd, List.set, List.getD, List.getElem?_cons_zero, List.getElem?_cons_succ, List.cons_append, List.nil_append, List.replicate, then_normal, Option.getD_some, Bool.or_false, Bool.false_eq_true, up_zero, binv, ↓opt_def, eq_self, e4]
      refine ⟨_, _, Gh.keep [4, 5, 19, 20, 21], ⟨rfl, i + 1, hil, rfl⟩, ?_⟩
      show ((l.length : Int) - ((i : Int) + 1)).toNat < ((l.length : Int) - (i : Int)).toNat
      omega
    · refine T.exit ?_
      have : i = l.length := by simp at hb; omega
      subst this
      rw [List.take_length]
      try simp only [List.getD, List.getElem?_cons_zero, List.getElem?_cons_succ, List.cons_append, List.nil_append, List.replicate, then_normal, Option.getD_some, inBlock_exit, then_exit]
      refine h1 _ _ ?_
      try clear h1 K_h1
      refine T.seq_k (fun K_h1 h1 => ?_)
      refine T.regi hm ?_
      simp only [↓reduceIte, namesOf, List.any, I.names, aopsI, astep, ev, setd, List.set, List.getD, List.getElem?_cons_zero, List.getElem?_cons_succ, then_normal, Option.getD_some, Bool.or_false, Bool.false_eq_true, up_zero, List.map_cons, List.map_nil]
      have hlen : (beB 2 l.length ++ runB l).length ≤ 1099511627776 := by
        rw [List.length_append, beB_len, runB_len]; omega
      refine (cseal_q hlen).mono ?_
      rintro v σ2 ⟨rfl, rfl⟩
      try simp only [↓reduceIte, namesOf, List.any, I.names, aops, aopsI, aopsT, qstep, CPt, qget, Tbl.get, astep, ev, setd, List.set, List.getD, List.getElem?_cons_zero, List.getElem?_cons_succ, List.getElem?_nil, List.cons_append, List.nil_append, List.length_cons, List.length_nil, List.replicate, then_normal, inBlock_normal, Option.getD_some, Option.getD_none, Bool.or_false, Bool.or_true, Bool.true_or, Bool.false_or, Bool.false_eq_true, if_false, if_true, up_zero, Nat.reduceAdd, Nat.reduceSub, binv, ↓opt_def, AV.isAny, AV.cells, ldc, List.map_cons, List.map_nil, St.set_next, St.set_same, St.up_next, Int.natCast_nonneg, lt_len, le_len, Int.toNat_natCast, true_and, and_true, eq_self, reduceCtorEq, decide_true, List.length_singleton, er_int, er_bool, er_str, up_zero]
      refine h1 _ _ ?_
      try clear h1 K_h1
      exact T.ret (Fin.ret rfl ⟨by rw [if_pos hr]; rfl, rfl⟩)
end Go.VL
