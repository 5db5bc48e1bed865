/- Contracts: the checksum by a table. -/
import Derived.Test.YtlbnimbgodmagaaVpC
namespace Go.VL
open Go.Proofs

def step8I (m : Int) : Int := ((stepN 8 (BitVec.ofInt 32 m)).toNat : Int)
theorem step8I_bv (x : BitVec 32) : step8I (x.toNat : Int) = ((stepN 8 x).toNat : Int) := by
  unfold step8I
  have : BitVec.ofInt 32 (x.toNat : Int) = x := u32_of x
  rw [this]

/-- (told by choice, so that nobody reckons it) -/
noncomputable def inU32 (m : Int) : Bool := @decide (0 ≤ m ∧ m < 4294967296) (Classical.propDecidable _)
theorem inU32_iff {m : Int} : inU32 m = true ↔ 0 ≤ m ∧ m < 4294967296 := by unfold inU32; simp

noncomputable def g_step : List AV → Option AV
  | [.int .u32 m] => if inU32 m = true then some (.int .u32 (step8I m)) else none
  | _ => none
theorem step_pure : PureC Try.prog n_step g_step := by
  intro args σ v h
  unfold g_step at h
  split at h
  · rename_i m
    split at h
    · rename_i hm
      rw [inU32_iff] at hm
      simp only [Option.some.injEq] at h; subst h
      have e : m = ((BitVec.ofInt 32 m).toNat : Int) := by simp; omega
      have := step_ok' (X := BitVec.ofInt 32 m) (σ := σ)
      rw [← e] at this
      exact this
    · cases h
  · cases h
noncomputable def t2 : Tbl := [(n_step, g_step)]
theorem t2_ok : t2.ok Try.prog := Tbl.ok_cons step_pure Tbl.ok_nil

def tab (i : Nat) : List AV := (List.range 256).map fun j => .int .u32 (if j < i then step8I (j : Int) else 0)
theorem tab_len (i : Nat) : (tab i).length = 256 := by simp only [tab, List.length_map, List.length_range]
theorem tab_zero : tab 0 = zeros 256 (.int .u32 0) := by
  apply List.ext_getElem
  · simp only [tab_len, zeros, List.length_replicate]
  · intro i h1 h2
    simp only [tab, zeros, List.getElem_map, List.getElem_replicate, Nat.not_lt_zero, if_false]
theorem tab_get {i j : Nat} (hj : j < 256) : (tab i)[j]? = some (.int .u32 (if j < i then step8I (j : Int) else 0)) := by simp [tab, hj]
theorem tab_set {i : Nat} (hi : i < 256) : splice (tab i) i [.int .u32 (step8I (i : Int))] = tab (i + 1) := by
  apply List.ext_getElem?
  intro j
  unfold splice
  rw [List.append_assoc, List.getElem?_append]
  have hl : ((tab i).take i).length = i := by simp [tab_len]; omega
  rw [hl]
  by_cases hj : j < i
  · rw [if_pos hj, List.getElem?_take, if_pos hj, tab_get (by omega), tab_get (by omega), if_pos hj, if_pos (by omega)]
  · rw [if_neg hj, List.getElem?_append]
    by_cases hji : j = i
    · subst hji
      rw [tab_get hi, Nat.sub_self, if_pos (show (0 : Nat) < [_].length from by simp), if_pos (by omega)]
      rfl
    · rw [if_neg (by simp; omega)]
      simp only [List.length_singleton, List.getElem?_drop]
      rw [show i + 1 + (j - i - 1) = j by omega]
      rcases Nat.lt_or_ge j 256 with h | h
      · rw [tab_get h, tab_get h, if_neg hj, if_neg (by omega)]
      · rw [List.getElem?_eq_none (by rw [tab_len]; omega), List.getElem?_eq_none (by rw [tab_len]; omega)]

theorem u32_un (x : BitVec 32) : IntKind.u32.wrap ((BitVec.ofInt IntKind.u32.bits (if IntKind.u32.signed = true then -1 else IntKind.u32.max) ^^^ BitVec.ofInt IntKind.u32.bits (x.toNat : Int)).toNat) = ((~~~ x).toNat : Int) := by
  have h1 : BitVec.ofInt IntKind.u32.bits (if IntKind.u32.signed = true then -1 else IntKind.u32.max) = BitVec.allOnes 32 := rfl
  rw [h1, u32_of]
  show IntKind.u32.wrap (((BitVec.allOnes 32 ^^^ x : BitVec 32).toNat : Nat) : Int) = _
  rw [BitVec.allOnes_xor]; exact u32_wrap _

theorem u8_index (Y : BitVec 32) (c : UInt8) : IntKind.u8.wrap ((BitVec.ofInt IntKind.u8.bits (IntKind.u8.wrap (Y.toNat : Int)) ^^^ BitVec.ofInt IntKind.u8.bits (c.toNat : Int)).toNat) = (((Y ^^^ BitVec.ofNat 32 c.toNat) &&& 0xff#32).toNat : Int) := by
  have h1 : BitVec.ofInt IntKind.u8.bits (IntKind.u8.wrap (Y.toNat : Int)) = BitVec.ofNat 8 Y.toNat := by
    apply BitVec.eq_of_toNat_eq
    simp [IntKind.wrap, IntKind.bits, IntKind.signed]; omega
  have h2 : BitVec.ofInt IntKind.u8.bits (c.toNat : Int) = BitVec.ofNat 8 c.toNat := rfl
  rw [h1, h2]
  have h3 : (BitVec.ofNat 8 Y.toNat ^^^ BitVec.ofNat 8 c.toNat : BitVec 8).toNat = ((Y ^^^ BitVec.ofNat 32 c.toNat) &&& 0xff#32).toNat := by
    rw [BitVec.toNat_xor, BitVec.toNat_and, BitVec.toNat_xor]
    have hff : (0xff#32).toNat = 2 ^ 8 - 1 := rfl
    rw [hff, Nat.and_two_pow_sub_one_eq_mod, Nat.xor_mod_two_pow]
    simp only [BitVec.toNat_ofNat]
    have := c.toNat_lt
    rw [Nat.mod_eq_of_lt (show c.toNat < 2 ^ 32 by omega)]
  show IntKind.u8.wrap (((BitVec.ofNat 8 Y.toNat ^^^ BitVec.ofNat 8 c.toNat : BitVec 8).toNat : Nat) : Int) = _
  rw [h3]
  have h4 : ((Y ^^^ BitVec.ofNat 32 c.toNat) &&& 0xff#32).toNat < 256 := by
    rw [BitVec.toNat_and]
    exact Nat.lt_of_le_of_lt Nat.and_le_right (by decide)
  generalize ((Y ^^^ BitVec.ofNat 32 c.toNat) &&& 0xff#32).toNat = m at h4
  simp [IntKind.wrap, IntKind.bits, IntKind.signed]; omega

theorem byte_high (c : UInt8) : BitVec.ofNat 32 c.toNat >>> 8 = 0#32 := by
  have := c.toNat_lt
  apply BitVec.eq_of_toNat_eq
  rw [BitVec.toNat_ushiftRight, BitVec.toNat_ofNat, Nat.shiftRight_eq_div_pow, Nat.mod_eq_of_lt (by omega)]
  simp; omega


set_option maxHeartbeats 1000000 in
theorem con_ok {l : List UInt8} {g : Ver} {σ : St} (hl : l.length ≤ 1099511627776) : ACalls Try.prog n_con [.int .u32 0, .sl (bytesAV l) g] σ (fun v σ' => v = .int .u32 (crcOf l : Int) ∧ σ' = σ) := by
  refine s_con (fun wf => ?_)
  unfold c_con
  refine T.seq_k (fun K_h1 h1 => ?_)
  refine T.regi hm ?_
  simp only [↓reduceIte, namesOf, List.any, I.names, aopsI, astep, ev, setd, List.set, List.cons_append, List.nil_append, List.length_cons, List.length_nil, List.replicate, then_normal, Bool.or_false, Bool.false_eq_true, up_zero, Nat.reduceAdd, Nat.reduceSub]
  refine h1 _ _ ?_
  try clear h1 K_h1
  refine T.seq_k (fun K_h1 h1 => ?_)
  refine T.regi hm ?_
  simp only [↓reduceIte, namesOf, List.any, I.names, aopsI, astep, setd, List.set, List.length_cons, List.length_nil, then_normal, Bool.or_false, Nat.reduceAdd, eq_self]
  refine h1 _ _ ?_
  try clear h1 K_h1
  refine T.seq_k (fun K_h1 h1 => ?_)
  refine T.seq_k (fun K_h2 h2 => ?_)
  refine T.regi hm ?_
  simp only [↓reduceIte, namesOf, List.any, I.names, aopsI, astep, ev, setd, List.set, then_normal, Bool.or_false, Bool.false_eq_true, up_zero]
  refine h2 _ _ ?_
  try clear h2 K_h2
  refine T.block ?_
  rw [Nat.add_zero]
  refine T.gh (Gh.keep [0, 1, 5, 10]) ?_
  refine T.loop (fun ρ σ' => ∃ (i : Nat), i ≤ 256 ∧ σ' = (σ.up 1).set σ.next (.obj (tab i)) ∧ ρ = [.int .u32 0, .sl (bytesAV l) g, .any, .any, .any, .ptr σ.next 0, .any, .any, .any, .any, .int .i64 (i : Int)] ++ List.replicate 28 .any)
    (fun ρ _ => match ρ.getD 10 .any with | .int _ m => (256 - m).toNat | _ => 0) ⟨0, by omega, by rw [tab_zero], rfl⟩ ?_
  rintro ρ σ' ⟨i, hi, rfl, rfl⟩
  refine T.seq_k (fun K_h2 h2 => ?_)
  refine T.regi hm ?_
  simp only [↓reduceIte, namesOf, List.any, I.names, aopsI, astep, ev, setd, List.set, List.getD, List.getElem?_cons_zero, List.getElem?_cons_succ, List.cons_append, List.nil_append, List.replicate, then_normal, Option.getD_some, Bool.or_false, Bool.false_eq_true, up_zero, binv, ↓opt_def, eq_self]
  refine h2 _ _ ?_
  try clear h2 K_h2
  refine T.seq_k (fun K_h2 h2 => ?_)
  refine T.cond rfl (fun hb => ?_) (fun hb => ?_)
  · refine T.skip ?_
    refine h2 _ _ ?_
    try clear h2 K_h2
    have hi8 : i < 256 := by simp at hb; omega
    clear hb
    have e1 : IntKind.u32.wrap (i : Int) = (i : Int) := by simp [IntKind.wrap, IntKind.bits, IntKind.signed]; omega
    have e2 : inU32 (i : Int) = true := inU32_iff.2 (by omega)
    have e3 : (i : Int) < ((256 : Nat) : Int) := by omega
    have e4 : IntKind.i64.wrap ((i : Int) + 1) = (i : Int) + 1 := wrap64 (by omega) (by omega)
    have e6 : i < 256 := hi8
    refine T.seq_k (fun K_h2 h2 => ?_)
    refine T.block ?_
    refine T.seq_k (fun K_h3 h3 => ?_)
    refine T.regi hm ?_
    simp only [↓reduceIte, namesOf, List.any, I.names, aopsI, astep, ev, setd, List.set, List.getD, List.getElem?_cons_zero, List.getElem?_cons_succ, List.cons_append, List.nil_append, List.replicate, then_normal, Option.getD_some, Bool.or_false, Bool.false_eq_true, up_zero]
    refine h3 _ _ ?_
    try clear h3 K_h3
    refine T.regt hm t2_ok ?_
    simp only [↓reduceIte, namesOf, List.any, I.names, aopsT, qstep, CPt, Tbl.get, astep, ev, setd, List.set, List.getD, List.getElem?_cons_zero, List.getElem?_cons_succ, List.cons_append, List.nil_append, List.length_cons, List.length_nil, List.replicate, then_normal, inBlock_normal, Option.getD_some, Bool.or_false, Bool.false_eq_true, up_zero, ↓opt_def, AV.isAny, AV.cells, List.map_cons, List.map_nil, St.set_same, Int.natCast_nonneg, Int.toNat_natCast, and_true, eq_self, decide_true, t2, g_step, e1, e2, e3, AV.fits, AV.one, List.all_cons, List.all_nil, tab_len, Nat.mul_one, Nat.zero_add, tab_set hi8, St.set_set, Bool.not_false, Nat.reduceBEq, Nat.succ_le_of_lt hi8, Bool.and_self]
    refine h2 _ _ ?_
    try clear h2 K_h2
    refine T.regi hm ?_
    simp only [↓reduceIte, namesOf, List.any, I.names, aopsI, astep, ev, setd, List.set, List.getD, List.getElem?_cons_zero, List.getElem?_cons_succ, List.cons_append, List.nil_append, List.replicate, then_normal, Option.getD_some, Bool.or_false, Bool.false_eq_true, up_zero, binv, ↓opt_def, eq_self, e4]
    refine ⟨_, _, Gh.keep [0, 1, 5, 10], ⟨i + 1, hi8, rfl, rfl⟩, ?_⟩
    show ((256 : Int) - ((i : Int) + 1)).toNat < (256 - (i : Int)).toNat
    omega
  · refine T.exit ?_
    have : i = 256 := by simp at hb; omega
    subst this
    clear hb hi
    try simp only [List.getD, List.getElem?_cons_zero, List.getElem?_cons_succ, List.cons_append, List.nil_append, List.replicate, then_normal, Option.getD_some, inBlock_exit, then_exit]
    refine h1 _ _ ?_
    try clear h1 K_h1
    refine T.seq_k (fun K_h1 h1 => ?_)
    have e1 := u32_un 0#32
    have e1z : ((0#32).toNat : Int) = 0 := rfl
    rw [e1z] at e1
    refine T.regi hm ?_
    simp only [↓reduceIte, namesOf, List.any, I.names, aopsI, astep, ev, setd, List.set, List.getD, List.getElem?_cons_zero, List.getElem?_cons_succ, then_normal, Option.getD_some, Bool.or_false, Bool.false_eq_true, up_zero, binv, ↓opt_def, eq_self, e1]
    refine h1 _ _ ?_
    try clear h1 K_h1
    refine T.seq_k (fun K_h1 h1 => ?_)
    refine T.seq_k (fun K_h2 h2 => ?_)
    refine T.regi hm ?_
    simp only [↓reduceIte, namesOf, List.any, I.names, aopsI, astep, ev, setd, List.set, List.getD, List.getElem?_cons_zero, List.getElem?_cons_succ, then_normal, Option.getD_some, Bool.or_false, Bool.false_eq_true, up_zero, bytesAV_len]
    refine h2 _ _ ?_
    try clear h2 K_h2
    refine T.block ?_
    refine T.gh (Gh.keep [1, 5, 7, 21, 22, 23]) ?_
    have hq : ∀ n r, σ.res n = some r → ((σ.up 1).set σ.next (.obj (tab 256))).res n = some r := by
      intro n r hr
      have : n ≠ σ.next := fun e => by subst e; rw [wf _ (Nat.le_refl _)] at hr; cases hr
      rw [St.set_other _ _ this]; exact hr
    have htab : ((σ.up 1).set σ.next (.obj (tab 256))).res σ.next = some (.obj (tab 256)) := by simp
    generalize ((σ.up 1).set σ.next (.obj (tab 256))) = σ1 at hq htab ⊢
    refine T.loop (fun ρ σ' => σ' = σ1 ∧ ∃ (i : Nat) (Y : BitVec 32), i ≤ l.length ∧ crcRun Y (l.drop i) = crcRun 0xffffffff#32 l ∧ ρ = [.any, .sl (bytesAV l) g, .any, .any, .any, .ptr σ.next 0, .any, .int .u32 (Y.toNat : Int), .any, .any, .any, .any, .any, .any, .any, .any, .any, .any, .any, .any, .any, .sl (bytesAV l) g, .int .i64 (l.length : Int), .int .i64 (i : Int)] ++ List.replicate 15 .any)
      (fun ρ _ => match ρ.getD 23 .any with | .int _ m => (l.length - m).toNat | _ => 0) ⟨rfl, 0, 0xffffffff#32, Nat.zero_le _, rfl, rfl⟩ ?_
    rintro ρ σ' ⟨rfl, i, Y, hi, hY, rfl⟩
    refine T.seq_k (fun K_h2 h2 => ?_)
    refine T.regi hm ?_
    simp only [↓reduceIte, namesOf, List.any, I.names, aopsI, astep, ev, setd, List.set, List.getD, List.getElem?_cons_zero, List.getElem?_cons_succ, List.cons_append, List.nil_append, List.replicate, then_normal, Option.getD_some, Bool.or_false, Bool.false_eq_true, up_zero, binv, ↓opt_def, lt_len, eq_self]
    refine h2 _ _ ?_
    try clear h2 K_h2
    refine T.seq_k (fun K_h2 h2 => ?_)
    refine T.cond rfl (fun hb => ?_) (fun hb => ?_)
    · refine T.skip ?_
      refine h2 _ _ ?_
      try clear h2 K_h2
      have hil : i < l.length := by simp at hb; omega
      clear hb
      refine T.seq_k (fun K_h2 h2 => ?_)
      refine T.block ?_
      refine T.seq_k (fun K_h3 h3 => ?_)
      refine T.regi hm ?_
      simp only [↓reduceIte, namesOf, List.any, I.names, aopsI, astep, ev, setd, List.set, List.getD, List.getElem?_cons_zero, List.getElem?_cons_succ, List.cons_append, List.nil_append, List.length_cons, List.length_nil, List.replicate, then_normal, Option.getD_some, Bool.or_false, Bool.false_eq_true, up_zero, Nat.reduceAdd, ↓opt_def, AV.cells, ldc, Int.natCast_nonneg, lt_len, Int.toNat_natCast, and_true, eq_self, decide_true, bytesAV_len, bytes_get hil, hil]
      refine h3 _ _ ?_
      try clear h3 K_h3
      have e2 := u32_shr8 Y
      have e3 := u8_index Y l[i]
      have e4 := table_step Y (BitVec.ofNat 32 l[i].toNat) (byte_high _)
      have hj : ((Y ^^^ BitVec.ofNat 32 l[i].toNat) &&& 0xff#32).toNat < 256 := by
        rw [BitVec.toNat_and]
        exact Nat.lt_of_le_of_lt Nat.and_le_right (by decide)
      have e6 := tab_get (i := 256) hj
      rw [if_pos hj, step8I_bv] at e6
      generalize hx : ((Y ^^^ BitVec.ofNat 32 l[i].toNat) &&& 0xff#32) = x at e3 e4 e6 hj
      have e7 := u32_xor (Y >>> 8) (stepN 8 x)
      have hj' : (x.toNat : Int) < ((256 : Nat) : Int) := by omega
      refine T.regi hm ?_
      simp only [↓reduceIte, namesOf, List.any, I.names, aopsI, astep, ev, setd, List.set, List.getD, List.getElem?_cons_zero, List.getElem?_cons_succ, List.cons_append, List.nil_append, List.replicate, then_normal, inBlock_normal, Option.getD_some, Bool.or_false, Bool.false_eq_true, up_zero, binv, ↓opt_def, ldc, Int.natCast_nonneg, Int.toNat_natCast, and_true, eq_self, e2, e3, htab, show ¬ ((8 : Int) < 0) by omega, hj', Nat.zero_add, Nat.mul_one, e6, e7]
      refine h2 _ _ ?_
      try clear h2 K_h2
      have e8 : IntKind.i64.wrap ((i : Int) + 1) = (i : Int) + 1 := wrap64 (by omega) (by omega)
      refine T.regi hm ?_
      simp only [↓reduceIte, namesOf, List.any, I.names, aopsI, astep, ev, setd, List.set, List.getD, List.getElem?_cons_zero, List.getElem?_cons_succ, List.cons_append, List.nil_append, List.replicate, then_normal, Option.getD_some, Bool.or_false, Bool.false_eq_true, up_zero, binv, ↓opt_def, eq_self, e8]
      refine ⟨_, _, Gh.keep [1, 5, 7, 21, 22, 23], ⟨rfl, i + 1, (Y >>> 8) ^^^ stepN 8 x, hil, ?_, rfl⟩, ?_⟩
      · rw [← hY, List.drop_eq_getElem_cons hil, ← e4]
        rfl
      · show ((l.length : Int) - ((i : Int) + 1)).toNat < ((l.length : Int) - (i : Int)).toNat
        omega
    · refine T.exit ?_
      have : i = l.length := by simp at hb; omega
      subst this
      try simp only [List.getD, List.getElem?_cons_zero, List.getElem?_cons_succ, List.cons_append, List.nil_append, List.replicate, then_normal, Option.getD_some, inBlock_exit, then_exit]
      refine h1 _ _ ?_
      try clear h1 K_h1
      refine T.seq_k (fun K_h1 h1 => ?_)
      have e1 := u32_un Y
      refine T.regi hm ?_
      simp only [↓reduceIte, namesOf, List.any, I.names, aopsI, astep, ev, setd, List.set, List.getD, List.getElem?_cons_zero, List.getElem?_cons_succ, then_normal, Option.getD_some, Bool.or_false, Bool.false_eq_true, up_zero, binv, ↓opt_def, eq_self, e1]
      refine h1 _ _ ?_
      try clear h1 K_h1
      refine T.ret (Fin.quiet rfl trivial hq ⟨?_, rfl⟩)
      rw [List.drop_length] at hY
      simp only [crcRun] at hY
      unfold crcOf
      rw [← hY]; rfl
end Go.VL
