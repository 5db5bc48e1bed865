/- Contracts: checksums. -/
import Derived.Test.YtlbnimbgodmagaaVqA
namespace Go.VL
open Go.Proofs

theorem step_ok' {X : BitVec 32} {σ : St} : ACalls Try.prog n_step [.int .u32 (X.toNat : Int)] σ (fun v σ' => v = .int .u32 ((stepN 8 X).toNat : Int) ∧ σ' = σ) := by
  refine s_step (fun wf => ?_)
  unfold c_step
  refine T.seq_k (fun K_h1 h1 => ?_)
  refine T.regi hm ?_
  simp only [↓reduceIte, namesOf, List.any, I.names, aopsI, astep, ev, setd, List.set, List.cons_append, List.nil_append, List.length_cons, List.length_nil, List.replicate, then_normal, Bool.or_false, Bool.false_eq_true, up_zero, Nat.reduceAdd, Nat.reduceSub]
  refine h1 _ _ ?_
  try clear h1 K_h1
  refine T.seq_k (fun K_h1 h1 => ?_)
  refine T.seq_k (fun K_h2 h2 => ?_)
  refine T.regi hm ?_
  simp only [↓reduceIte, namesOf, List.any, I.names, aopsI, astep, ev, setd, List.set, then_normal, Bool.or_false, Bool.false_eq_true, up_zero]
  refine h2 _ _ ?_
  try clear h2 K_h2
  refine T.block ?_
  refine T.gh (Gh.keep [0, 4]) ?_
  refine T.loop (fun ρ σ' => σ' = σ ∧ ∃ (i : Nat) (Y : BitVec 32), i ≤ 8 ∧ stepN (8 - i) Y = stepN 8 X ∧ ρ = [.int .u32 (Y.toNat : Int), .any, .any, .any, .int .i64 (i : Int)] ++ List.replicate 11 .any)
    (fun ρ _ => match ρ.getD 4 .any with | .int _ m => (8 - m).toNat | _ => 0) ⟨rfl, 0, X, by omega, rfl, rfl⟩ ?_
  rintro ρ σ' ⟨rfl, i, Y, hi, hY, rfl⟩
  refine T.seq_k (fun K_h2 h2 => ?_)
  refine T.regi hm ?_
  simp only [↓reduceIte, namesOf, List.any, I.names, aopsI, astep, ev, setd, List.set, List.getD, List.getElem?_cons_zero, List.getElem?_cons_succ, List.cons_append, List.nil_append, List.replicate, then_normal, Option.getD_some, Bool.or_false, Bool.false_eq_true, up_zero, binv, ↓opt_def, eq_self]
  refine h2 _ _ ?_
  try clear h2 K_h2
  refine T.seq_k (fun K_h2 h2 => ?_)
  refine T.cond rfl (fun hb => ?_) (fun hb => ?_)
  · refine T.skip ?_
    refine h2 _ _ ?_
    try clear h2 K_h2
    have hi8 : i < 8 := by simp at hb; omega
    clear hb
    have e1 : stepN (8 - (i + 1)) (bitstep Y) = stepN 8 X := by rw [← hY, show 8 - i = 8 - (i + 1) + 1 by omega]; rfl
    refine T.seq_k (fun K_h2 h2 => ?_)
    refine T.block ?_
    refine T.seq_k (fun K_h3 h3 => ?_)
    refine T.regi hm ?_
    simp only [↓reduceIte, namesOf, List.any, I.names, aopsI, astep, ev, setd, List.set, List.getD, List.getElem?_cons_zero, List.getElem?_cons_succ, List.cons_append, List.nil_append, List.replicate, then_normal, Option.getD_some, Bool.or_false, Bool.false_eq_true, up_zero, binv, ↓opt_def, eq_self]
    refine h3 _ _ ?_
    try clear h3 K_h3
    refine T.seq_k (fun K_h3 h3 => ?_)
    have e2 := u32_shr1 Y
    refine T.regi hm ?_
    simp only [↓reduceIte, namesOf, List.any, I.names, aopsI, astep, ev, setd, List.set, List.getD, List.getElem?_cons_zero, List.getElem?_cons_succ, List.cons_append, List.nil_append, List.replicate, then_normal, Option.getD_some, Bool.or_false, Bool.false_eq_true, up_zero, binv, ↓opt_def, eq_self, e2, show ¬ ((1 : Int) < 0) by omega]
    refine h3 _ _ ?_
    try clear h3 K_h3
    refine T.seq_k (fun K_h3 h3 => ?_)
    have e3 := u32_odd Y
    refine T.regi hm ?_
    simp only [↓reduceIte, namesOf, List.any, I.names, aopsI, astep, ev, setd, List.set, List.getD, List.getElem?_cons_zero, List.getElem?_cons_succ, List.cons_append, List.nil_append, List.replicate, then_normal, Option.getD_some, Bool.or_false, Bool.false_eq_true, up_zero, binv, ↓opt_def, eq_self, e3]
    refine h3 _ _ ?_
    try clear h3 K_h3
    have e4 : IntKind.i64.wrap ((i : Int) + 1) = (i : Int) + 1 := wrap64 (by omega) (by omega)
    refine T.cond rfl (fun hb => ?_) (fun hb => ?_)
    · have e5 := u32_xor (Y >>> 1) 0xEDB88320#32
      rw [← u32_poly] at e5
      refine T.regi hm ?_
      simp only [↓reduceIte, namesOf, List.any, I.names, aopsI, astep, ev, setd, List.set, List.getD, List.getElem?_cons_zero, List.getElem?_cons_succ, List.cons_append, List.nil_append, List.replicate, then_normal, inBlock_normal, Option.getD_some, Bool.or_false, Bool.false_eq_true, up_zero, binv, ↓opt_def, eq_self, e5]
      refine h2 _ _ ?_
      try clear h2 K_h2
      refine T.regi hm ?_
      simp only [↓reduceIte, namesOf, List.any, I.names, aopsI, astep, ev, setd, List.set, List.getD, List.getElem?_cons_zero, List.getElem?_cons_succ, List.cons_append, List.nil_append, List.replicate, then_normal, Option.getD_some, Bool.or_false, Bool.false_eq_true, up_zero, binv, ↓opt_def, eq_self, e4]
      refine ⟨_, _, Gh.keep [0, 4], ⟨rfl, i + 1, bitstep Y, by omega, e1, ?_⟩, ?_⟩
      · have : bitstep Y = (Y >>> 1) ^^^ 0xEDB88320#32 := by unfold bitstep; rw [if_pos hb]
        rw [this]; rfl
      · show ((8 : Int) - ((i : Int) + 1)).toNat < (8 - (i : Int)).toNat
        omega
    · refine T.skip ?_
      refine h2 _ _ ?_
      try clear h2 K_h2
      refine T.regi hm ?_
      simp only [↓reduceIte, namesOf, List.any, I.names, aopsI, astep, ev, setd, List.set, List.getD, List.getElem?_cons_zero, List.getElem?_cons_succ, List.cons_append, List.nil_append, List.replicate, then_normal, Option.getD_some, Bool.or_false, Bool.false_eq_true, up_zero, binv, ↓opt_def, eq_self, e4]
      refine ⟨_, _, Gh.keep [0, 4], ⟨rfl, i + 1, bitstep Y, by omega, e1, ?_⟩, ?_⟩
      · have : bitstep Y = Y >>> 1 := by unfold bitstep; rw [hb]; rfl
        rw [this]; rfl
      · show ((8 : Int) - ((i : Int) + 1)).toNat < (8 - (i : Int)).toNat
        omega
  · refine T.exit ?_
    have : i = 8 := by simp at hb; omega
    subst this
    try simp only [List.getD, List.getElem?_cons_zero, List.getElem?_cons_succ, List.cons_append, List.nil_append, List.replicate, then_normal, Option.getD_some, inBlock_exit, then_exit]
    refine h1 _ _ ?_
    try clear h1 K_h1
    refine T.seq_k (fun K_h1 h1 => ?_)
    refine T.regi hm ?_
    simp only [↓reduceIte, namesOf, List.any, I.names, aopsI, astep, ev, setd, List.set, List.getD, List.getElem?_cons_zero, List.getElem?_cons_succ, then_normal, Option.getD_some, Bool.or_false, Bool.false_eq_true, up_zero]
    refine h1 _ _ ?_
    try clear h1 K_h1
    refine T.ret (Fin.ret rfl ⟨?_, rfl⟩)
    rw [← hY]; rfl

theorem bytes_get {l : List UInt8} {i : Nat} (h : i < l.length) : (bytesAV l)[i]? = some (.int .u8 (l[i].toNat : Int)) := by simp [bytesAV, h]
theorem u32_byte (c : UInt8) : IntKind.u32.wrap (c.toNat : Int) = ((BitVec.ofNat 32 c.toNat).toNat : Int) := by
  have := c.toNat_lt
  simp [IntKind.wrap, IntKind.bits, IntKind.signed]; omega
theorem u32_not (x : BitVec 32) : IntKind.u32.wrap (4294967295 - (x.toNat : Int)) = ((~~~ x).toNat : Int) := by
  have := x.isLt
  rw [BitVec.toNat_not]
  simp [IntKind.wrap, IntKind.bits, IntKind.signed]; omega

set_option maxHeartbeats 1000000 in
theorem rsum_ok {l : List UInt8} {g : Ver} {σ : St} (hl : l.length ≤ 1099511627776) : ACalls Try.prog n_rsum [.sl (bytesAV l) g] σ (fun v σ' => v = .int .u32 (crcOf l : Int) ∧ σ' = σ) := by
  refine s_rsum (fun wf => ?_)
  unfold c_rsum
  refine T.seq_k (fun K_h1 h1 => ?_)
  refine T.regi hm ?_
  simp only [↓reduceIte, namesOf, List.any, I.names, aopsI, astep, ev, setd, List.set, List.cons_append, List.nil_append, List.length_cons, List.length_nil, List.replicate, then_normal, Bool.or_false, Bool.false_eq_true, up_zero, Nat.reduceAdd, Nat.reduceSub]
  refine h1 _ _ ?_
  try clear h1 K_h1
  refine T.seq_k (fun K_h1 h1 => ?_)
  refine T.regi hm ?_
  simp only [↓reduceIte, namesOf, List.any, I.names, aopsI, astep, ev, setd, List.set, then_normal, Bool.or_false, Bool.false_eq_true, up_zero]
  refine h1 _ _ ?_
  try clear h1 K_h1
  refine T.seq_k (fun K_h1 h1 => ?_)
  refine T.seq_k (fun K_h2 h2 => ?_)
  refine T.regi hm ?_
  simp only [↓reduceIte, namesOf, List.any, I.names, aopsI, astep, ev, setd, List.set, then_normal, Bool.or_false, Bool.false_eq_true, up_zero]
  refine h2 _ _ ?_
  try clear h2 K_h2
  refine T.block ?_
  refine T.gh (Gh.keep [0, 3, 4]) ?_
  refine T.loop (fun ρ σ' => σ' = σ ∧ ∃ (i : Nat) (Y : BitVec 32), i ≤ l.length ∧ crcRun Y (l.drop i) = crcRun 0xffffffff#32 l ∧ ρ = [.sl (bytesAV l) g, .any, .any, .int .u32 (Y.toNat : Int), .int .i64 (i : Int)] ++ List.replicate 29 .any)
    (fun ρ _ => match ρ.getD 4 .any with | .int _ m => (l.length - m).toNat | _ => 0) ⟨rfl, 0, 0xffffffff#32, Nat.zero_le _, rfl, rfl⟩ ?_
  rintro ρ σ' ⟨rfl, i, Y, hi, hY, rfl⟩
  refine T.seq_k (fun K_h2 h2 => ?_)
  refine T.seq_k (fun K_h3 h3 => ?_)
  refine T.regi hm ?_
  simp only [↓reduceIte, namesOf, List.any, I.names, aopsI, astep, ev, setd, List.set, List.getD, List.getElem?_cons_zero, List.getElem?_cons_succ, List.cons_append, List.nil_append, List.replicate, then_normal, Option.getD_some, Bool.or_false, Bool.false_eq_true, up_zero, binv, ↓opt_def, lt_len, eq_self]
  refine h3 _ _ ?_
  try clear h3 K_h3
  refine T.cond rfl (fun hb => ?_) (fun hb => ?_)
  · refine T.skip ?_
    refine h2 _ _ ?_
    try clear h2 K_h2
    have hil : i < l.length := by simp [bytesAV_len] at hb; omega
    clear hb
    refine T.seq_k (fun K_h2 h2 => ?_)
    refine T.block ?_
    refine T.seq_k (fun K_h3 h3 => ?_)
    have e1 := u32_xor Y (BitVec.ofNat 32 l[i].toNat)
    rw [← u32_byte] at e1
    refine T.regi hm ?_
    simp only [↓reduceIte, namesOf, List.any, I.names, aopsI, astep, ev, setd, List.set, List.getD, List.getElem?_cons_zero, List.getElem?_cons_succ, List.cons_append, List.nil_append, List.length_cons, List.length_nil, List.replicate, then_normal, Option.getD_some, Bool.or_false, Bool.false_eq_true, up_zero, Nat.reduceAdd, binv, ↓opt_def, AV.cells, ldc, Int.natCast_nonneg, lt_len, Int.toNat_natCast, and_true, eq_self, decide_true, bytesAV_len, bytes_get hil, hil, e1]
    refine h3 _ _ ?_
    try clear h3 K_h3
    refine T.seq_k (fun K_h3 h3 => ?_)
    refine T.regi hm ?_
    simp only [↓reduceIte, namesOf, List.any, I.names, aopsI, astep, ev, setd, List.set, List.getD, List.getElem?_cons_zero, List.getElem?_cons_succ, List.cons_append, List.nil_append, List.replicate, then_normal, Option.getD_some, Bool.or_false, Bool.false_eq_true, up_zero]
    refine h3 _ _ ?_
    try clear h3 K_h3
    refine T.block ?_
    refine T.gh (Gh.keep [0, 3, 4, 5]) ?_
    refine T.loop (fun ρ σ'' => σ'' = σ' ∧ ∃ (k : Nat) (Z : BitVec 32), k ≤ 8 ∧ stepN (8 - k) Z = stepN 8 (Y ^^^ BitVec.ofNat 32 l[i].toNat) ∧ ρ = [.sl (bytesAV l) g, .any, .any, .int .u32 (Z.toNat : Int), .int .i64 (i : Int), .int .i64 (k : Int)] ++ List.replicate 28 .any)
      (fun ρ _ => match ρ.getD 5 .any with | .int _ m => (8 - m).toNat | _ => 0) ⟨rfl, 0, Y ^^^ BitVec.ofNat 32 l[i].toNat, by omega, rfl, rfl⟩ ?_
    rintro ρ σ'' ⟨rfl, k, Z, hk, hZ, rfl⟩
    refine T.seq_k (fun K_h3 h3 => ?_)
    refine T.seq_k (fun K_h4 h4 => ?_)
    refine T.regi hm ?_
    simp only [↓reduceIte, namesOf, List.any, I.names, aopsI, astep, ev, setd, List.set, List.getD, List.getElem?_cons_zero, List.getElem?_cons_succ, List.cons_append, List.nil_append, List.replicate, then_normal, Option.getD_some, Bool.or_false, Bool.false_eq_true, up_zero, binv, ↓opt_def, eq_self]
    refine h4 _ _ ?_
    try clear h4 K_h4
    refine T.cond rfl (fun hb => ?_) (fun hb => ?_)
    · refine T.skip ?_
      refine h3 _ _ ?_
      try clear h3 K_h3
      have hk8 : k < 8 := by simp at hb; omega
      clear hb
      have e1 : stepN (8 - (k + 1)) (bitstep Z) = stepN 8 (Y ^^^ BitVec.ofNat 32 l[i].toNat) := by rw [← hZ, show 8 - k = 8 - (k + 1) + 1 by omega]; rfl
      have e4 : IntKind.i64.wrap ((k : Int) + 1) = (k : Int) + 1 := wrap64 (by omega) (by omega)
      refine T.seq_k (fun K_h3 h3 => ?_)
      refine T.block ?_
      refine T.seq_k (fun K_h4 h4 => ?_)
      have e2 := u32_rem2 Z
      refine T.regi hm ?_
      simp only [↓reduceIte, namesOf, List.any, I.names, aopsI, astep, ev, setd, List.set, List.getD, List.getElem?_cons_zero, List.getElem?_cons_succ, List.cons_append, List.nil_append, List.replicate, then_normal, Option.getD_some, Bool.or_false, Bool.false_eq_true, up_zero, binv, ↓opt_def, eq_self, e2, show ¬ ((2 : Int) = 0) by omega]
      refine h4 _ _ ?_
      try clear h4 K_h4
      refine T.seq_k (fun K_h4 h4 => ?_)
      have e3 := u32_quo2 Z
      refine T.regi hm ?_
      simp only [↓reduceIte, namesOf, List.any, I.names, aopsI, astep, ev, setd, List.set, List.getD, List.getElem?_cons_zero, List.getElem?_cons_succ, List.cons_append, List.nil_append, List.replicate, then_normal, Option.getD_some, Bool.or_false, Bool.false_eq_true, up_zero, binv, ↓opt_def, eq_self, e3, show ¬ ((2 : Int) = 0) by omega]
      refine h4 _ _ ?_
      try clear h4 K_h4
      refine T.seq_k (fun K_h4 h4 => ?_)
      refine T.regi hm ?_
      simp only [↓reduceIte, namesOf, List.any, I.names, aopsI, astep, ev, setd, List.set, List.getD, List.getElem?_cons_zero, List.getElem?_cons_succ, List.cons_append, List.nil_append, List.replicate, then_normal, Option.getD_some, Bool.or_false, Bool.false_eq_true, up_zero]
      refine h4 _ _ ?_
      try clear h4 K_h4
      refine T.cond rfl (fun hb => ?_) (fun hb => ?_)
      · have e5 := u32_xor (Z >>> 1) 0xEDB88320#32
        rw [← u32_poly] at e5
        refine T.regi hm ?_
        simp only [↓reduceIte, namesOf, List.any, I.names, aopsI, astep, ev, setd, List.set, List.getD, List.getElem?_cons_zero, List.getElem?_cons_succ, List.cons_append, List.nil_append, List.replicate, then_normal, inBlock_normal, Option.getD_some, Bool.or_false, Bool.false_eq_true, up_zero, binv, ↓opt_def, eq_self, e5]
        refine h3 _ _ ?_
        try clear h3 K_h3
        refine T.regi hm ?_
        simp only [↓reduceIte, namesOf, List.any, I.names, aopsI, astep, ev, setd, List.set, List.getD, List.getElem?_cons_zero, List.getElem?_cons_succ, List.cons_append, List.nil_append, List.replicate, then_normal, Option.getD_some, Bool.or_false, Bool.false_eq_true, up_zero, binv, ↓opt_def, eq_self, e4]
        refine ⟨_, _, Gh.keep [0, 3, 4, 5], ⟨rfl, k + 1, bitstep Z, by omega, e1, ?_⟩, ?_⟩
        · have : bitstep Z = (Z >>> 1) ^^^ 0xEDB88320#32 := by unfold bitstep; rw [if_pos hb]
          rw [this]; rfl
        · show ((8 : Int) - ((k : Int) + 1)).toNat < (8 - (k : Int)).toNat
          omega
      · refine T.skip ?_
        refine h3 _ _ ?_
        try clear h3 K_h3
        refine T.regi hm ?_
        simp only [↓reduceIte, namesOf, List.any, I.names, aopsI, astep, ev, setd, List.set, List.getD, List.getElem?_cons_zero, List.getElem?_cons_succ, List.cons_append, List.nil_append, List.replicate, then_normal, Option.getD_some, Bool.or_false, Bool.false_eq_true, up_zero, binv, ↓opt_def, eq_self, e4]
        refine ⟨_, _, Gh.keep [0, 3, 4, 5], ⟨rfl, k + 1, bitstep Z, by omega, e1, ?_⟩, ?_⟩
        · have : bitstep Z = Z >>> 1 := by unfold bitstep; rw [hb]; rfl
          rw [this]; rfl
        · show ((8 : Int) - ((k : Int) + 1)).toNat < (8 - (k : Int)).toNat
          omega
    · refine T.exit ?_
      have : k = 8 := by simp at hb; omega
      subst this
      try simp only [List.getD, List.getElem?_cons_zero, List.getElem?_cons_succ, List.cons_append, List.nil_append, List.replicate, then_normal, inBlock_normal, Option.getD_some, inBlock_exit, then_exit]
      refine h2 _ _ ?_
      try clear h2 K_h2
      have e4 : IntKind.i64.wrap ((i : Int) + 1) = (i : Int) + 1 := wrap64 (by omega) (by omega)
      refine T.regi hm ?_
      simp only [↓reduceIte, namesOf, List.any, I.names, aopsI, astep, ev, setd, List.set, List.getD, List.getElem?_cons_zero, List.getElem?_cons_succ, List.cons_append, List.nil_append, List.replicate, then_normal, Option.getD_some, Bool.or_false, Bool.false_eq_true, up_zero, binv, ↓opt_def, eq_self, e4]
      refine ⟨_, _, Gh.keep [0, 3, 4], ⟨rfl, i + 1, Z, hil, ?_, rfl⟩, ?_⟩
      · rw [← hY, List.drop_eq_getElem_cons hil]
        simp only [crcRun]
        rw [← hZ]; rfl
      · show ((l.length : Int) - ((i : Int) + 1)).toNat < ((l.length : Int) - (i : Int)).toNat
        omega
  · refine T.exit ?_
    have : i = l.length := by simp [bytesAV_len] at hb; omega
    subst this
    try simp only [List.getD, List.getElem?_cons_zero, List.getElem?_cons_succ, List.cons_append, List.nil_append, List.replicate, then_normal, Option.getD_some, inBlock_exit, then_exit]
    refine h1 _ _ ?_
    try clear h1 K_h1
    refine T.seq_k (fun K_h1 h1 => ?_)
    have e1 := u32_not Y
    refine T.regi hm ?_
    simp only [↓reduceIte, namesOf, List.any, I.names, aopsI, astep, ev, setd, List.set, List.getD, List.getElem?_cons_zero, List.getElem?_cons_succ, then_normal, Option.getD_some, Bool.or_false, Bool.false_eq_true, up_zero, binv, ↓opt_def, eq_self, e1]
    refine h1 _ _ ?_
    try clear h1 K_h1
    refine T.ret (Fin.ret rfl ⟨?_, rfl⟩)
    rw [List.drop_length] at hY
    simp only [crcRun] at hY
    unfold crcOf
    rw [← hY]; rfl

end Go.VL
