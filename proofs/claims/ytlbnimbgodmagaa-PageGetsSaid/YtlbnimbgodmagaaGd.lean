/- Texts put together: Contracts: small things. Contracts: numbers as bytes. PLAIN LAW: a checksum by a table is the checksum bit by bit. Contracts: checksums. Contracts: the checksum by a table. Contracts: sealing. Contracts: sealed bytes opened. Contracts: the document's opening; rising numbers; an error's number. Contracts: an index's bytes. Contracts: readers. A reader is an owned row of three: bytes, how far, where amiss. Contracts: the document's reader. Contracts: small things that are used often; an error's number. Contracts: readers, told as functions. Code run at given values: what is told of some calls. States that are alike but for new names; a named end among them; arithmetic of words. -/
import Derived.Test.YtlbnimbgodmagaaVcA

/- Contracts: small things. -/
namespace Go.VL
open Go.Proofs

theorem hm : Try.prog.follows .mixedOrders = true := by kernel_rfl

def nums (k : IntKind) (l : List Int) : List AV := l.map (.int k)
theorem nums_len (k : IntKind) (l : List Int) : (nums k l).length = l.length := by simp [nums]
theorem nums_get (k : IntKind) {l : List Int} {i : Nat} (h : i < l.length) : (nums k l)[i]? = some (.int k l[i]) := by simp [nums, h]

theorem wrap64 {n : Int} (h0 : -9223372036854775808 ≤ n) (h1 : n < 9223372036854775808) : IntKind.i64.wrap n = n := by
  simp [IntKind.wrap, IntKind.bits, IntKind.signed]; omega

def rightB (w : Int) : Bool := decide (w = 1 ∨ w = 2 ∨ w = 4 ∨ w = 8)

theorem right_ok {w : Int} {σ : St} : ACalls Try.prog n_right [.int .i64 w] σ (fun v σ' => v = .bool (rightB w) ∧ σ' = σ) := by
  refine s_right (fun wf => ?_)
  unfold c_right
  refine T.seq_k (fun K_h1 h1 => ?_)
  refine T.regi hm ?_
  simp only [↓reduceIte, namesOf, List.any, I.names, aopsI, astep, ev, setd, List.set, List.cons_append, List.nil_append, List.length_cons, List.length_nil, List.replicate, then_normal, Bool.or_false, Bool.false_eq_true, up_zero, Nat.reduceAdd, Nat.reduceSub]
  refine h1 _ _ ?_
  try clear h1 K_h1
  refine T.seq_k (fun K_h1 h1 => ?_)
  by_cases w1 : w = 1
  · subst w1
    refine T.regi hm ?_
    simp only [↓reduceIte, namesOf, List.any, I.names, aopsI, astep, ev, setd, List.set, List.getD, List.getElem?_cons_zero, List.getElem?_cons_succ, then_normal, Option.getD_some, Bool.or_false, Bool.false_eq_true, up_zero, binv, ↓opt_def, eq_self, reduceCtorEq, beq_self_eq_true, reduceCtorEq]
    refine h1 _ _ ?_
    try clear h1 K_h1
    exact T.ret (Fin.ret rfl ⟨by simp [pack, rightB], rfl⟩)
  by_cases w2 : w = 2
  · subst w2
    refine T.regi hm ?_
    simp only [↓reduceIte, namesOf, List.any, I.names, aopsI, astep, ev, setd, List.set, List.getD, List.getElem?_cons_zero, List.getElem?_cons_succ, then_normal, Option.getD_some, Bool.or_false, Bool.false_eq_true, up_zero, binv, ↓opt_def, eq_self, reduceCtorEq, beq_self_eq_true, reduceCtorEq, Int.reduceBEq]
    refine h1 _ _ ?_
    try clear h1 K_h1
    exact T.ret (Fin.ret rfl ⟨by simp [pack, rightB], rfl⟩)
  by_cases w4 : w = 4
  · subst w4
    refine T.regi hm ?_
    simp only [↓reduceIte, namesOf, List.any, I.names, aopsI, astep, ev, setd, List.set, List.getD, List.getElem?_cons_zero, List.getElem?_cons_succ, then_normal, Option.getD_some, Bool.or_false, Bool.false_eq_true, up_zero, binv, ↓opt_def, eq_self, reduceCtorEq, beq_self_eq_true, reduceCtorEq, Int.reduceBEq]
    refine h1 _ _ ?_
    try clear h1 K_h1
    exact T.ret (Fin.ret rfl ⟨by simp [pack, rightB], rfl⟩)
  · have e1 : (w == 1) = false := by simpa using w1
    have e2 : (w == 2) = false := by simpa using w2
    have e4 : (w == 4) = false := by simpa using w4
    refine T.regi hm ?_
    simp only [↓reduceIte, namesOf, List.any, I.names, aopsI, astep, ev, setd, List.set, List.getD, List.getElem?_cons_zero, List.getElem?_cons_succ, then_normal, Option.getD_some, Bool.or_false, Bool.false_eq_true, up_zero, binv, ↓opt_def, eq_self, e1, e2, e4]
    refine h1 _ _ ?_
    try clear h1 K_h1
    refine T.ret (Fin.ret rfl ⟨?_, rfl⟩)
    by_cases w8 : w = 8
    · subst w8; simp [pack, rightB]
    · have e8 : (w == 8) = false := by simpa using w8
      simp [pack, rightB, w1, w2, w4, w8]

end Go.VL

/- Contracts: numbers as bytes. -/
namespace Go.VL
open Go.Proofs

def g_right : List AV → Option AV
  | [.int .i64 w] => some (.bool (rightB w))
  | _ => none
theorem right_pure : PureC Try.prog n_right g_right := by
  intro args σ v h
  unfold g_right at h
  split at h
  · simp only [Option.some.injEq] at h; subst h; exact right_ok
  · cases h

def t1 : Tbl := [(n_right, g_right)]
theorem t1_ok : t1.ok Try.prog := Tbl.ok_cons right_pure Tbl.ok_nil

/-- a number's bytes, the highest first -/
def beB : Nat → Nat → List UInt8
  | 0, _ => []
  | w + 1, n => beB w (n / 256) ++ [UInt8.ofNat (n % 256)]
theorem beB_len : ∀ (w n : Nat), (beB w n).length = w
  | 0, _ => rfl
  | w + 1, n => by simp [beB, beB_len w]

theorem shr_byte (n i : Nat) (hi : i ≤ 8) : IntKind.u8.wrap (Int.fdiv (n : Int) (2 ^ min (8 * (i : Int)).toNat IntKind.u64.bits)) = ((UInt8.ofNat (n / 256 ^ i % 256)).toNat : Int) := by
  have h1 : min (8 * (i : Int)).toNat IntKind.u64.bits = 8 * i := by
    have : (8 * (i : Int)).toNat = 8 * i := by omega
    rw [this]; simp [IntKind.bits]; omega
  rw [h1]
  have h2 : (2 : Int) ^ (8 * i) = ((256 ^ i : Nat) : Int) := by
    rw [show (256 : Nat) = 2 ^ 8 from rfl, ← Nat.pow_mul]; simp
  rw [h2, Int.fdiv_eq_ediv_of_nonneg _ (Int.natCast_nonneg _), ← Int.natCast_ediv]
  simp [IntKind.wrap, IntKind.bits, IntKind.signed]

theorem shr_zero (n w : Nat) (hw : w ≤ 8) : (Int.fdiv (n : Int) (2 ^ min (8 * (w : Int)).toNat IntKind.u64.bits) != 0) = !decide (n / 256 ^ w = 0) := by
  have h1 : min (8 * (w : Int)).toNat IntKind.u64.bits = 8 * w := by
    have : (8 * (w : Int)).toNat = 8 * w := by omega
    rw [this]; simp [IntKind.bits]; omega
  rw [h1]
  have h2 : (2 : Int) ^ (8 * w) = ((256 ^ w : Nat) : Int) := by
    rw [show (256 : Nat) = 2 ^ 8 from rfl, ← Nat.pow_mul]; simp
  rw [h2, Int.fdiv_eq_ediv_of_nonneg _ (Int.natCast_nonneg _), ← Int.natCast_ediv]
  by_cases h : n / 256 ^ w = 0
  · rw [h]; rfl
  · rw [decide_eq_false h]
    have : ((n / 256 ^ w : Nat) : Int) ≠ 0 := by omega
    simpa using this

theorem byte1 (b : UInt8) : [AV.int .u8 (b.toNat : Int)] = bytesAV [b] := rfl
theorem bytesAV_app (x y : List UInt8) : bytesAV x ++ bytesAV y = bytesAV (x ++ y) := by simp [bytesAV]
theorem bytesAV_len (x : List UInt8) : (bytesAV x).length = x.length := by simp [bytesAV]
theorem bytesAV_er (x : List UInt8) : (bytesAV x).map AV.er = bytesAV x := by
  simp only [bytesAV, List.map_map]; rfl
theorem fits_byte (b : UInt8) : AV.fits 1 (.int .u8 (b.toNat : Int)) = true := rfl

/-- what word.Put comes to -/
theorem wput_ok {l : List UInt8} {g : Ver} {w n : Nat} {σ : St} (hl : l.length ≤ 1099511627776) (hw : rightB w = true) (hn : w < 8 → n / 256 ^ w = 0) :
    ACalls Try.prog n_wput [.sl (bytesAV l) g, .int .i64 w, .int .u64 n] σ (fun v σ' => ∃ h, OneTip σ σ' h 1 ∧ v = .tup [.sl (bytesAV (l ++ beB w n)) (.tip h), .nili]) := by
  have hw8 : w ≤ 8 := by simp [rightB] at hw; omega
  have hw1 : 1 ≤ w := by simp [rightB] at hw; omega
  refine s_wput (fun wf => ?_)
  unfold c_wput
  refine T.seq_k (fun K_h1 h1 => ?_)
  refine T.regi hm ?_
  simp only [↓reduceIte, namesOf, List.any, I.names, aopsI, astep, ev, setd, List.set, List.cons_append, List.nil_append, List.length_cons, List.length_nil, List.replicate, then_normal, Bool.or_false, Bool.false_eq_true, up_zero, Nat.reduceAdd, Nat.reduceSub]
  refine h1 _ _ ?_
  try clear h1 K_h1
  refine T.seq_k (fun K_h1 h1 => ?_)
  refine T.seq_k (fun K_h2 h2 => ?_)
  have main : ∀ ρ, keep [0, 1, 2] 0 ρ = [.sl (bytesAV l) g, .int .i64 w, .int .u64 n] ++ List.replicate 40 .any → K_h1 ρ σ := by
    intro ρ hρ
    refine h1 _ _ (T.gh (Gh.keep [0, 1, 2]) ?_)
    rw [hρ]
    clear h1 hρ h2 ρ
    refine T.seq_k (fun K_h1 h1 => ?_)
    refine T.regi hm ?_
    simp only [↓reduceIte, namesOf, List.any, I.names, aopsI, astep, ev, setd, List.set, List.getD, List.getElem?_cons_zero, List.getElem?_cons_succ, List.cons_append, List.nil_append, List.length_cons, List.length_nil, List.replicate, then_normal, Option.getD_some, Bool.or_false, Bool.or_true, Nat.reduceAdd, List.map_nil, St.set_same, eq_self, held, srcOf, St.set_same, bytesAV_er, bytes_all, List.all_nil, Bool.true_and]
    rw [if_pos (by simp only [bytesAV_len, decide_eq_true_eq]; omega)]
    have o1 : OneTip σ ((((σ.up 4).set (σ.next + 0) (Res.tip 1)).del (σ.next + 0)).set (σ.next + 2) (Res.tip 1)) (σ.next + 2) 1 :=
      (OneTip.new (n := 4) (i := 0) (by omega)).mv wf (by omega) (by simp)
    generalize ((((σ.up 4).set (σ.next + 0) (Res.tip 1)).del (σ.next + 0)).set (σ.next + 2) (Res.tip 1)) = σ1 at o1 ⊢
    generalize σ.next + 2 = g1 at o1 ⊢
    refine h1 _ _ ?_
    try clear h1 K_h1
    refine T.seq_k (fun K_h1 h1 => ?_)
    refine T.seq_k (fun K_h2 h2 => ?_)
    have e1 : IntKind.i64.wrap ((w : Int) - 1) = (w : Int) - 1 := wrap64 (by omega) (by omega)
    refine T.regi hm ?_
    simp only [↓reduceIte, namesOf, List.any, I.names, aopsI, astep, ev, setd, List.set, List.getD, List.getElem?_cons_zero, List.getElem?_cons_succ, then_normal, Option.getD_some, Bool.or_false, Bool.false_eq_true, up_zero, binv, ↓opt_def, eq_self, e1]
    refine h2 _ _ ?_
    try clear h2 K_h2
    refine T.block ?_
    refine T.gh (Gh.keep [0, 1, 2, 8, 9]) ?_
    refine T.loop (fun ρ σ' => ∃ (i g1 : Nat), i ≤ w ∧ OneTip σ σ' g1 1 ∧ ρ = [.sl (bytesAV l) g, .int .i64 w, .int .u64 n, .any, .any, .any, .any, .any, .sl (bytesAV (l ++ beB (w - i) (n / 256 ^ i))) (.tip g1), .int .i64 ((i : Int) - 1)] ++ List.replicate 33 .any)
      (fun ρ _ => match ρ.getD 9 .any with | .int _ m => (m + 1).toNat | _ => 0) ⟨w, g1, Nat.le_refl _, o1, ?_⟩ ?_
    · simp only [Nat.sub_self, beB, List.append_nil]; rfl
    clear o1
    rintro ρ σ' ⟨i, g1, hi, o1, rfl⟩
    refine T.seq_k (fun K_h2 h2 => ?_)
    refine T.seq_k (fun K_h3 h3 => ?_)
    refine T.regi hm ?_
    simp only [↓reduceIte, namesOf, List.any, I.names, aopsI, astep, ev, setd, List.set, List.getD, List.getElem?_cons_zero, List.getElem?_cons_succ, List.cons_append, List.nil_append, List.replicate, then_normal, Option.getD_some, Bool.or_false, Bool.false_eq_true, up_zero, binv, ↓opt_def, eq_self]
    refine h3 _ _ ?_
    try clear h3 K_h3
    refine T.cond rfl (fun hb => ?_) (fun hb => ?_)
    · refine T.skip ?_
      refine h2 _ _ ?_
      try clear h2 K_h2
      obtain ⟨i, rfl⟩ : ∃ j, i = j + 1 := ⟨i - 1, by simp at hb; omega⟩
      have e0 : ((i + 1 : Nat) : Int) - 1 = (i : Int) := by omega
      have e3 : IntKind.i64.wrap (8 * (i : Int)) = 8 * (i : Int) := wrap64 (by omega) (by omega)
      have e4 : ¬ (8 * (i : Int) < 0) := by omega
      have e5 := shr_byte n i (by omega)
      rw [e0]
      clear hb
      refine T.seq_k (fun K_h2 h2 => ?_)
      refine T.block ?_
      refine T.regi hm ?_
      simp only [↓reduceIte, namesOf, List.any, I.names, aopsI, astep, ev, setd, List.set, List.getD, List.getElem?_cons_zero, List.getElem?_cons_succ, List.cons_append, List.nil_append, List.length_cons, List.length_nil, List.replicate, then_normal, inBlock_normal, Option.getD_some, Bool.or_false, Bool.or_true, Nat.reduceAdd, binv, ↓opt_def, List.map_cons, List.map_nil, Int.natCast_nonneg, eq_self, decide_true, er_int, List.all_cons, held, srcOf, o1.at_, bytes_all, List.all_nil, Bool.true_and, e3, e4, e5, fits_byte, List.all_append, St.up_res]
      have hlen : (beB (w - (i + 1)) (n / 256 ^ (i + 1))).length ≤ 8 := by rw [beB_len]; omega
      rw [if_pos (by simp only [bytesAV_len, List.length_append, decide_eq_true_eq]; omega)]
      have o2 : OneTip σ (((σ'.up 9).del g1).set (σ'.next + 7) (Res.tip 1)) (σ'.next + 7) 1 := (o1.up 9).mv wf (by have := o1.lo; have := o1.hi; omega) (by simp)
      generalize (((σ'.up 9).del g1).set (σ'.next + 7) (Res.tip 1)) = σ2 at o2 ⊢
      generalize σ'.next + 7 = g2 at o2 ⊢
      have e6 : beB (w - (i + 1)) (n / 256 ^ (i + 1)) ++ [UInt8.ofNat (n / 256 ^ i % 256)] = beB (w - i) (n / 256 ^ i) := by
        rw [show w - i = w - (i + 1) + 1 by omega, beB, Nat.pow_succ, Nat.div_div_eq_div_mul]
      rw [byte1, bytesAV_app, List.append_assoc, e6]
      refine h2 _ _ ?_
      try clear h2 K_h2
      have e7 : IntKind.i64.wrap ((i : Int) - 1) = (i : Int) - 1 := wrap64 (by omega) (by omega)
      refine T.regi hm ?_
      simp only [↓reduceIte, namesOf, List.any, I.names, aopsI, astep, ev, setd, List.set, List.getD, List.getElem?_cons_zero, List.getElem?_cons_succ, List.cons_append, List.nil_append, List.replicate, then_normal, Option.getD_some, Bool.or_false, Bool.false_eq_true, up_zero, binv, ↓opt_def, eq_self, e7]
      refine ⟨_, _, Gh.keep [0, 1, 2, 8, 9], ⟨i, g2, by omega, o2, rfl⟩, ?_⟩
      show ((i : Int) - 1 + 1).toNat < ((i : Int) + 1).toNat
      omega
    · refine T.exit ?_
      have : i = 0 := by simp at hb; omega
      subst this
      try simp only [List.getD, List.getElem?_cons_zero, List.getElem?_cons_succ, List.cons_append, List.nil_append, List.replicate, Option.getD_some]
      refine h1 _ _ ?_
      try clear h1 K_h1
      refine T.seq_k (fun K_h1 h1 => ?_)
      refine T.regi hm ?_
      simp only [↓reduceIte, namesOf, List.any, I.names, aopsI, astep, ev, setd, List.set, List.getD, List.getElem?_cons_zero, List.getElem?_cons_succ, then_normal, Option.getD_some, Bool.or_false, Bool.false_eq_true, up_zero]
      refine h1 _ _ ?_
      try clear h1 K_h1
      refine T.ret (Fin.ret rfl ⟨g1, o1, ?_⟩)
      simp [pack]
  by_cases h8 : w < 8
  · have e1 : decide ((w : Int) < 8) = true := by simp; omega
    have e2 := shr_zero n w hw8
    rw [hn h8] at e2
    simp only [decide_true, Bool.not_true] at e2
    have e3 : IntKind.i64.wrap (8 * (w : Int)) = 8 * (w : Int) := wrap64 (by omega) (by omega)
    have e4 : ¬ (8 * (w : Int) < 0) := by omega
    refine T.regt hm t1_ok ?_
    simp only [↓reduceIte, namesOf, List.any, I.names, aopsT, qstep, CPt, Tbl.get, astep, ev, setd, List.set, List.getD, List.getElem?_cons_zero, List.getElem?_cons_succ, then_normal, Option.getD_some, Bool.or_false, Bool.false_eq_true, up_zero, binv, ↓opt_def, List.map_cons, List.map_nil, eq_self, t1, g_right, hw, Bool.not_true, e1, e3, e4, e2]
    refine h2 _ _ ?_
    try clear h2 K_h2
    refine T.cond rfl (fun hb => by cases hb) (fun hb => ?_)
    exact T.skip (main _ rfl)
  · have e1 : decide ((w : Int) < 8) = false := by simp; omega
    refine T.regt hm t1_ok ?_
    simp only [↓reduceIte, namesOf, List.any, I.names, aopsT, qstep, CPt, Tbl.get, astep, ev, setd, List.set, List.getD, List.getElem?_cons_zero, List.getElem?_cons_succ, then_normal, Option.getD_some, Bool.or_false, Bool.false_eq_true, up_zero, binv, ↓opt_def, List.map_cons, List.map_nil, eq_self, t1, g_right, hw, Bool.not_true, e1]
    refine h2 _ _ ?_
    try clear h2 K_h2
    refine T.cond rfl (fun hb => by cases hb) (fun hb => ?_)
    exact T.skip (main _ rfl)
end Go.VL

/- PLAIN LAW: a checksum by a table is the checksum bit by bit. -/
namespace Go.VL

def bitstep (x : BitVec 32) : BitVec 32 := if x.getLsbD 0 then (x >>> 1) ^^^ 0xEDB88320#32 else x >>> 1
def stepN : Nat → BitVec 32 → BitVec 32
  | 0, x => x
  | n + 1, x => stepN n (bitstep x)

theorem bitstep_xor (a b : BitVec 32) : bitstep (a ^^^ b) = bitstep a ^^^ bitstep b := by
  unfold bitstep
  rw [BitVec.getLsbD_xor, BitVec.ushiftRight_xor_distrib]
  cases a.getLsbD 0 <;> cases b.getLsbD 0 <;> simp only [Bool.xor_false, Bool.xor_true, Bool.not_true, Bool.not_false, if_true, if_false, Bool.false_eq_true]
  · rw [BitVec.xor_assoc]
  · rw [BitVec.xor_assoc, BitVec.xor_assoc, BitVec.xor_comm (b >>> 1)]
  · rw [BitVec.xor_assoc (a >>> 1), BitVec.xor_comm 0xEDB88320#32, BitVec.xor_assoc (b >>> 1), BitVec.xor_self, BitVec.xor_zero]
theorem stepN_xor : ∀ (n : Nat) (a b : BitVec 32), stepN n (a ^^^ b) = stepN n a ^^^ stepN n b
  | 0, _, _ => rfl
  | n + 1, a, b => by simp only [stepN]; rw [bitstep_xor, stepN_xor n]

theorem stepN_low : ∀ (n : Nat) (y : BitVec 32), (∀ i, i < n → y.getLsbD i = false) → stepN n y = y >>> n
  | 0, y, _ => by simp [stepN]
  | n + 1, y, h => by
    have h0 : bitstep y = y >>> 1 := by unfold bitstep; rw [h 0 (by omega)]; simp
    simp only [stepN]
    rw [h0, stepN_low n _ (fun i hi => by rw [BitVec.getLsbD_ushiftRight]; exact h (1 + i) (by omega))]
    rw [← BitVec.shiftRight_add, Nat.add_comm]

theorem split8 (y : BitVec 32) : y = (y &&& 0xff#32) ^^^ ((y >>> 8) <<< 8) := by
  apply BitVec.eq_of_getLsbD_eq
  intro i hi
  simp only [BitVec.getLsbD_xor, BitVec.getLsbD_and, BitVec.getLsbD_shiftLeft, BitVec.getLsbD_ushiftRight]
  have hff : (0xff#32).getLsbD i = decide (i < 8) := by
    have : ∀ j : _root_.Fin 32, (0xff#32).getLsbD j.val = decide (j.val < 8) := by decide
    exact this ⟨i, hi⟩
  rw [hff]
  by_cases h8 : i < 8
  · simp [h8]
  · have : 8 + (i - 8) = i := by omega
    simp [h8, this, hi]

/-- eight steps of a word and a byte: by the low byte's own -/
theorem table_step (x c : BitVec 32) (hc : c >>> 8 = 0#32) : stepN 8 (x ^^^ c) = (x >>> 8) ^^^ stepN 8 ((x ^^^ c) &&& 0xff#32) := by
  have h := split8 (x ^^^ c)
  have h2 : stepN 8 (((x ^^^ c) >>> 8) <<< 8) = (x ^^^ c) >>> 8 := by
    rw [stepN_low 8 _ (fun i hi => by rw [BitVec.getLsbD_shiftLeft]; simp [hi])]
    apply BitVec.eq_of_getLsbD_eq
    intro i hi
    simp only [BitVec.getLsbD_ushiftRight, BitVec.getLsbD_shiftLeft]
    by_cases h32 : 8 + i < 32
    · have : 8 + i - 8 = i := by omega
      simp [h32, this]
    · rw [BitVec.getLsbD_of_ge (x ^^^ c) (8 + i) (by omega)]
      simp [h32]
  conv => lhs; rw [h]
  rw [stepN_xor, h2, BitVec.ushiftRight_xor_distrib, hc, BitVec.xor_zero, BitVec.xor_comm]

/-- the checksum's run over bytes -/
def crcRun (x : BitVec 32) : List UInt8 → BitVec 32
  | [] => x
  | c :: r => crcRun (stepN 8 (x ^^^ BitVec.ofNat 32 c.toNat)) r
def crcOf (l : List UInt8) : Nat := (~~~ (crcRun 0xffffffff#32 l)).toNat
theorem crcOf_lt (l : List UInt8) : crcOf l < 4294967296 := (~~~ (crcRun 0xffffffff#32 l)).isLt
/-! ### The operations on words -/
theorem u32_shr1 (x : BitVec 32) : Int.fdiv (x.toNat : Int) (2 ^ min (1 : Int).toNat IntKind.u32.bits) = ((x >>> 1).toNat : Int) := by
  have : (2 : Int) ^ min (1 : Int).toNat IntKind.u32.bits = ((2 : Nat) : Int) := by simp [IntKind.bits]
  rw [this, Int.fdiv_eq_ediv_of_nonneg _ (by omega), ← Int.natCast_ediv, BitVec.toNat_ushiftRight, Nat.shiftRight_eq_div_pow]
theorem u32_shr8 (x : BitVec 32) : Int.fdiv (x.toNat : Int) (2 ^ min (8 : Int).toNat IntKind.u32.bits) = ((x >>> 8).toNat : Int) := by
  have : (2 : Int) ^ min (8 : Int).toNat IntKind.u32.bits = ((256 : Nat) : Int) := by simp [IntKind.bits]
  rw [this, Int.fdiv_eq_ediv_of_nonneg _ (by omega), ← Int.natCast_ediv, BitVec.toNat_ushiftRight, Nat.shiftRight_eq_div_pow]
theorem u32_of (x : BitVec 32) : BitVec.ofInt IntKind.u32.bits (x.toNat : Int) = x := by
  apply BitVec.eq_of_toNat_eq
  have := x.isLt
  simp [IntKind.bits]
theorem u32_wrap (x : BitVec 32) : IntKind.u32.wrap (x.toNat : Int) = (x.toNat : Int) := by
  have := x.isLt
  simp [IntKind.wrap, IntKind.bits, IntKind.signed]; omega
theorem u32_xor (x y : BitVec 32) : IntKind.u32.wrap ((BitVec.ofInt IntKind.u32.bits (x.toNat : Int) ^^^ BitVec.ofInt IntKind.u32.bits (y.toNat : Int)).toNat) = ((x ^^^ y).toNat : Int) := by
  rw [u32_of, u32_of]; exact u32_wrap _
theorem u32_poly : (3988292384 : Int) = ((0xEDB88320#32).toNat : Int) := rfl
theorem u32_odd (x : BitVec 32) : (IntKind.u32.wrap ((BitVec.ofInt IntKind.u32.bits (x.toNat : Int) &&& BitVec.ofInt IntKind.u32.bits 1).toNat) == 1) = x.getLsbD 0 := by
  rw [u32_of]
  have h1 : BitVec.ofInt IntKind.u32.bits 1 = 1#32 := rfl
  rw [h1]
  show (IntKind.u32.wrap (((x &&& 1#32 : BitVec 32).toNat : Nat) : Int) == 1) = x.getLsbD 0
  rw [u32_wrap]
  have h2 : x &&& 1#32 = if x.getLsbD 0 then 1#32 else 0#32 := by
    apply BitVec.eq_of_getLsbD_eq
    intro i hi
    rw [BitVec.getLsbD_and]
    have hone : (1#32).getLsbD i = decide (i = 0) := by
      have : ∀ j : _root_.Fin 32, (1#32).getLsbD j.val = decide (j.val = 0) := by decide
      exact this ⟨i, hi⟩
    rw [hone]
    by_cases h0 : i = 0
    · subst h0; cases x.getLsbD 0 <;> simp
    · cases x.getLsbD 0 <;> simp [h0]
  rw [h2]
  cases x.getLsbD 0 <;> rfl
theorem u32_rem2 (x : BitVec 32) : (Int.tmod (x.toNat : Int) 2 == 1) = x.getLsbD 0 := by
  have h1 : Int.tmod (x.toNat : Int) 2 = ((x.toNat % 2 : Nat) : Int) := by
    exact (Int.ofNat_tmod x.toNat 2).symm
  rw [h1]
  have h2 : x.getLsbD 0 = decide (x.toNat % 2 = 1) := by
    rw [BitVec.getLsbD, Nat.testBit_zero]
  rw [h2]
  rcases Nat.mod_two_eq_zero_or_one x.toNat with h | h <;> rw [h] <;> rfl
theorem u32_quo2 (x : BitVec 32) : IntKind.u32.wrap (Int.tdiv (x.toNat : Int) 2) = ((x >>> 1).toNat : Int) := by
  have h1 : Int.tdiv (x.toNat : Int) 2 = ((x.toNat / 2 : Nat) : Int) := by
    exact (Int.ofNat_tdiv x.toNat 2).symm
  have h2 : x.toNat / 2 = (x >>> 1).toNat := by rw [BitVec.toNat_ushiftRight, Nat.shiftRight_eq_div_pow]
  rw [h1, h2]; exact u32_wrap _
end Go.VL

/- Contracts: checksums. -/
namespace Go.VL
open Go.Proofs

theorem step_ok' {X : BitVec 32} {σ : St} : ACalls Try.prog n_step [.int .u32 (X.toNat : Int)] σ (fun v σ' => v = .int .u32 ((stepN 8 X).toNat : Int) ∧ σ' = σ) := by
  refine s_step (fun wf => ?_)
  unfold c_step
  refine T.seq_k (fun K_h1 h1 => ?_)
  refine T.regi hm ?_
  simp only [↓reduceIte, namesOf, List.any, I.names, aopsI, astep, ev, setd, List.set, List.cons_append, List.nil_append, List.length_cons, List.length_nil, List.replicate, then_normal, Bool.or_false, Bool.false_eq_true, up_zero, Nat.reduceAdd, Nat.reduceSub]
  refine h1 _ _ ?_
  try clear h1 K_h1
  refine T.seq_k (fun K_h1 h1 => ?_)
  refine T.seq_k (fun K_h2 h2 => ?_)
  refine T.regi hm ?_
  simp only [↓reduceIte, namesOf, List.any, I.names, aopsI, astep, ev, setd, List.set, then_normal, Bool.or_false, Bool.false_eq_true, up_zero]
  refine h2 _ _ ?_
  try clear h2 K_h2
  refine T.block ?_
  refine T.gh (Gh.keep [0, 4]) ?_
  refine T.loop (fun ρ σ' => σ' = σ ∧ ∃ (i : Nat) (Y : BitVec 32), i ≤ 8 ∧ stepN (8 - i) Y = stepN 8 X ∧ ρ = [.int .u32 (Y.toNat : Int), .any, .any, .any, .int .i64 (i : Int)] ++ List.replicate 11 .any)
    (fun ρ _ => match ρ.getD 4 .any with | .int _ m => (8 - m).toNat | _ => 0) ⟨rfl, 0, X, by omega, rfl, rfl⟩ ?_
  rintro ρ σ' ⟨rfl, i, Y, hi, hY, rfl⟩
  refine T.seq_k (fun K_h2 h2 => ?_)
  refine T.regi hm ?_
  simp only [↓reduceIte, namesOf, List.any, I.names, aopsI, astep, ev, setd, List.set, List.getD, List.getElem?_cons_zero, List.getElem?_cons_succ, List.cons_append, List.nil_append, List.replicate, then_normal, Option.getD_some, Bool.or_false, Bool.false_eq_true, up_zero, binv, ↓opt_def, eq_self]
  refine h2 _ _ ?_
  try clear h2 K_h2
  refine T.seq_k (fun K_h2 h2 => ?_)
  refine T.cond rfl (fun hb => ?_) (fun hb => ?_)
  · refine T.skip ?_
    refine h2 _ _ ?_
    try clear h2 K_h2
    have hi8 : i < 8 := by simp at hb; omega
    clear hb
    have e1 : stepN (8 - (i + 1)) (bitstep Y) = stepN 8 X := by rw [← hY, show 8 - i = 8 - (i + 1) + 1 by omega]; rfl
    refine T.seq_k (fun K_h2 h2 => ?_)
    refine T.block ?_
    refine T.seq_k (fun K_h3 h3 => ?_)
    refine T.regi hm ?_
    simp only [↓reduceIte, namesOf, List.any, I.names, aopsI, astep, ev, setd, List.set, List.getD, List.getElem?_cons_zero, List.getElem?_cons_succ, List.cons_append, List.nil_append, List.replicate, then_normal, Option.getD_some, Bool.or_false, Bool.false_eq_true, up_zero, binv, ↓opt_def, eq_self]
    refine h3 _ _ ?_
    try clear h3 K_h3
    refine T.seq_k (fun K_h3 h3 => ?_)
    have e2 := u32_shr1 Y
    refine T.regi hm ?_
    simp only [↓reduceIte, namesOf, List.any, I.names, aopsI, astep, ev, setd, List.set, List.getD, List.getElem?_cons_zero, List.getElem?_cons_succ, List.cons_append, List.nil_append, List.replicate, then_normal, Option.getD_some, Bool.or_false, Bool.false_eq_true, up_zero, binv, ↓opt_def, eq_self, e2, show ¬ ((1 : Int) < 0) by omega]
    refine h3 _ _ ?_
    try clear h3 K_h3
    refine T.seq_k (fun K_h3 h3 => ?_)
    have e3 := u32_odd Y
    refine T.regi hm ?_
    simp only [↓reduceIte, namesOf, List.any, I.names, aopsI, astep, ev, setd, List.set, List.getD, List.getElem?_cons_zero, List.getElem?_cons_succ, List.cons_append, List.nil_append, List.replicate, then_normal, Option.getD_some, Bool.or_false, Bool.false_eq_true, up_zero, binv, ↓opt_def, eq_self, e3]
    refine h3 _ _ ?_
    try clear h3 K_h3
    have e4 : IntKind.i64.wrap ((i : Int) + 1) = (i : Int) + 1 := wrap64 (by omega) (by omega)
    refine T.cond rfl (fun hb => ?_) (fun hb => ?_)
    · have e5 := u32_xor (Y >>> 1) 0xEDB88320#32
      rw [← u32_poly] at e5
      refine T.regi hm ?_
      simp only [↓reduceIte, namesOf, List.any, I.names, aopsI, astep, ev, setd, List.set, List.getD, List.getElem?_cons_zero, List.getElem?_cons_succ, List.cons_append, List.nil_append, List.replicate, then_normal, inBlock_normal, Option.getD_some, Bool.or_false, Bool.false_eq_true, up_zero, binv, ↓opt_def, eq_self, e5]
      refine h2 _ _ ?_
      try clear h2 K_h2
      refine T.regi hm ?_
      simp only [↓reduceIte, namesOf, List.any, I.names, aopsI, astep, ev, setd, List.set, List.getD, List.getElem?_cons_zero, List.getElem?_cons_succ, List.cons_append, List.nil_append, List.replicate, then_normal, Option.getD_some, Bool.or_false, Bool.false_eq_true, up_zero, binv, ↓opt_def, eq_self, e4]
      refine ⟨_, _, Gh.keep [0, 4], ⟨rfl, i + 1, bitstep Y, by omega, e1, ?_⟩, ?_⟩
      · have : bitstep Y = (Y >>> 1) ^^^ 0xEDB88320#32 := by unfold bitstep; rw [if_pos hb]
        rw [this]; rfl
      · show ((8 : Int) - ((i : Int) + 1)).toNat < (8 - (i : Int)).toNat
        omega
    · refine T.skip ?_
      refine h2 _ _ ?_
      try clear h2 K_h2
      refine T.regi hm ?_
      simp only [↓reduceIte, namesOf, List.any, I.names, aopsI, astep, ev, setd, List.set, List.getD, List.getElem?_cons_zero, List.getElem?_cons_succ, List.cons_append, List.nil_append, List.replicate, then_normal, Option.getD_some, Bool.or_false, Bool.false_eq_true, up_zero, binv, ↓opt_def, eq_self, e4]
      refine ⟨_, _, Gh.keep [0, 4], ⟨rfl, i + 1, bitstep Y, by omega, e1, ?_⟩, ?_⟩
      · have : bitstep Y = Y >>> 1 := by unfold bitstep; rw [hb]; rfl
        rw [this]; rfl
      · show ((8 : Int) - ((i : Int) + 1)).toNat < (8 - (i : Int)).toNat
        omega
  · refine T.exit ?_
    have : i = 8 := by simp at hb; omega
    subst this
    try simp only [List.getD, List.getElem?_cons_zero, List.getElem?_cons_succ, List.cons_append, List.nil_append, List.replicate, then_normal, Option.getD_some, inBlock_exit, then_exit]
    refine h1 _ _ ?_
    try clear h1 K_h1
    refine T.seq_k (fun K_h1 h1 => ?_)
    refine T.regi hm ?_
    simp only [↓reduceIte, namesOf, List.any, I.names, aopsI, astep, ev, setd, List.set, List.getD, List.getElem?_cons_zero, List.getElem?_cons_succ, then_normal, Option.getD_some, Bool.or_false, Bool.false_eq_true, up_zero]
    refine h1 _ _ ?_
    try clear h1 K_h1
    refine T.ret (Fin.ret rfl ⟨?_, rfl⟩)
    rw [← hY]; rfl

theorem bytes_get {l : List UInt8} {i : Nat} (h : i < l.length) : (bytesAV l)[i]? = some (.int .u8 (l[i].toNat : Int)) := by simp [bytesAV, h]
theorem u32_byte (c : UInt8) : IntKind.u32.wrap (c.toNat : Int) = ((BitVec.ofNat 32 c.toNat).toNat : Int) := by
  have := c.toNat_lt
  simp [IntKind.wrap, IntKind.bits, IntKind.signed]; omega
theorem u32_not (x : BitVec 32) : IntKind.u32.wrap (4294967295 - (x.toNat : Int)) = ((~~~ x).toNat : Int) := by
  have := x.isLt
  rw [BitVec.toNat_not]
  simp [IntKind.wrap, IntKind.bits, IntKind.signed]; omega

set_option maxHeartbeats 1000000 in
theorem rsum_ok {l : List UInt8} {g : Ver} {σ : St} (hl : l.length ≤ 1099511627776) : ACalls Try.prog n_rsum [.sl (bytesAV l) g] σ (fun v σ' => v = .int .u32 (crcOf l : Int) ∧ σ' = σ) := by
  refine s_rsum (fun wf => ?_)
  unfold c_rsum
  refine T.seq_k (fun K_h1 h1 => ?_)
  refine T.regi hm ?_
  simp only [↓reduceIte, namesOf, List.any, I.names, aopsI, astep, ev, setd, List.set, List.cons_append, List.nil_append, List.length_cons, List.length_nil, List.replicate, then_normal, Bool.or_false, Bool.false_eq_true, up_zero, Nat.reduceAdd, Nat.reduceSub]
  refine h1 _ _ ?_
  try clear h1 K_h1
  refine T.seq_k (fun K_h1 h1 => ?_)
  refine T.regi hm ?_
  simp only [↓reduceIte, namesOf, List.any, I.names, aopsI, astep, ev, setd, List.set, then_normal, Bool.or_false, Bool.false_eq_true, up_zero]
  refine h1 _ _ ?_
  try clear h1 K_h1
  refine T.seq_k (fun K_h1 h1 => ?_)
  refine T.seq_k (fun K_h2 h2 => ?_)
  refine T.regi hm ?_
  simp only [↓reduceIte, namesOf, List.any, I.names, aopsI, astep, ev, setd, List.set, then_normal, Bool.or_false, Bool.false_eq_true, up_zero]
  refine h2 _ _ ?_
  try clear h2 K_h2
  refine T.block ?_
  refine T.gh (Gh.keep [0, 3, 4]) ?_
  refine T.loop (fun ρ σ' => σ' = σ ∧ ∃ (i : Nat) (Y : BitVec 32), i ≤ l.length ∧ crcRun Y (l.drop i) = crcRun 0xffffffff#32 l ∧ ρ = [.sl (bytesAV l) g, .any, .any, .int .u32 (Y.toNat : Int), .int .i64 (i : Int)] ++ List.replicate 29 .any)
    (fun ρ _ => match ρ.getD 4 .any with | .int _ m => (l.length - m).toNat | _ => 0) ⟨rfl, 0, 0xffffffff#32, Nat.zero_le _, rfl, rfl⟩ ?_
  rintro ρ σ' ⟨rfl, i, Y, hi, hY, rfl⟩
  refine T.seq_k (fun K_h2 h2 => ?_)
  refine T.seq_k (fun K_h3 h3 => ?_)
  refine T.regi hm ?_
  simp only [↓reduceIte, namesOf, List.any, I.names, aopsI, astep, ev, setd, List.set, List.getD, List.getElem?_cons_zero, List.getElem?_cons_succ, List.cons_append, List.nil_append, List.replicate, then_normal, Option.getD_some, Bool.or_false, Bool.false_eq_true, up_zero, binv, ↓opt_def, lt_len, eq_self]
  refine h3 _ _ ?_
  try clear h3 K_h3
  refine T.cond rfl (fun hb => ?_) (fun hb => ?_)
  · refine T.skip ?_
    refine h2 _ _ ?_
    try clear h2 K_h2
    have hil : i < l.length := by simp [bytesAV_len] at hb; omega
    clear hb
    refine T.seq_k (fun K_h2 h2 => ?_)
    refine T.block ?_
    refine T.seq_k (fun K_h3 h3 => ?_)
    have e1 := u32_xor Y (BitVec.ofNat 32 l[i].toNat)
    rw [← u32_byte] at e1
    refine T.regi hm ?_
    simp only [↓reduceIte, namesOf, List.any, I.names, aopsI, astep, ev, setd, List.set, List.getD, List.getElem?_cons_zero, List.getElem?_cons_succ, List.cons_append, List.nil_append, List.length_cons, List.length_nil, List.replicate, then_normal, Option.getD_some, Bool.or_false, Bool.false_eq_true, up_zero, Nat.reduceAdd, binv, ↓opt_def, AV.cells, ldc, Int.natCast_nonneg, lt_len, Int.toNat_natCast, and_true, eq_self, decide_true, bytesAV_len, bytes_get hil, hil, e1]
    refine h3 _ _ ?_
    try clear h3 K_h3
    refine T.seq_k (fun K_h3 h3 => ?_)
    refine T.regi hm ?_
    simp only [↓reduceIte, namesOf, List.any, I.names, aopsI, astep, ev, setd, List.set, List.getD, List.getElem?_cons_zero, List.getElem?_cons_succ, List.cons_append, List.nil_append, List.replicate, then_normal, Option.getD_some, Bool.or_false, Bool.false_eq_true, up_zero]
    refine h3 _ _ ?_
    try clear h3 K_h3
    refine T.block ?_
    refine T.gh (Gh.keep [0, 3, 4, 5]) ?_
    refine T.loop (fun ρ σ'' => σ'' = σ' ∧ ∃ (k : Nat) (Z : BitVec 32), k ≤ 8 ∧ stepN (8 - k) Z = stepN 8 (Y ^^^ BitVec.ofNat 32 l[i].toNat) ∧ ρ = [.sl (bytesAV l) g, .any, .any, .int .u32 (Z.toNat : Int), .int .i64 (i : Int), .int .i64 (k : Int)] ++ List.replicate 28 .any)
      (fun ρ _ => match ρ.getD 5 .any with | .int _ m => (8 - m).toNat | _ => 0) ⟨rfl, 0, Y ^^^ BitVec.ofNat 32 l[i].toNat, by omega, rfl, rfl⟩ ?_
    rintro ρ σ'' ⟨rfl, k, Z, hk, hZ, rfl⟩
    refine T.seq_k (fun K_h3 h3 => ?_)
    refine T.seq_k (fun K_h4 h4 => ?_)
    refine T.regi hm ?_
    simp only [↓reduceIte, namesOf, List.any, I.names, aopsI, astep, ev, setd, List.set, List.getD, List.getElem?_cons_zero, List.getElem?_cons_succ, List.cons_append, List.nil_append, List.replicate, then_normal, Option.getD_some, Bool.or_false, Bool.false_eq_true, up_zero, binv, ↓opt_def, eq_self]
    refine h4 _ _ ?_
    try clear h4 K_h4
    refine T.cond rfl (fun hb => ?_) (fun hb => ?_)
    · refine T.skip ?_
      refine h3 _ _ ?_
      try clear h3 K_h3
      have hk8 : k < 8 := by simp at hb; omega
      clear hb
      have e1 : stepN (8 - (k + 1)) (bitstep Z) = stepN 8 (Y ^^^ BitVec.ofNat 32 l[i].toNat) := by rw [← hZ, show 8 - k = 8 - (k + 1) + 1 by omega]; rfl
      have e4 : IntKind.i64.wrap ((k : Int) + 1) = (k : Int) + 1 := wrap64 (by omega) (by omega)
      refine T.seq_k (fun K_h3 h3 => ?_)
      refine T.block ?_
      refine T.seq_k (fun K_h4 h4 => ?_)
      have e2 := u32_rem2 Z
      refine T.regi hm ?_
      simp only [↓reduceIte, namesOf, List.any, I.names, aopsI, astep, ev, setd, List.set, List.getD, List.getElem?_cons_zero, List.getElem?_cons_succ, List.cons_append, List.nil_append, List.replicate, then_normal, Option.getD_some, Bool.or_false, Bool.false_eq_true, up_zero, binv, ↓opt_def, eq_self, e2, show ¬ ((2 : Int) = 0) by omega]
      refine h4 _ _ ?_
      try clear h4 K_h4
      refine T.seq_k (fun K_h4 h4 => ?_)
      have e3 := u32_quo2 Z
      refine T.regi hm ?_
      simp only [↓reduceIte, namesOf, List.any, I.names, aopsI, astep, ev, setd, List.set, List.getD, List.getElem?_cons_zero, List.getElem?_cons_succ, List.cons_append, List.nil_append, List.replicate, then_normal, Option.getD_some, Bool.or_false, Bool.false_eq_true, up_zero, binv, ↓opt_def, eq_self, e3, show ¬ ((2 : Int) = 0) by omega]
      refine h4 _ _ ?_
      try clear h4 K_h4
      refine T.seq_k (fun K_h4 h4 => ?_)
      refine T.regi hm ?_
      simp only [↓reduceIte, namesOf, List.any, I.names, aopsI, astep, ev, setd, List.set, List.getD, List.getElem?_cons_zero, List.getElem?_cons_succ, List.cons_append, List.nil_append, List.replicate, then_normal, Option.getD_some, Bool.or_false, Bool.false_eq_true, up_zero]
      refine h4 _ _ ?_
      try clear h4 K_h4
      refine T.cond rfl (fun hb => ?_) (fun hb => ?_)
      · have e5 := u32_xor (Z >>> 1) 0xEDB88320#32
        rw [← u32_poly] at e5
        refine T.regi hm ?_
        simp only [↓reduceIte, namesOf, List.any, I.names, aopsI, astep, ev, setd, List.set, List.getD, List.getElem?_cons_zero, List.getElem?_cons_succ, List.cons_append, List.nil_append, List.replicate, then_normal, inBlock_normal, Option.getD_some, Bool.or_false, Bool.false_eq_true, up_zero, binv, ↓opt_def, eq_self, e5]
        refine h3 _ _ ?_
        try clear h3 K_h3
        refine T.regi hm ?_
        simp only [↓reduceIte, namesOf, List.any, I.names, aopsI, astep, ev, setd, List.set, List.getD, List.getElem?_cons_zero, List.getElem?_cons_succ, List.cons_append, List.nil_append, List.replicate, then_normal, Option.getD_some, Bool.or_false, Bool.false_eq_true, up_zero, binv, ↓opt_def, eq_self, e4]
        refine ⟨_, _, Gh.keep [0, 3, 4, 5], ⟨rfl, k + 1, bitstep Z, by omega, e1, ?_⟩, ?_⟩
        · have : bitstep Z = (Z >>> 1) ^^^ 0xEDB88320#32 := by unfold bitstep; rw [if_pos hb]
          rw [this]; rfl
        · show ((8 : Int) - ((k : Int) + 1)).toNat < (8 - (k : Int)).toNat
          omega
      · refine T.skip ?_
        refine h3 _ _ ?_
        try clear h3 K_h3
        refine T.regi hm ?_
        simp only [↓reduceIte, namesOf, List.any, I.names, aopsI, astep, ev, setd, List.set, List.getD, List.getElem?_cons_zero, List.getElem?_cons_succ, List.cons_append, List.nil_append, List.replicate, then_normal, Option.getD_some, Bool.or_false, Bool.false_eq_true, up_zero, binv, ↓opt_def, eq_self, e4]
        refine ⟨_, _, Gh.keep [0, 3, 4, 5], ⟨rfl, k + 1, bitstep Z, by omega, e1, ?_⟩, ?_⟩
        · have : bitstep Z = Z >>> 1 := by unfold bitstep; rw [hb]; rfl
          rw [this]; rfl
        · show ((8 : Int) - ((k : Int) + 1)).toNat < (8 - (k : Int)).toNat
          omega
    · refine T.exit ?_
      have : k = 8 := by simp at hb; omega
      subst this
      try simp only [List.getD, List.getElem?_cons_zero, List.getElem?_cons_succ, List.cons_append, List.nil_append, List.replicate, then_normal, inBlock_normal, Option.getD_some, inBlock_exit, then_exit]
      refine h2 _ _ ?_
      try clear h2 K_h2
      have e4 : IntKind.i64.wrap ((i : Int) + 1) = (i : Int) + 1 := wrap64 (by omega) (by omega)
      refine T.regi hm ?_
      simp only [↓reduceIte, namesOf, List.any, I.names, aopsI, astep, ev, setd, List.set, List.getD, List.getElem?_cons_zero, List.getElem?_cons_succ, List.cons_append, List.nil_append, List.replicate, then_normal, Option.getD_some, Bool.or_false, Bool.false_eq_true, up_zero, binv, ↓opt_def, eq_self, e4]
      refine ⟨_, _, Gh.keep [0, 3, 4], ⟨rfl, i + 1, Z, hil, ?_, rfl⟩, ?_⟩
      · rw [← hY, List.drop_eq_getElem_cons hil]
        simp only [crcRun]
        rw [← hZ]; rfl
      · show ((l.length : Int) - ((i : Int) + 1)).toNat < ((l.length : Int) - (i : Int)).toNat
        omega
  · refine T.exit ?_
    have : i = l.length := by simp [bytesAV_len] at hb; omega
    subst this
    try simp only [List.getD, List.getElem?_cons_zero, List.getElem?_cons_succ, List.cons_append, List.nil_append, List.replicate, then_normal, Option.getD_some, inBlock_exit, then_exit]
    refine h1 _ _ ?_
    try clear h1 K_h1
    refine T.seq_k (fun K_h1 h1 => ?_)
    have e1 := u32_not Y
    refine T.regi hm ?_
    simp only [↓reduceIte, namesOf, List.any, I.names, aopsI, astep, ev, setd, List.set, List.getD, List.getElem?_cons_zero, List.getElem?_cons_succ, then_normal, Option.getD_some, Bool.or_false, Bool.false_eq_true, up_zero, binv, ↓opt_def, eq_self, e1]
    refine h1 _ _ ?_
    try clear h1 K_h1
    refine T.ret (Fin.ret rfl ⟨?_, rfl⟩)
    rw [List.drop_length] at hY
    simp only [crcRun] at hY
    unfold crcOf
    rw [← hY]; rfl

end Go.VL

/- Contracts: the checksum by a table. -/
namespace Go.VL
open Go.Proofs

def step8I (m : Int) : Int := ((stepN 8 (BitVec.ofInt 32 m)).toNat : Int)
theorem step8I_bv (x : BitVec 32) : step8I (x.toNat : Int) = ((stepN 8 x).toNat : Int) := by
  unfold step8I
  have : BitVec.ofInt 32 (x.toNat : Int) = x := u32_of x
  rw [this]

/-- (told by choice, so that nobody reckons it) -/
noncomputable def inU32 (m : Int) : Bool := @decide (0 ≤ m ∧ m < 4294967296) (Classical.propDecidable _)
theorem inU32_iff {m : Int} : inU32 m = true ↔ 0 ≤ m ∧ m < 4294967296 := by unfold inU32; simp

noncomputable def g_step : List AV → Option AV
  | [.int .u32 m] => if inU32 m = true then some (.int .u32 (step8I m)) else none
  | _ => none
theorem step_pure : PureC Try.prog n_step g_step := by
  intro args σ v h
  unfold g_step at h
  split at h
  · rename_i m
    split at h
    · rename_i hm
      rw [inU32_iff] at hm
      simp only [Option.some.injEq] at h; subst h
      have e : m = ((BitVec.ofInt 32 m).toNat : Int) := by simp; omega
      have := step_ok' (X := BitVec.ofInt 32 m) (σ := σ)
      rw [← e] at this
      exact this
    · cases h
  · cases h
noncomputable def t2 : Tbl := [(n_step, g_step)]
theorem t2_ok : t2.ok Try.prog := Tbl.ok_cons step_pure Tbl.ok_nil

def tab (i : Nat) : List AV := (List.range 256).map fun j => .int .u32 (if j < i then step8I (j : Int) else 0)
theorem tab_len (i : Nat) : (tab i).length = 256 := by simp only [tab, List.length_map, List.length_range]
theorem tab_zero : tab 0 = zeros 256 (.int .u32 0) := by
  apply List.ext_getElem
  · simp only [tab_len, zeros, List.length_replicate]
  · intro i h1 h2
    simp only [tab, zeros, List.getElem_map, List.getElem_replicate, Nat.not_lt_zero, if_false]
theorem tab_get {i j : Nat} (hj : j < 256) : (tab i)[j]? = some (.int .u32 (if j < i then step8I (j : Int) else 0)) := by simp [tab, hj]
theorem tab_set {i : Nat} (hi : i < 256) : splice (tab i) i [.int .u32 (step8I (i : Int))] = tab (i + 1) := by
  apply List.ext_getElem?
  intro j
  unfold splice
  rw [List.append_assoc, List.getElem?_append]
  have hl : ((tab i).take i).length = i := by simp [tab_len]; omega
  rw [hl]
  by_cases hj : j < i
  · rw [if_pos hj, List.getElem?_take, if_pos hj, tab_get (by omega), tab_get (by omega), if_pos hj, if_pos (by omega)]
  · rw [if_neg hj, List.getElem?_append]
    by_cases hji : j = i
    · subst hji
      rw [tab_get hi, Nat.sub_self, if_pos (show (0 : Nat) < [_].length from by simp), if_pos (by omega)]
      rfl
    · rw [if_neg (by simp; omega)]
      simp only [List.length_singleton, List.getElem?_drop]
      rw [show i + 1 + (j - i - 1) = j by omega]
      rcases Nat.lt_or_ge j 256 with h | h
      · rw [tab_get h, tab_get h, if_neg hj, if_neg (by omega)]
      · rw [List.getElem?_eq_none (by rw [tab_len]; omega), List.getElem?_eq_none (by rw [tab_len]; omega)]

theorem u32_un (x : BitVec 32) : IntKind.u32.wrap ((BitVec.ofInt IntKind.u32.bits (if IntKind.u32.signed = true then -1 else IntKind.u32.max) ^^^ BitVec.ofInt IntKind.u32.bits (x.toNat : Int)).toNat) = ((~~~ x).toNat : Int) := by
  have h1 : BitVec.ofInt IntKind.u32.bits (if IntKind.u32.signed = true then -1 else IntKind.u32.max) = BitVec.allOnes 32 := rfl
  rw [h1, u32_of]
  show IntKind.u32.wrap (((BitVec.allOnes 32 ^^^ x : BitVec 32).toNat : Nat) : Int) = _
  rw [BitVec.allOnes_xor]; exact u32_wrap _

theorem u8_index (Y : BitVec 32) (c : UInt8) : IntKind.u8.wrap ((BitVec.ofInt IntKind.u8.bits (IntKind.u8.wrap (Y.toNat : Int)) ^^^ BitVec.ofInt IntKind.u8.bits (c.toNat : Int)).toNat) = (((Y ^^^ BitVec.ofNat 32 c.toNat) &&& 0xff#32).toNat : Int) := by
  have h1 : BitVec.ofInt IntKind.u8.bits (IntKind.u8.wrap (Y.toNat : Int)) = BitVec.ofNat 8 Y.toNat := by
    apply BitVec.eq_of_toNat_eq
    simp [IntKind.wrap, IntKind.bits, IntKind.signed]; omega
  have h2 : BitVec.ofInt IntKind.u8.bits (c.toNat : Int) = BitVec.ofNat 8 c.toNat := rfl
  rw [h1, h2]
  have h3 : (BitVec.ofNat 8 Y.toNat ^^^ BitVec.ofNat 8 c.toNat : BitVec 8).toNat = ((Y ^^^ BitVec.ofNat 32 c.toNat) &&& 0xff#32).toNat := by
    rw [BitVec.toNat_xor, BitVec.toNat_and, BitVec.toNat_xor]
    have hff : (0xff#32).toNat = 2 ^ 8 - 1 := rfl
    rw [hff, Nat.and_two_pow_sub_one_eq_mod, Nat.xor_mod_two_pow]
    simp only [BitVec.toNat_ofNat]
    have := c.toNat_lt
    rw [Nat.mod_eq_of_lt (show c.toNat < 2 ^ 32 by omega)]
  show IntKind.u8.wrap (((BitVec.ofNat 8 Y.toNat ^^^ BitVec.ofNat 8 c.toNat : BitVec 8).toNat : Nat) : Int) = _
  rw [h3]
  have h4 : ((Y ^^^ BitVec.ofNat 32 c.toNat) &&& 0xff#32).toNat < 256 := by
    rw [BitVec.toNat_and]
    exact Nat.lt_of_le_of_lt Nat.and_le_right (by decide)
  generalize ((Y ^^^ BitVec.ofNat 32 c.toNat) &&& 0xff#32).toNat = m at h4
  simp [IntKind.wrap, IntKind.bits, IntKind.signed]; omega

theorem byte_high (c : UInt8) : BitVec.ofNat 32 c.toNat >>> 8 = 0#32 := by
  have := c.toNat_lt
  apply BitVec.eq_of_toNat_eq
  rw [BitVec.toNat_ushiftRight, BitVec.toNat_ofNat, Nat.shiftRight_eq_div_pow, Nat.mod_eq_of_lt (by omega)]
  simp; omega


set_option maxHeartbeats 1000000 in
theorem con_ok {l : List UInt8} {g : Ver} {σ : St} (hl : l.length ≤ 1099511627776) : ACalls Try.prog n_con [.int .u32 0, .sl (bytesAV l) g] σ (fun v σ' => v = .int .u32 (crcOf l : Int) ∧ σ' = σ) := by
  refine s_con (fun wf => ?_)
  unfold c_con
  refine T.seq_k (fun K_h1 h1 => ?_)
  refine T.regi hm ?_
  simp only [↓reduceIte, namesOf, List.any, I.names, aopsI, astep, ev, setd, List.set, List.cons_append, List.nil_append, List.length_cons, List.length_nil, List.replicate, then_normal, Bool.or_false, Bool.false_eq_true, up_zero, Nat.reduceAdd, Nat.reduceSub]
  refine h1 _ _ ?_
  try clear h1 K_h1
  refine T.seq_k (fun K_h1 h1 => ?_)
  refine T.regi hm ?_
  simp only [↓reduceIte, namesOf, List.any, I.names, aopsI, astep, setd, List.set, List.length_cons, List.length_nil, then_normal, Bool.or_false, Nat.reduceAdd, eq_self]
  refine h1 _ _ ?_
  try clear h1 K_h1
  refine T.seq_k (fun K_h1 h1 => ?_)
  refine T.seq_k (fun K_h2 h2 => ?_)
  refine T.regi hm ?_
  simp only [↓reduceIte, namesOf, List.any, I.names, aopsI, astep, ev, setd, List.set, then_normal, Bool.or_false, Bool.false_eq_true, up_zero]
  refine h2 _ _ ?_
  try clear h2 K_h2
  refine T.block ?_
  rw [Nat.add_zero]
  refine T.gh (Gh.keep [0, 1, 5, 10]) ?_
  refine T.loop (fun ρ σ' => ∃ (i : Nat), i ≤ 256 ∧ σ' = (σ.up 1).set σ.next (.obj (tab i)) ∧ ρ = [.int .u32 0, .sl (bytesAV l) g, .any, .any, .any, .ptr σ.next 0, .any, .any, .any, .any, .int .i64 (i : Int)] ++ List.replicate 28 .any)
    (fun ρ _ => match ρ.getD 10 .any with | .int _ m => (256 - m).toNat | _ => 0) ⟨0, by omega, by rw [tab_zero], rfl⟩ ?_
  rintro ρ σ' ⟨i, hi, rfl, rfl⟩
  refine T.seq_k (fun K_h2 h2 => ?_)
  refine T.regi hm ?_
  simp only [↓reduceIte, namesOf, List.any, I.names, aopsI, astep, ev, setd, List.set, List.getD, List.getElem?_cons_zero, List.getElem?_cons_succ, List.cons_append, List.nil_append, List.replicate, then_normal, Option.getD_some, Bool.or_false, Bool.false_eq_true, up_zero, binv, ↓opt_def, eq_self]
  refine h2 _ _ ?_
  try clear h2 K_h2
  refine T.seq_k (fun K_h2 h2 => ?_)
  refine T.cond rfl (fun hb => ?_) (fun hb => ?_)
  · refine T.skip ?_
    refine h2 _ _ ?_
    try clear h2 K_h2
    have hi8 : i < 256 := by simp at hb; omega
    clear hb
    have e1 : IntKind.u32.wrap (i : Int) = (i : Int) := by simp [IntKind.wrap, IntKind.bits, IntKind.signed]; omega
    have e2 : inU32 (i : Int) = true := inU32_iff.2 (by omega)
    have e3 : (i : Int) < ((256 : Nat) : Int) := by omega
    have e4 : IntKind.i64.wrap ((i : Int) + 1) = (i : Int) + 1 := wrap64 (by omega) (by omega)
    have e6 : i < 256 := hi8
    refine T.seq_k (fun K_h2 h2 => ?_)
    refine T.block ?_
    refine T.seq_k (fun K_h3 h3 => ?_)
    refine T.regi hm ?_
    simp only [↓reduceIte, namesOf, List.any, I.names, aopsI, astep, ev, setd, List.set, List.getD, List.getElem?_cons_zero, List.getElem?_cons_succ, List.cons_append, List.nil_append, List.replicate, then_normal, Option.getD_some, Bool.or_false, Bool.false_eq_true, up_zero]
    refine h3 _ _ ?_
    try clear h3 K_h3
    refine T.regt hm t2_ok ?_
    simp only [↓reduceIte, namesOf, List.any, I.names, aopsT, qstep, CPt, Tbl.get, astep, ev, setd, List.set, List.getD, List.getElem?_cons_zero, List.getElem?_cons_succ, List.cons_append, List.nil_append, List.length_cons, List.length_nil, List.replicate, then_normal, inBlock_normal, Option.getD_some, Bool.or_false, Bool.false_eq_true, up_zero, ↓opt_def, AV.isAny, AV.cells, List.map_cons, List.map_nil, St.set_same, Int.natCast_nonneg, Int.toNat_natCast, and_true, eq_self, decide_true, t2, g_step, e1, e2, e3, AV.fits, AV.one, List.all_cons, List.all_nil, tab_len, Nat.mul_one, Nat.zero_add, tab_set hi8, St.set_set, Bool.not_false, Nat.reduceBEq, Nat.succ_le_of_lt hi8, Bool.and_self]
    refine h2 _ _ ?_
    try clear h2 K_h2
    refine T.regi hm ?_
    simp only [↓reduceIte, namesOf, List.any, I.names, aopsI, astep, ev, setd, List.set, List.getD, List.getElem?_cons_zero, List.getElem?_cons_succ, List.cons_append, List.nil_append, List.replicate, then_normal, Option.getD_some, Bool.or_false, Bool.false_eq_true, up_zero, binv, ↓opt_def, eq_self, e4]
    refine ⟨_, _, Gh.keep [0, 1, 5, 10], ⟨i + 1, hi8, rfl, rfl⟩, ?_⟩
    show ((256 : Int) - ((i : Int) + 1)).toNat < (256 - (i : Int)).toNat
    omega
  · refine T.exit ?_
    have : i = 256 := by simp at hb; omega
    subst this
    clear hb hi
    try simp only [List.getD, List.getElem?_cons_zero, List.getElem?_cons_succ, List.cons_append, List.nil_append, List.replicate, then_normal, Option.getD_some, inBlock_exit, then_exit]
    refine h1 _ _ ?_
    try clear h1 K_h1
    refine T.seq_k (fun K_h1 h1 => ?_)
    have e1 := u32_un 0#32
    have e1z : ((0#32).toNat : Int) = 0 := rfl
    rw [e1z] at e1
    refine T.regi hm ?_
    simp only [↓reduceIte, namesOf, List.any, I.names, aopsI, astep, ev, setd, List.set, List.getD, List.getElem?_cons_zero, List.getElem?_cons_succ, then_normal, Option.getD_some, Bool.or_false, Bool.false_eq_true, up_zero, binv, ↓opt_def, eq_self, e1]
    refine h1 _ _ ?_
    try clear h1 K_h1
    refine T.seq_k (fun K_h1 h1 => ?_)
    refine T.seq_k (fun K_h2 h2 => ?_)
    refine T.regi hm ?_
    simp only [↓reduceIte, namesOf, List.any, I.names, aopsI, astep, ev, setd, List.set, List.getD, List.getElem?_cons_zero, List.getElem?_cons_succ, then_normal, Option.getD_some, Bool.or_false, Bool.false_eq_true, up_zero, bytesAV_len]
    refine h2 _ _ ?_
    try clear h2 K_h2
    refine T.block ?_
    refine T.gh (Gh.keep [1, 5, 7, 21, 22, 23]) ?_
    have hq : ∀ n r, σ.res n = some r → ((σ.up 1).set σ.next (.obj (tab 256))).res n = some r := by
      intro n r hr
      have : n ≠ σ.next := fun e => by subst e; rw [wf _ (Nat.le_refl _)] at hr; cases hr
      rw [St.set_other _ _ this]; exact hr
    have htab : ((σ.up 1).set σ.next (.obj (tab 256))).res σ.next = some (.obj (tab 256)) := by simp
    generalize ((σ.up 1).set σ.next (.obj (tab 256))) = σ1 at hq htab ⊢
    refine T.loop (fun ρ σ' => σ' = σ1 ∧ ∃ (i : Nat) (Y : BitVec 32), i ≤ l.length ∧ crcRun Y (l.drop i) = crcRun 0xffffffff#32 l ∧ ρ = [.any, .sl (bytesAV l) g, .any, .any, .any, .ptr σ.next 0, .any, .int .u32 (Y.toNat : Int), .any, .any, .any, .any, .any, .any, .any, .any, .any, .any, .any, .any, .any, .sl (bytesAV l) g, .int .i64 (l.length : Int), .int .i64 (i : Int)] ++ List.replicate 15 .any)
      (fun ρ _ => match ρ.getD 23 .any with | .int _ m => (l.length - m).toNat | _ => 0) ⟨rfl, 0, 0xffffffff#32, Nat.zero_le _, rfl, rfl⟩ ?_
    rintro ρ σ' ⟨rfl, i, Y, hi, hY, rfl⟩
    refine T.seq_k (fun K_h2 h2 => ?_)
    refine T.regi hm ?_
    simp only [↓reduceIte, namesOf, List.any, I.names, aopsI, astep, ev, setd, List.set, List.getD, List.getElem?_cons_zero, List.getElem?_cons_succ, List.cons_append, List.nil_append, List.replicate, then_normal, Option.getD_some, Bool.or_false, Bool.false_eq_true, up_zero, binv, ↓opt_def, lt_len, eq_self]
    refine h2 _ _ ?_
    try clear h2 K_h2
    refine T.seq_k (fun K_h2 h2 => ?_)
    refine T.cond rfl (fun hb => ?_) (fun hb => ?_)
    · refine T.skip ?_
      refine h2 _ _ ?_
      try clear h2 K_h2
      have hil : i < l.length := by simp at hb; omega
      clear hb
      refine T.seq_k (fun K_h2 h2 => ?_)
      refine T.block ?_
      refine T.seq_k (fun K_h3 h3 => ?_)
      refine T.regi hm ?_
      simp only [↓reduceIte, namesOf, List.any, I.names, aopsI, astep, ev, setd, List.set, List.getD, List.getElem?_cons_zero, List.getElem?_cons_succ, List.cons_append, List.nil_append, List.length_cons, List.length_nil, List.replicate, then_normal, Option.getD_some, Bool.or_false, Bool.false_eq_true, up_zero, Nat.reduceAdd, ↓opt_def, AV.cells, ldc, Int.natCast_nonneg, lt_len, Int.toNat_natCast, and_true, eq_self, decide_true, bytesAV_len, bytes_get hil, hil]
      refine h3 _ _ ?_
      try clear h3 K_h3
      have e2 := u32_shr8 Y
      have e3 := u8_index Y l[i]
      have e4 := table_step Y (BitVec.ofNat 32 l[i].toNat) (byte_high _)
      have hj : ((Y ^^^ BitVec.ofNat 32 l[i].toNat) &&& 0xff#32).toNat < 256 := by
        rw [BitVec.toNat_and]
        exact Nat.lt_of_le_of_lt Nat.and_le_right (by decide)
      have e6 := tab_get (i := 256) hj
      rw [if_pos hj, step8I_bv] at e6
      generalize hx : ((Y ^^^ BitVec.ofNat 32 l[i].toNat) &&& 0xff#32) = x at e3 e4 e6 hj
      have e7 := u32_xor (Y >>> 8) (stepN 8 x)
      have hj' : (x.toNat : Int) < ((256 : Nat) : Int) := by omega
      refine T.regi hm ?_
      simp only [↓reduceIte, namesOf, List.any, I.names, aopsI, astep, ev, setd, List.set, List.getD, List.getElem?_cons_zero, List.getElem?_cons_succ, List.cons_append, List.nil_append, List.replicate, then_normal, inBlock_normal, Option.getD_some, Bool.or_false, Bool.false_eq_true, up_zero, binv, ↓opt_def, ldc, Int.natCast_nonneg, Int.toNat_natCast, and_true, eq_self, e2, e3, htab, show ¬ ((8 : Int) < 0) by omega, hj', Nat.zero_add, Nat.mul_one, e6, e7]
      refine h2 _ _ ?_
      try clear h2 K_h2
      have e8 : IntKind.i64.wrap ((i : Int) + 1) = (i : Int) + 1 := wrap64 (by omega) (by omega)
      refine T.regi hm ?_
      simp only [↓reduceIte, namesOf, List.any, I.names, aopsI, astep, ev, setd, List.set, List.getD, List.getElem?_cons_zero, List.getElem?_cons_succ, List.cons_append, List.nil_append, List.replicate, then_normal, Option.getD_some, Bool.or_false, Bool.false_eq_true, up_zero, binv, ↓opt_def, eq_self, e8]
      refine ⟨_, _, Gh.keep [1, 5, 7, 21, 22, 23], ⟨rfl, i + 1, (Y >>> 8) ^^^ stepN 8 x, hil, ?_, rfl⟩, ?_⟩
      · rw [← hY, List.drop_eq_getElem_cons hil, ← e4]
        rfl
      · show ((l.length : Int) - ((i : Int) + 1)).toNat < ((l.length : Int) - (i : Int)).toNat
        omega
    · refine T.exit ?_
      have : i = l.length := by simp at hb; omega
      subst this
      try simp only [List.getD, List.getElem?_cons_zero, List.getElem?_cons_succ, List.cons_append, List.nil_append, List.replicate, then_normal, Option.getD_some, inBlock_exit, then_exit]
      refine h1 _ _ ?_
      try clear h1 K_h1
      refine T.seq_k (fun K_h1 h1 => ?_)
      have e1 := u32_un Y
      refine T.regi hm ?_
      simp only [↓reduceIte, namesOf, List.any, I.names, aopsI, astep, ev, setd, List.set, List.getD, List.getElem?_cons_zero, List.getElem?_cons_succ, then_normal, Option.getD_some, Bool.or_false, Bool.false_eq_true, up_zero, binv, ↓opt_def, eq_self, e1]
      refine h1 _ _ ?_
      try clear h1 K_h1
      refine T.ret (Fin.quiet rfl trivial hq ⟨?_, rfl⟩)
      rw [List.drop_length] at hY
      simp only [crcRun] at hY
      unfold crcOf
      rw [← hY]; rfl
end Go.VL

/- Contracts: sealing. -/
namespace Go.VL
open Go.Proofs

theorem csum_ok {l : List UInt8} {g : Ver} {σ : St} (hl : l.length ≤ 1099511627776) : ACalls Try.prog n_csum [.sl (bytesAV l) g] σ (fun v σ' => v = .int .u32 (crcOf l : Int) ∧ σ' = σ) := by
  refine s_csum (fun wf => ?_)
  unfold c_csum
  refine T.seq_k (fun K_h1 h1 => ?_)
  refine T.regi hm ?_
  simp only [↓reduceIte, namesOf, List.any, I.names, aopsI, astep, ev, setd, List.set, List.cons_append, List.nil_append, List.length_cons, List.length_nil, List.replicate, then_normal, Bool.or_false, Bool.false_eq_true, up_zero, Nat.reduceAdd, Nat.reduceSub]
  refine h1 _ _ ?_
  try clear h1 K_h1
  refine T.seq_k (fun K_h1 h1 => ?_)
  refine T.regi hm ?_
  simp only [↓reduceIte, namesOf, List.any, I.names, aopsI, astep, ev, setd, List.set, List.getD, List.getElem?_cons_zero, List.getElem?_cons_succ, then_normal, Option.getD_some, Bool.or_false, Bool.false_eq_true, up_zero, List.map_cons, List.map_nil]
  refine (con_ok hl).mono ?_
  rintro v σ' ⟨rfl, rfl⟩
  refine h1 _ _ ?_
  try clear h1 K_h1
  exact T.ret (Fin.ret rfl ⟨rfl, rfl⟩)

def sealB (l : List UInt8) : List UInt8 := l ++ beB 4 (crcOf l)
theorem sealB_len (l : List UInt8) : (sealB l).length = l.length + 4 := by simp [sealB, beB_len]

theorem u64_crc (l : List UInt8) : IntKind.u64.wrap (crcOf l : Int) = (crcOf l : Int) := by
  have := crcOf_lt l
  simp [IntKind.wrap, IntKind.bits, IntKind.signed]; omega

theorem cseal_ok {l : List UInt8} {g : Ver} {σ : St} (hl : l.length ≤ 1099511627776) : ACalls Try.prog n_cseal [.sl (bytesAV l) g] σ (fun v σ' => ∃ h, OneTip σ σ' h 1 ∧ v = .sl (bytesAV (sealB l)) (.tip h)) := by
  refine s_cseal (fun wf => ?_)
  unfold c_cseal
  refine T.seq_k (fun K_h1 h1 => ?_)
  refine T.regi hm ?_
  simp only [↓reduceIte, namesOf, List.any, I.names, aopsI, astep, ev, setd, List.set, List.cons_append, List.nil_append, List.length_cons, List.length_nil, List.replicate, then_normal, Bool.or_false, Bool.false_eq_true, up_zero, Nat.reduceAdd, Nat.reduceSub]
  refine h1 _ _ ?_
  try clear h1 K_h1
  refine T.seq_k (fun K_h1 h1 => ?_)
  refine T.regi hm ?_
  simp only [↓reduceIte, namesOf, List.any, I.names, aopsI, astep, ev, setd, List.set, List.getD, List.getElem?_cons_zero, List.getElem?_cons_succ, then_normal, Option.getD_some, Bool.or_false, Bool.false_eq_true, up_zero, ↓opt_def, List.map_cons, List.map_nil]
  refine (csum_ok hl).mono ?_
  rintro v σ' ⟨rfl, rfl⟩
  try simp only [u64_crc]
  have h4 := crcOf_lt l
  refine (wput_ok (w := 4) hl rfl (fun _ => by omega)).mono ?_
  rintro v σ2 ⟨h, o1, rfl⟩
  try simp only [List.getElem?_cons_zero, List.getElem?_cons_succ, List.getElem?_cons_succ]
  refine h1 _ _ ?_
  try clear h1 K_h1
  refine T.seq_k (fun K_h1 h1 => ?_)
  refine T.seq_k (fun K_h2 h2 => ?_)
  refine T.regi hm ?_
  simp only [↓reduceIte, namesOf, List.any, I.names, aopsI, astep, ev, setd, List.set, List.getD, List.getElem?_cons_zero, List.getElem?_cons_succ, then_normal, Option.getD_some, Bool.or_false, Bool.false_eq_true, up_zero, eq_self, eqIv, bne_self_eq_false]
  refine h2 _ _ ?_
  try clear h2 K_h2
  refine T.cond rfl (fun hb => by cases hb) (fun hb => ?_)
  refine T.skip ?_
  refine h1 _ _ ?_
  try clear h1 K_h1
  refine T.seq_k (fun K_h1 h1 => ?_)
  refine T.regi hm ?_
  simp only [↓reduceIte, namesOf, List.any, I.names, aopsI, astep, ev, setd, List.set, List.getD, List.getElem?_cons_zero, List.getElem?_cons_succ, then_normal, Option.getD_some, Bool.or_false, Bool.false_eq_true, up_zero]
  refine h1 _ _ ?_
  try clear h1 K_h1
  exact T.ret (Fin.ret rfl ⟨h, o1, rfl⟩)

theorem nb_bytes (m : Nat) (l : List UInt8) : nbs m (bytesAV l) := by
  rw [nbs_iff]
  intro x hx
  simp only [bytesAV, List.mem_map] at hx
  obtain ⟨b, _, rfl⟩ := hx
  trivial
theorem nb_nums (m : Nat) (k : IntKind) (l : List Int) : nbs m (nums k l) := by
  rw [nbs_iff]
  intro x hx
  simp only [nums, List.mem_map] at hx
  obtain ⟨b, _, rfl⟩ := hx
  trivial

theorem cseal_q {l : List UInt8} {g : Ver} {σ : St} (hl : l.length ≤ 1099511627776) : ACalls Try.prog n_cseal [.sl (bytesAV l) g] σ (fun v σ' => v = .sl (bytesAV (sealB l)) .none ∧ σ' = σ) := by
  refine (cseal_ok hl).gv ?_
  rintro wf v σ' ⟨h, o1, rfl⟩
  refine ⟨_, _, (Gv.wk (Wk.sl _ _)).trans (Gv.quiet ?_ (o1.quiet wf)), rfl, rfl⟩
  exact ⟨nb_bytes _ _, trivial⟩

theorem u64_quo (n : Nat) (hn : n < 18446744073709551616) : IntKind.u64.wrap (Int.tdiv (n : Int) 256) = ((n / 256 : Nat) : Int) := by
  have h1 : Int.tdiv (n : Int) 256 = ((n / 256 : Nat) : Int) := (Int.ofNat_tdiv n 256).symm
  rw [h1]
  simp [IntKind.wrap, IntKind.bits, IntKind.signed]; omega
theorem u64_rem (n : Nat) : IntKind.u8.wrap (Int.tmod (n : Int) 256) = ((UInt8.ofNat (n % 256)).toNat : Int) := by
  have h1 : Int.tmod (n : Int) 256 = ((n % 256 : Nat) : Int) := (Int.ofNat_tmod n 256).symm
  rw [h1]
  simp [IntKind.wrap, IntKind.bits, IntKind.signed]

theorem rbytes_ok : ∀ {w n : Nat} {σ : St}, w ≤ 8 → n < 18446744073709551616 → ACalls Try.prog n_rbytes [.int .i64 w, .int .u64 n] σ (fun v σ' => (w = 0 ∧ v = .sl [] .nil ∧ σ' = σ) ∨ ∃ h, OneTip σ σ' h 1 ∧ v = .sl (bytesAV (beB w n)) (.tip h))
  | 0, n, σ, _, _ => by
    refine s_rbytes (fun wf => ?_)
    unfold c_rbytes
    refine T.seq_k (fun K_h1 h1 => ?_)
    refine T.regi hm ?_
    simp only [↓reduceIte, namesOf, List.any, I.names, aopsI, astep, ev, setd, List.set, List.cons_append, List.nil_append, List.length_cons, List.length_nil, List.replicate, then_normal, Bool.or_false, Bool.false_eq_true, up_zero, Nat.reduceAdd, Nat.reduceSub, true_and, eq_self]
    refine h1 _ _ ?_
    try clear h1 K_h1
    refine T.seq_k (fun K_h1 h1 => ?_)
    refine T.seq_k (fun K_h2 h2 => ?_)
    have e : (((0 : Nat) : Int) == 0) = true := rfl
    refine T.regi hm ?_
    simp only [↓reduceIte, namesOf, List.any, I.names, aopsI, astep, ev, setd, List.set, List.getD, List.getElem?_cons_zero, List.getElem?_cons_succ, then_normal, Option.getD_some, Bool.or_false, Bool.false_eq_true, up_zero, binv, ↓opt_def, true_and, eq_self, e]
    refine h2 _ _ ?_
    try clear h2 K_h2
    refine T.cond rfl (fun hb => ?_) (fun hb => by cases hb)
    refine T.seq_k (fun K_h2 h2 => ?_)
    refine T.regi hm ?_
    simp only [↓reduceIte, namesOf, List.any, I.names, aopsI, astep, ev, setd, List.set, then_normal, Bool.or_false, Bool.false_eq_true, up_zero, true_and, eq_self]
    refine h2 _ _ ?_
    try clear h2 K_h2
    exact T.ret (Fin.ret rfl (.inl ⟨rfl, rfl, rfl⟩))
  | w + 1, n, σ, hw, hn => by
    refine s_rbytes (fun wf => ?_)
    unfold c_rbytes
    refine T.seq_k (fun K_h1 h1 => ?_)
    refine T.regi hm ?_
    simp only [↓reduceIte, namesOf, List.any, I.names, aopsI, astep, ev, setd, List.set, List.cons_append, List.nil_append, List.length_cons, List.length_nil, List.replicate, then_normal, Bool.or_false, Bool.false_eq_true, up_zero, Nat.reduceAdd, Nat.reduceSub, reduceCtorEq]
    refine h1 _ _ ?_
    try clear h1 K_h1
    refine T.seq_k (fun K_h1 h1 => ?_)
    refine T.seq_k (fun K_h2 h2 => ?_)
    have e : (((w + 1 : Nat) : Int) == 0) = false := by
      rw [beq_eq_false_iff_ne]; omega
    refine T.regi hm ?_
    simp only [↓reduceIte, namesOf, List.any, I.names, aopsI, astep, ev, setd, List.set, List.getD, List.getElem?_cons_zero, List.getElem?_cons_succ, then_normal, Option.getD_some, Bool.or_false, Bool.false_eq_true, up_zero, binv, ↓opt_def, eq_self, reduceCtorEq, e]
    refine h2 _ _ ?_
    try clear h2 K_h2
    refine T.cond rfl (fun hb => by cases hb) (fun hb => ?_)
    refine T.skip ?_
    refine h1 _ _ ?_
    try clear h1 K_h1
    refine T.seq_k (fun K_h1 h1 => ?_)
    have e2 : IntKind.i64.wrap (((w + 1 : Nat) : Int) - 1) = (w : Int) := by rw [wrap64 (by omega) (by omega)]; omega
    have e3 := u64_quo n hn
    have e4 := u64_rem n
    refine T.regi hm ?_
    simp only [↓reduceIte, namesOf, List.any, I.names, aopsI, astep, ev, setd, List.set, List.getD, List.getElem?_cons_zero, List.getElem?_cons_succ, List.length_cons, List.length_nil, then_normal, Option.getD_some, Bool.or_false, Bool.or_true, Nat.reduceAdd, binv, ↓opt_def, List.map_cons, List.map_nil, eq_self, reduceCtorEq, e2, e3, e4, show ¬ ((256 : Int) = 0) by omega]
    refine (rbytes_ok (w := w) (n := n / 256) (by omega) (by omega)).mono ?_
    have hlen : (beB w (n / 256)).length ≤ 8 := by rw [beB_len]; omega
    rintro v σ2 (⟨rfl, rfl, rfl⟩ | ⟨h, o1, rfl⟩)
    · try simp only [List.nil_append, List.length_nil, Nat.reduceAdd, held, srcOf, List.isEmpty, byte1, bytesAV_er]
      rw [if_pos (bytes_all _), if_pos (by simp only [bytes_all, bytesAV_len, List.length_singleton, Bool.true_and, decide_eq_true_eq]; omega)]
      refine h1 _ _ ?_
      try clear h1 K_h1
      exact T.ret (Fin.ret rfl (.inr ⟨σ.next + 9, OneTip.new (n := 11) (i := 9) (by omega), rfl⟩))
    · try simp only [↓reduceIte, eq_self, held, srcOf, o1.at_, Bool.true_and, bytes_all, List.all_append, byte1, bytesAV_er]
      rw [if_pos (by simp only [bytesAV_len, List.length_singleton, decide_eq_true_eq]; omega), bytesAV_app]
      have hlo := o1.lo
      have hhi := o1.hi
      simp only [St.up_next] at hlo
      have o2 : OneTip σ ((σ2.del h).set (σ.next + 9) (Res.tip 1)) (σ.next + 9) 1 := o1.down.mv wf (by omega) (by omega)
      refine h1 _ _ ?_
      try clear h1 K_h1
      exact T.ret (Fin.ret rfl (.inr ⟨_, o2, rfl⟩))
theorem rbytes_q {w n : Nat} {σ : St} (hw : w ≤ 8) (hn : n < 18446744073709551616) : ACalls Try.prog n_rbytes [.int .i64 w, .int .u64 n] σ (fun v σ' => v = .sl (bytesAV (beB w n)) .none ∧ σ' = σ) := by
  refine (rbytes_ok hw hn).gv ?_
  rintro wf v σ' (⟨rfl, rfl, rfl⟩ | ⟨h, o1, rfl⟩)
  · exact ⟨_, _, Gv.wk (Wk.sl _ _), rfl, rfl⟩
  · exact ⟨_, _, (Gv.wk (Wk.sl _ _)).trans (Gv.quiet ⟨nb_bytes _ _, trivial⟩ (o1.quiet wf)), rfl, rfl⟩

theorem rseal_ok {l : List UInt8} {g : Ver} {σ : St} (hl : l.length ≤ 1099511627776) : ACalls Try.prog n_rseal [.sl (bytesAV l) g] σ (fun v σ' => ∃ h, OneTip σ σ' h 1 ∧ v = .sl (bytesAV (sealB l)) (.tip h)) := by
  refine s_rseal (fun wf => ?_)
  unfold c_rseal
  refine T.seq_k (fun K_h1 h1 => ?_)
  refine T.regi hm ?_
  simp only [↓reduceIte, namesOf, List.any, I.names, aopsI, astep, ev, setd, List.set, List.cons_append, List.nil_append, List.length_cons, List.length_nil, List.replicate, then_normal, Bool.or_false, Bool.false_eq_true, up_zero, Nat.reduceAdd, Nat.reduceSub]
  refine h1 _ _ ?_
  try clear h1 K_h1
  refine T.seq_k (fun K_h1 h1 => ?_)
  refine T.regi hm ?_
  simp only [↓reduceIte, namesOf, List.any, I.names, aopsI, astep, ev, setd, List.set, List.getD, List.getElem?_cons_zero, List.getElem?_cons_succ, List.nil_append, List.length_cons, List.length_nil, then_normal, Option.getD_some, Bool.or_false, Bool.or_true, Nat.reduceAdd, List.map_cons, List.map_nil, St.set_same, true_and, eq_self, held, srcOf, St.set_same, bytesAV_er, bytes_all, List.all_nil, Bool.true_and]
  rw [if_pos (by simp only [bytesAV_len, decide_eq_true_eq]; omega)]
  refine (rsum_ok hl).mono ?_
  rintro v σ1 ⟨rfl, rfl⟩
  have h4 := crcOf_lt l
  try simp only [u64_crc]
  refine (rbytes_q (w := 4) (by omega) (by omega)).mono ?_
  rintro v σ1 ⟨rfl, rfl⟩
  try simp only [↓reduceIte, St.set_same, eq_self, St.set_same, bytesAV_er, bytes_all, Bool.true_and, List.all_append]
  rw [if_pos (by simp only [bytesAV_len, beB_len, decide_eq_true_eq]; omega), bytesAV_app]
  have o1 := (((OneTip.new (σ := σ) (k := 1) (n := 9) (i := 0) (by omega)).mv wf (g2 := σ.next + 2) (by omega) (by simp)).mv wf (g2 := σ.next + 7) (by omega) (by simp))
  refine h1 _ _ ?_
  try clear h1 K_h1
  exact T.ret (Fin.ret rfl ⟨_, o1, rfl⟩)
theorem rseal_q {l : List UInt8} {g : Ver} {σ : St} (hl : l.length ≤ 1099511627776) : ACalls Try.prog n_rseal [.sl (bytesAV l) g] σ (fun v σ' => v = .sl (bytesAV (sealB l)) .none ∧ σ' = σ) := by
  refine (rseal_ok hl).gv ?_
  rintro wf v σ' ⟨h, o1, rfl⟩
  exact ⟨_, _, (Gv.wk (Wk.sl _ _)).trans (Gv.quiet ⟨nb_bytes _ _, trivial⟩ (o1.quiet wf)), rfl, rfl⟩
end Go.VL

/- Contracts: sealed bytes opened. -/
namespace Go.VL
open Go.Proofs

theorem Wk.tup2 {a b c : AV} (h : Wk a b) : Wk (.tup [a, c]) (.tup [b, c]) := fun κ w v hv => by
  obtain ⟨u, rfl, hu⟩ := hv.tup_inv
  cases hu with
  | cons v x vs xs hx t => exact .tup _ _ (.cons _ _ _ _ (h κ w v hx) t)
theorem Fin.quietw {σ0 : St} {rs : List RX} {K : AV → St → Prop} {ρ : List AV} {σ : St} {xs : List AV} {y : AV} (h1 : rvals ρ σ rs = some xs) (hw : Wk (pack xs) y) (hx : y.nb σ0.next) (hr : ∀ n r, σ0.res n = some r → σ.res n = some r) (h2 : K y σ0) : Fin σ0 rs K .ret ρ σ :=
  ⟨ρ, σ, xs, _, σ0, .refl, h1, (Gv.wk hw).trans (.quiet hx hr), h2⟩

theorem toBytes_bytes : ∀ l : List UInt8, toBytes (bytesAV l) = some l
  | [] => rfl
  | b :: r => by
    have h := toBytes_bytes r
    simp only [bytesAV] at h
    simp only [bytesAV, List.map_cons, toBytes, h, Option.map_some, Int.toNat_natCast]
    simp
theorem ba_eq (a b : List UInt8) : decide ((⟨a.toArray⟩ : ByteArray) = ⟨b.toArray⟩) = decide (a = b) := by
  by_cases h : a = b
  · subst h; simp
  · rw [decide_eq_false h, decide_eq_false]
    intro e
    injection e with e
    exact h (by simpa using e)
theorem bytes_take (l : List UInt8) (n : Nat) : (bytesAV l).take n = bytesAV (l.take n) := by simp [bytesAV, List.map_take]
theorem bytes_drop (l : List UInt8) (n : Nat) : (bytesAV l).drop n = bytesAV (l.drop n) := by simp [bytesAV, List.map_drop]

theorem bequal_ok {a b : List UInt8} {g g' : Ver} {σ : St} : ACalls Try.prog n_bequal [.sl (bytesAV a) g, .sl (bytesAV b) g'] σ (fun v σ' => v = .bool (decide (a = b)) ∧ σ' = σ) := by
  refine s_bequal (fun wf => ?_)
  unfold c_bequal
  refine T.seq_k (fun K_h1 h1 => ?_)
  refine T.regi hm ?_
  simp only [↓reduceIte, namesOf, List.any, I.names, aopsI, astep, ev, setd, List.set, List.cons_append, List.nil_append, List.length_cons, List.length_nil, List.replicate, then_normal, Bool.or_false, Bool.false_eq_true, up_zero, Nat.reduceAdd, Nat.reduceSub]
  refine h1 _ _ ?_
  try clear h1 K_h1
  refine T.seq_k (fun K_h1 h1 => ?_)
  refine T.regi hm ?_
  simp only [↓reduceIte, namesOf, List.any, I.names, aopsI, astep, ev, setd, List.set, List.getD, List.getElem?_cons_zero, List.getElem?_cons_succ, then_normal, Option.getD_some, Bool.or_false, Bool.false_eq_true, up_zero, ↓opt_def, toBytes_bytes, sbinv, ba_eq]
  refine h1 _ _ ?_
  try clear h1 K_h1
  exact T.ret (Fin.ret rfl ⟨rfl, rfl⟩)

def openB (l : List UInt8) : Int × List UInt8 := if l.length < 4 then (2, []) else if l = sealB (l.take (l.length - 4)) then (0, l.take (l.length - 4)) else (7, [])
def errAV (c : Int) : AV := if c = 0 then .nili else .iface tCode (.int .i64 c)

theorem copen_ok {l : List UInt8} {g : Ver} {σ : St} (hl : l.length ≤ 1099511627776) : ACalls Try.prog n_copen [.sl (bytesAV l) g] σ (fun v σ' => v = .tup [.sl (bytesAV (openB l).2) .none, errAV (openB l).1] ∧ σ' = σ) := by
  refine s_copen (fun wf => ?_)
  unfold c_copen
  refine T.seq_k (fun K_h1 h1 => ?_)
  refine T.regi hm ?_
  simp only [↓reduceIte, namesOf, List.any, I.names, aopsI, astep, ev, setd, List.set, List.cons_append, List.nil_append, List.length_cons, List.length_nil, List.replicate, then_normal, Bool.or_false, Bool.false_eq_true, up_zero, Nat.reduceAdd, Nat.reduceSub]
  refine h1 _ _ ?_
  try clear h1 K_h1
  refine T.seq_k (fun K_h1 h1 => ?_)
  have e1 : IntKind.i64.wrap ((l.length : Int) - 4) = (l.length : Int) - 4 := wrap64 (by omega) (by omega)
  refine T.regi hm ?_
  simp only [↓reduceIte, namesOf, List.any, I.names, aopsI, astep, ev, setd, List.set, List.getD, List.getElem?_cons_zero, List.getElem?_cons_succ, then_normal, Option.getD_some, Bool.or_false, Bool.false_eq_true, up_zero, binv, ↓opt_def, eq_self, bytesAV_len, e1]
  refine h1 _ _ ?_
  try clear h1 K_h1
  refine T.seq_k (fun K_h1 h1 => ?_)
  refine T.block ?_
  refine T.seq_k (fun K_h2 h2 => ?_)
  refine T.regi hm ?_
  simp only [↓reduceIte, namesOf, List.any, I.names, aopsI, astep, ev, setd, List.set, List.getD, List.getElem?_cons_zero, List.getElem?_cons_succ, then_normal, Option.getD_some, Bool.or_false, Bool.false_eq_true, up_zero, binv, ↓opt_def, eq_self]
  refine h2 _ _ ?_
  try clear h2 K_h2
  refine T.cond rfl (fun hb => ?_) (fun hb => ?_)
  · have hlt : l.length < 4 := by simp at hb; omega
    have e2 : openB l = (2, []) := by unfold openB; rw [if_pos hlt]
    refine T.seq_k (fun K_h2 h2 => ?_)
    refine T.regi hm ?_
    simp only [↓reduceIte, namesOf, List.any, I.names, aopsI, astep, ev, setd, List.set, List.getD, List.getElem?_cons_zero, List.getElem?_cons_succ, then_normal, Option.getD_some, Bool.or_false, Bool.false_eq_true, up_zero]
    refine h2 _ _ ?_
    try clear h2 K_h2
    exact T.ret (Fin.quietw rfl (Wk.tup2 (Wk.sl _ _)) ⟨⟨trivial, trivial⟩, trivial, trivial⟩ (fun _ _ h => h) ⟨by rw [e2]; rfl, rfl⟩)
  · obtain ⟨n, hn⟩ : ∃ n, l.length = n + 4 := ⟨l.length - 4, by simp at hb; omega⟩
    have e2 : (l.length : Int) - 4 = (n : Int) := by omega
    have e3 : (n : Int) ≤ (((bytesAV l).length : Nat) : Int) := by rw [bytesAV_len]; omega
    have e4 : ¬ ((n : Int) = (((bytesAV l).length : Nat) : Int)) := by rw [bytesAV_len]; omega
    rw [e2]
    clear hb
    refine T.seq_k (fun K_h2 h2 => ?_)
    refine T.regi hm ?_
    simp only [↓reduceIte, namesOf, List.any, I.names, aopsI, astep, ev, setd, List.set, List.getD, List.getElem?_cons_zero, List.getElem?_cons_succ, then_normal, Option.getD_some, Bool.or_false, Bool.false_eq_true, up_zero, List.map_cons, List.map_nil, Int.natCast_nonneg, Int.toNat_natCast, and_true, eq_self, idx, e3, e4, bytes_all, Int.sub_zero, List.drop_zero, bytes_take, Int.toNat_zero, false_and, Int.le_refl]
    have hlt : (l.take n).length ≤ 1099511627776 := by rw [List.length_take]; omega
    refine (cseal_q hlt).mono ?_
    rintro v σ1 ⟨rfl, rfl⟩
    try simp only [↓reduceIte, namesOf, List.any, I.names, aops, aopsI, aopsT, qstep, CPt, qget, Tbl.get, astep, ev, setd, List.set, List.getD, List.getElem?_cons_zero, List.getElem?_cons_succ, List.getElem?_nil, List.cons_append, List.nil_append, List.length_cons, List.length_nil, List.replicate, then_normal, inBlock_normal, Option.getD_some, Option.getD_none, Bool.or_false, Bool.or_true, Bool.true_or, Bool.false_or, Bool.false_eq_true, if_false, if_true, up_zero, Nat.reduceAdd, Nat.reduceSub, binv, ↓opt_def, AV.isAny, AV.cells, ldc, List.map_cons, List.map_nil, St.set_next, St.set_same, St.up_next, Int.natCast_nonneg, lt_len, le_len, Int.toNat_natCast, true_and, and_true, eq_self, reduceCtorEq, decide_true, List.length_singleton, er_int, er_bool, er_str, up_zero]
    refine bequal_ok.mono ?_
    rintro v σ1 ⟨rfl, rfl⟩
    try simp only []
    refine h2 _ _ ?_
    try clear h2 K_h2
    have e5 : l.take (l.length - 4) = l.take n := by rw [hn]; rfl
    by_cases he : l = sealB (l.take n)
    · refine T.cond rfl (fun hb => by simp at hb; exact absurd he hb) (fun hb => ?_)
      have e6 : openB l = (0, l.take n) := by unfold openB; rw [if_neg (by omega), e5, if_pos he]
      refine T.skip ?_
      try simp only [then_normal, inBlock_normal, inBlock_normal]
      refine h1 _ _ ?_
      try clear h1 K_h1
      refine T.seq_k (fun K_h1 h1 => ?_)
      refine T.regi hm ?_
      simp only [↓reduceIte, namesOf, List.any, I.names, aopsI, astep, ev, setd, List.set, List.getD, List.getElem?_cons_zero, List.getElem?_cons_succ, List.nil_append, List.length_cons, List.length_nil, then_normal, Option.getD_some, Bool.or_false, Bool.or_true, Nat.reduceAdd, List.map_nil, St.set_same, Int.natCast_nonneg, Int.toNat_natCast, and_true, eq_self, idx, e3, e4, bytes_all, Int.sub_zero, List.drop_zero, bytes_take, Int.toNat_zero, false_and, Int.le_refl, held, srcOf, St.set_same, bytesAV_er, List.all_nil, Bool.true_and]
      rw [if_pos (by simp only [bytesAV_len, decide_eq_true_eq]; omega)]
      have o1 := ((OneTip.new (σ := σ1) (k := 1) (n := 7) (i := 0) (by omega)).mv wf (g2 := σ1.next + 4) (by omega) (by simp))
      refine h1 _ _ ?_
      try clear h1 K_h1
      exact T.ret (Fin.quietw rfl (Wk.tup2 (Wk.sl _ _)) ⟨⟨nb_bytes _ _, trivial⟩, trivial, trivial⟩ (o1.quiet wf) ⟨by rw [e6]; rfl, rfl⟩)
    · refine T.cond rfl (fun hb => ?_) (fun hb => by simp at hb; exact absurd hb he)
      have e6 : openB l = (7, []) := by unfold openB; rw [if_neg (by omega), e5, if_neg he]
      refine T.seq_k (fun K_h2 h2 => ?_)
      refine T.regi hm ?_
      simp only [↓reduceIte, namesOf, List.any, I.names, aopsI, astep, ev, setd, List.set, List.getD, List.getElem?_cons_zero, List.getElem?_cons_succ, then_normal, Option.getD_some, Bool.or_false, Bool.false_eq_true, up_zero]
      refine h2 _ _ ?_
      try clear h2 K_h2
      exact T.ret (Fin.quietw rfl (Wk.tup2 (Wk.sl _ _)) ⟨⟨trivial, trivial⟩, trivial, trivial⟩ (fun _ _ h => h) ⟨by rw [e6]; rfl, rfl⟩)
end Go.VL

/- Contracts: the document's opening; rising numbers; an error's number. -/
namespace Go.VL
open Go.Proofs

theorem ropen_ok {l : List UInt8} {g : Ver} {σ : St} (hl : l.length ≤ 1099511627776) : ACalls Try.prog n_ropen [.sl (bytesAV l) g] σ (fun v σ' => v = .tup [.sl (bytesAV (openB l).2) .none, .int .i64 (openB l).1] ∧ σ' = σ) := by
  refine s_ropen (fun wf => ?_)
  unfold c_ropen
  refine T.seq_k (fun K_h1 h1 => ?_)
  refine T.regi hm ?_
  simp only [↓reduceIte, namesOf, List.any, I.names, aopsI, astep, ev, setd, List.set, List.cons_append, List.nil_append, List.length_cons, List.length_nil, List.replicate, then_normal, Bool.or_false, Bool.false_eq_true, up_zero, Nat.reduceAdd, Nat.reduceSub]
  refine h1 _ _ ?_
  try clear h1 K_h1
  refine T.seq_k (fun K_h1 h1 => ?_)
  have e1 : IntKind.i64.wrap ((l.length : Int) - 4) = (l.length : Int) - 4 := wrap64 (by omega) (by omega)
  refine T.regi hm ?_
  simp only [↓reduceIte, namesOf, List.any, I.names, aopsI, astep, ev, setd, List.set, List.getD, List.getElem?_cons_zero, List.getElem?_cons_succ, then_normal, Option.getD_some, Bool.or_false, Bool.false_eq_true, up_zero, binv, ↓opt_def, eq_self, bytesAV_len, e1]
  refine h1 _ _ ?_
  try clear h1 K_h1
  refine T.seq_k (fun K_h1 h1 => ?_)
  refine T.seq_k (fun K_h2 h2 => ?_)
  refine T.regi hm ?_
  simp only [↓reduceIte, namesOf, List.any, I.names, aopsI, astep, ev, setd, List.set, List.getD, List.getElem?_cons_zero, List.getElem?_cons_succ, then_normal, Option.getD_some, Bool.or_false, Bool.false_eq_true, up_zero, binv, ↓opt_def, eq_self]
  refine h2 _ _ ?_
  try clear h2 K_h2
  refine T.cond rfl (fun hb => ?_) (fun hb => ?_)
  · have hlt : l.length < 4 := by simp at hb; omega
    have e2 : openB l = (2, []) := by unfold openB; rw [if_pos hlt]
    refine T.seq_k (fun K_h2 h2 => ?_)
    refine T.regi hm ?_
    simp only [↓reduceIte, namesOf, List.any, I.names, aopsI, astep, ev, setd, List.set, then_normal, Bool.or_false, Bool.false_eq_true, up_zero]
    refine h2 _ _ ?_
    try clear h2 K_h2
    exact T.ret (Fin.quietw rfl (Wk.tup2 (Wk.sl _ _)) ⟨⟨trivial, trivial⟩, trivial, trivial⟩ (fun _ _ h => h) ⟨by rw [e2]; rfl, rfl⟩)
  · obtain ⟨n, hn⟩ : ∃ n, l.length = n + 4 := ⟨l.length - 4, by simp at hb; omega⟩
    have e2 : (l.length : Int) - 4 = (n : Int) := by omega
    have e3 : (n : Int) ≤ (((bytesAV l).length : Nat) : Int) := by rw [bytesAV_len]; omega
    have e4 : ¬ ((n : Int) = (((bytesAV l).length : Nat) : Int)) := by rw [bytesAV_len]; omega
    rw [e2]
    clear hb
    refine T.skip ?_
    refine h1 _ _ ?_
    try clear h1 K_h1
    refine T.seq_k (fun K_h1 h1 => ?_)
    refine T.seq_k (fun K_h2 h2 => ?_)
    refine T.regi hm ?_
    simp only [↓reduceIte, namesOf, List.any, I.names, aopsI, astep, ev, setd, List.set, List.getD, List.getElem?_cons_zero, List.getElem?_cons_succ, then_normal, Option.getD_some, Bool.or_false, Bool.false_eq_true, up_zero, ↓opt_def, List.map_cons, List.map_nil, Int.natCast_nonneg, Int.toNat_natCast, and_true, eq_self, idx, e3, e4, bytes_all, Int.sub_zero, List.drop_zero, bytes_take, Int.toNat_zero, false_and, Int.le_refl]
    have hlt : (l.take n).length ≤ 1099511627776 := by rw [List.length_take]; omega
    refine ⟨_, rseal_q hlt, ?_⟩
    try simp only [toBytes_bytes, sbinv, ba_eq]
    refine h2 _ _ ?_
    try clear h2 K_h2
    have e5 : l.take (l.length - 4) = l.take n := by rw [hn]; rfl
    by_cases he : sealB (l.take n) = l
    · refine T.cond rfl (fun hb => by simp at hb; exact absurd he hb) (fun hb => ?_)
      have e6 : openB l = (0, l.take n) := by unfold openB; rw [if_neg (by omega), e5, if_pos he.symm]
      refine T.skip ?_
      refine h1 _ _ ?_
      try clear h1 K_h1
      refine T.seq_k (fun K_h1 h1 => ?_)
      refine T.regi hm ?_
      simp only [↓reduceIte, namesOf, List.any, I.names, aopsI, astep, ev, setd, List.set, List.getD, List.getElem?_cons_zero, List.getElem?_cons_succ, then_normal, Option.getD_some, Bool.or_false, Bool.false_eq_true, up_zero, Int.natCast_nonneg, Int.toNat_natCast, and_true, eq_self, idx, e3, e4, bytes_all, Int.sub_zero, List.drop_zero, bytes_take, Int.toNat_zero, false_and, Int.le_refl]
      refine h1 _ _ ?_
      try clear h1 K_h1
      exact T.ret (Fin.ret rfl ⟨by rw [e6]; rfl, rfl⟩)
    · refine T.cond rfl (fun hb => ?_) (fun hb => by simp at hb; exact absurd hb he)
      have e6 : openB l = (7, []) := by unfold openB; rw [if_neg (by omega), e5, if_neg (fun h => he h.symm)]
      refine T.seq_k (fun K_h2 h2 => ?_)
      refine T.regi hm ?_
      simp only [↓reduceIte, namesOf, List.any, I.names, aopsI, astep, ev, setd, List.set, then_normal, Bool.or_false, Bool.false_eq_true, up_zero]
      refine h2 _ _ ?_
      try clear h2 K_h2
      exact T.ret (Fin.quietw rfl (Wk.tup2 (Wk.sl _ _)) ⟨⟨trivial, trivial⟩, trivial, trivial⟩ (fun _ _ h => h) ⟨by rw [e6]; rfl, rfl⟩)

/-- rising, and no more than 200 -/
def Up (l : List Int) : Prop := ∀ i, (h : i + 1 < l.length) → l[i]'(by omega) < l[i + 1]
noncomputable def risesB (l : List Int) : Bool := decide (l.length ≤ 200) && @decide (Up l) (Classical.propDecidable _)
theorem risesB_no {l : List Int} (h : ¬ Up l) : risesB l = false := by unfold risesB; simp [h]
theorem risesB_up {l : List Int} (h : Up l) : risesB l = decide (l.length ≤ 200) := by unfold risesB; simp [h]

theorem rrises_ok {l : List Int} {g : Ver} {σ : St} (hl : l.length ≤ 1099511627776) : ACalls Try.prog n_rrises [.sl (nums .u64 l) g] σ (fun v σ' => v = .bool (risesB l) ∧ σ' = σ) := by
  refine s_rrises (fun wf => ?_)
  unfold c_rrises
  refine T.seq_k (fun K_h1 h1 => ?_)
  refine T.regi hm ?_
  simp only [↓reduceIte, namesOf, List.any, I.names, aopsI, astep, ev, setd, List.set, List.cons_append, List.nil_append, List.length_cons, List.length_nil, List.replicate, then_normal, Bool.or_false, Bool.false_eq_true, up_zero, Nat.reduceAdd, Nat.reduceSub]
  refine h1 _ _ ?_
  try clear h1 K_h1
  refine T.seq_k (fun K_h1 h1 => ?_)
  refine T.seq_k (fun K_h2 h2 => ?_)
  refine T.regi hm ?_
  simp only [↓reduceIte, namesOf, List.any, I.names, aopsI, astep, ev, setd, List.set, then_normal, Bool.or_false, Bool.false_eq_true, up_zero]
  refine h2 _ _ ?_
  try clear h2 K_h2
  refine T.block ?_
  refine T.gh (Gh.keep [0, 3]) ?_
  refine T.loop (fun ρ σ' => σ' = σ ∧ ∃ (i : Nat), 1 ≤ i ∧ (i ≤ l.length ∨ i = 1) ∧ (∀ j, (h : j + 1 < l.length) → j + 1 < i → l[j]'(by omega) < l[j + 1]) ∧ ρ = [.sl (nums .u64 l) g, .any, .any, .int .i64 (i : Int)] ++ List.replicate 19 .any)
    (fun ρ _ => match ρ.getD 3 .any with | .int _ m => (l.length - m).toNat | _ => 0) ⟨rfl, 1, Nat.le_refl _, .inr rfl, fun j h1 h2 => by omega, rfl⟩ ?_
  rintro ρ σ' ⟨rfl, i, hi1, hi, hup, rfl⟩
  refine T.seq_k (fun K_h2 h2 => ?_)
  refine T.seq_k (fun K_h3 h3 => ?_)
  refine T.regi hm ?_
  simp only [↓reduceIte, namesOf, List.any, I.names, aopsI, astep, ev, setd, List.set, List.getD, List.getElem?_cons_zero, List.getElem?_cons_succ, List.cons_append, List.nil_append, List.replicate, then_normal, Option.getD_some, Bool.or_false, Bool.false_eq_true, up_zero, binv, ↓opt_def, lt_len, eq_self]
  refine h3 _ _ ?_
  try clear h3 K_h3
  refine T.cond rfl (fun hb => ?_) (fun hb => ?_)
  · refine T.skip ?_
    refine h2 _ _ ?_
    try clear h2 K_h2
    have hil : i < l.length := by simp [nums_len] at hb; omega
    clear hb
    obtain ⟨i, rfl⟩ : ∃ j, i = j + 1 := ⟨i - 1, by omega⟩
    have e1 : IntKind.i64.wrap (((i + 1 : Nat) : Int) - 1) = (i : Int) := by rw [wrap64 (by omega) (by omega)]; omega
    have hil' : i < l.length := by omega
    refine T.seq_k (fun K_h2 h2 => ?_)
    refine T.block ?_
    refine T.seq_k (fun K_h3 h3 => ?_)
    refine T.regi hm ?_
    simp only [↓reduceIte, namesOf, List.any, I.names, aopsI, astep, ev, setd, List.set, List.getD, List.getElem?_cons_zero, List.getElem?_cons_succ, List.cons_append, List.nil_append, List.length_cons, List.length_nil, List.replicate, then_normal, Option.getD_some, Bool.or_false, Bool.false_eq_true, up_zero, Nat.reduceAdd, binv, ↓opt_def, AV.cells, ldc, Int.natCast_nonneg, lt_len, Int.toNat_natCast, and_true, eq_self, decide_true, nums_len, nums_get .u64 hil, nums_get .u64 hil', hil, hil', e1]
    refine h3 _ _ ?_
    try clear h3 K_h3
    refine T.cond rfl (fun hb => ?_) (fun hb => ?_)
    · refine T.seq_k (fun K_h3 h3 => ?_)
      refine T.regi hm ?_
      simp only [↓reduceIte, namesOf, List.any, I.names, aopsI, astep, ev, setd, List.set, List.getD, List.getElem?_cons_zero, List.getElem?_cons_succ, List.cons_append, List.nil_append, List.replicate, then_normal, Option.getD_some, Bool.or_false, Bool.false_eq_true, up_zero]
      refine h3 _ _ ?_
      try clear h3 K_h3
      refine T.ret (Fin.ret rfl ⟨?_, rfl⟩)
      have hle : l[i + 1] ≤ l[i] := by simpa using hb
      have : risesB l = false := risesB_no (fun h => by have := h i hil; omega)
      rw [this]; rfl
    · refine T.skip ?_
      refine h2 _ _ ?_
      try clear h2 K_h2
      have hlt : l[i] < l[i + 1] := by simp at hb; exact hb
      have e2 : IntKind.i64.wrap (((i + 1 : Nat) : Int) + 1) = ((i + 1 + 1 : Nat) : Int) := by rw [wrap64 (by omega) (by omega)]; omega
      refine T.regi hm ?_
      simp only [↓reduceIte, namesOf, List.any, I.names, aopsI, astep, ev, setd, List.set, List.getD, List.getElem?_cons_zero, List.getElem?_cons_succ, List.cons_append, List.nil_append, List.replicate, then_normal, Option.getD_some, Bool.or_false, Bool.false_eq_true, up_zero, binv, ↓opt_def, eq_self, e2]
      refine ⟨_, _, Gh.keep [0, 3], ⟨rfl, i + 1 + 1, by omega, .inl (by omega), fun j h1 h2 => ?_, rfl⟩, ?_⟩
      · by_cases hji : j = i
        · subst hji; exact hlt
        · exact hup j h1 (by omega)
      · show ((l.length : Int) - ((i + 1 + 1 : Nat) : Int)).toNat < ((l.length : Int) - ((i + 1 : Nat) : Int)).toNat
        omega
  · refine T.exit ?_
    have hge : l.length ≤ i := by simp [nums_len] at hb; omega
    try simp only [List.getD, List.getElem?_cons_zero, List.getElem?_cons_succ, List.cons_append, List.nil_append, List.replicate, then_normal, Option.getD_some, inBlock_exit, then_exit]
    refine h1 _ _ ?_
    try clear h1 K_h1
    refine T.seq_k (fun K_h1 h1 => ?_)
    refine T.regi hm ?_
    simp only [↓reduceIte, namesOf, List.any, I.names, aopsI, astep, ev, setd, List.set, List.getD, List.getElem?_cons_zero, List.getElem?_cons_succ, then_normal, Option.getD_some, Bool.or_false, Bool.false_eq_true, up_zero, binv, ↓opt_def, eq_self, nums_len]
    refine h1 _ _ ?_
    try clear h1 K_h1
    refine T.ret (Fin.ret rfl ⟨?_, rfl⟩)
    have : risesB l = decide ((l.length : Int) ≤ 200) := by
      rw [risesB_up (fun j h => hup j h (by omega)), decide_eq_decide]; omega
    rw [this]; rfl

set_option maxHeartbeats 1000000 in
theorem rises_ok {l : List Int} {g : Ver} {σ : St} (hl : l.length ≤ 1099511627776) : ACalls Try.prog n_rises [.sl (nums .u64 l) g] σ (fun v σ' => v = .bool (risesB l) ∧ σ' = σ) := by
  refine s_rises (fun wf => ?_)
  unfold c_rises
  refine T.seq_k (fun K_h1 h1 => ?_)
  refine T.regi hm ?_
  simp only [↓reduceIte, namesOf, List.any, I.names, aopsI, astep, ev, setd, List.set, List.cons_append, List.nil_append, List.length_cons, List.length_nil, List.replicate, then_normal, Bool.or_false, Bool.false_eq_true, up_zero, Nat.reduceAdd, Nat.reduceSub]
  refine h1 _ _ ?_
  try clear h1 K_h1
  refine T.seq_k (fun K_h1 h1 => ?_)
  refine T.seq_k (fun K_h2 h2 => ?_)
  refine T.regi hm ?_
  simp only [↓reduceIte, namesOf, List.any, I.names, aopsI, astep, ev, setd, List.set, List.getD, List.getElem?_cons_zero, List.getElem?_cons_succ, then_normal, Option.getD_some, Bool.or_false, Bool.false_eq_true, up_zero, nums_len]
  refine h2 _ _ ?_
  try clear h2 K_h2
  refine T.block ?_
  refine T.gh (Gh.keep [0, 4, 5, 6]) ?_
  refine T.loop (fun ρ σ' => σ' = σ ∧ ∃ (i : Nat), i ≤ l.length ∧ (∀ j, (h : j + 1 < l.length) → j + 1 < i → l[j]'(by omega) < l[j + 1]) ∧ ρ = [.sl (nums .u64 l) g, .any, .any, .any, .sl (nums .u64 l) g, .int .i64 (l.length : Int), .int .i64 (i : Int)] ++ List.replicate 20 .any)
    (fun ρ _ => match ρ.getD 6 .any with | .int _ m => (l.length - m).toNat | _ => 0) ⟨rfl, 0, Nat.zero_le _, fun j h1 h2 => by omega, rfl⟩ ?_
  rintro ρ σ' ⟨rfl, i, hi, hup, rfl⟩
  refine T.seq_k (fun K_h2 h2 => ?_)
  refine T.regi hm ?_
  simp only [↓reduceIte, namesOf, List.any, I.names, aopsI, astep, ev, setd, List.set, List.getD, List.getElem?_cons_zero, List.getElem?_cons_succ, List.cons_append, List.nil_append, List.replicate, then_normal, Option.getD_some, Bool.or_false, Bool.false_eq_true, up_zero, binv, ↓opt_def, lt_len, eq_self]
  refine h2 _ _ ?_
  try clear h2 K_h2
  refine T.seq_k (fun K_h2 h2 => ?_)
  refine T.cond rfl (fun hb => ?_) (fun hb => ?_)
  · refine T.skip ?_
    refine h2 _ _ ?_
    try clear h2 K_h2
    have hil : i < l.length := by simp at hb; omega
    clear hb
    have e2 : IntKind.i64.wrap ((i : Int) + 1) = ((i + 1 : Nat) : Int) := by rw [wrap64 (by omega) (by omega)]; omega
    refine T.seq_k (fun K_h2 h2 => ?_)
    have hstep : (∀ j, (h : j + 1 < l.length) → j + 1 < i + 1 → l[j]'(by omega) < l[j + 1]) → ∀ (ρ : List AV), keep [0, 4, 5, 6] 0 ρ = [.sl (nums .u64 l) g, .any, .any, .any, .sl (nums .u64 l) g, .int .i64 (l.length : Int), .int .i64 (i : Int)] ++ List.replicate 20 .any → K_h2 ρ σ' := by
      intro hup' ρ hρ
      refine h2 _ _ (T.gh (Gh.keep [0, 4, 5, 6]) ?_)
      rw [hρ]
      refine T.regi hm ?_
      simp only [↓reduceIte, namesOf, List.any, I.names, aopsI, astep, ev, setd, List.set, List.getD, List.getElem?_cons_zero, List.getElem?_cons_succ, List.cons_append, List.nil_append, List.replicate, then_normal, Option.getD_some, Bool.or_false, Bool.false_eq_true, up_zero, binv, ↓opt_def, eq_self, e2]
      refine ⟨_, _, Gh.keep [0, 4, 5, 6], ⟨rfl, i + 1, by omega, hup', rfl⟩, ?_⟩
      show ((l.length : Int) - ((i + 1 : Nat) : Int)).toNat < ((l.length : Int) - (i : Int)).toNat
      omega
    refine T.block ?_
    refine T.seq_k (fun K_h3 h3 => ?_)
    refine T.regi hm ?_
    simp only [↓reduceIte, namesOf, List.any, I.names, aopsI, astep, ev, setd, List.set, List.getD, List.getElem?_cons_zero, List.getElem?_cons_succ, List.cons_append, List.nil_append, List.replicate, then_normal, Option.getD_some, Bool.or_false, Bool.false_eq_true, up_zero]
    refine h3 _ _ ?_
    try clear h3 K_h3
    refine T.seq_k (fun K_h3 h3 => ?_)
    by_cases h0 : i = 0
    · subst h0
      have e3 : decide ((((0 : Nat) : Int)) > 0) = false := by decide
      refine T.regi hm ?_
      simp only [↓reduceIte, namesOf, List.any, I.names, aopsI, astep, ev, setd, List.set, List.getD, List.getElem?_cons_zero, List.getElem?_cons_succ, List.cons_append, List.nil_append, List.replicate, then_normal, Option.getD_some, Bool.or_false, Bool.false_eq_true, up_zero, binv, ↓opt_def, eq_self, e3]
      refine h3 _ _ ?_
      try clear h3 K_h3
      refine T.cond rfl (fun hb => by cases hb) (fun hb => ?_)
      refine T.skip ?_
      refine hstep (fun j h1 h2 => by omega) _ rfl
    · obtain ⟨i, rfl⟩ : ∃ j, i = j + 1 := ⟨i - 1, by omega⟩
      have e3 : decide ((((i + 1 : Nat) : Int)) > 0) = true := decide_eq_true (by omega)
      have e1 : IntKind.i64.wrap (((i + 1 : Nat) : Int) - 1) = (i : Int) := by rw [wrap64 (by omega) (by omega)]; omega
      have hil' : i < l.length := by omega
      refine T.regi hm ?_
      simp only [↓reduceIte, namesOf, List.any, I.names, aopsI, astep, ev, setd, List.set, List.getD, List.getElem?_cons_zero, List.getElem?_cons_succ, List.cons_append, List.nil_append, List.length_cons, List.length_nil, List.replicate, then_normal, Option.getD_some, Bool.or_false, Bool.false_eq_true, up_zero, Nat.reduceAdd, binv, ↓opt_def, AV.cells, ldc, Int.natCast_nonneg, lt_len, Int.toNat_natCast, and_true, eq_self, decide_true, e3, e1, nums_len, nums_get .u64 hil, nums_get .u64 hil', hil, hil']
      refine h3 _ _ ?_
      try clear h3 K_h3
      refine T.cond rfl (fun hb => ?_) (fun hb => ?_)
      · refine T.seq_k (fun K_h3 h3 => ?_)
        refine T.regi hm ?_
        simp only [↓reduceIte, namesOf, List.any, I.names, aopsI, astep, ev, setd, List.set, List.getD, List.getElem?_cons_zero, List.getElem?_cons_succ, List.cons_append, List.nil_append, List.replicate, then_normal, Option.getD_some, Bool.or_false, Bool.false_eq_true, up_zero]
        refine h3 _ _ ?_
        try clear h3 K_h3
        refine T.ret (Fin.ret rfl ⟨?_, rfl⟩)
        have hle : l[i] ≥ l[i + 1] := by simpa using hb
        have : risesB l = false := risesB_no (fun h => by have := h i hil; omega)
        rw [this]; rfl
      · refine T.skip ?_
        have hlt : l[i] < l[i + 1] := by simp at hb; exact hb
        refine hstep (fun j h1 h2 => ?_) _ rfl
        by_cases hji : j = i
        · subst hji; exact hlt
        · exact hup j h1 (by omega)
  · refine T.exit ?_
    have hge : i = l.length := by simp at hb; omega
    try simp only [List.getD, List.getElem?_cons_zero, List.getElem?_cons_succ, List.cons_append, List.nil_append, List.replicate, then_normal, Option.getD_some, inBlock_exit, then_exit]
    refine h1 _ _ ?_
    try clear h1 K_h1
    refine T.seq_k (fun K_h1 h1 => ?_)
    refine T.regi hm ?_
    simp only [↓reduceIte, namesOf, List.any, I.names, aopsI, astep, ev, setd, List.set, List.getD, List.getElem?_cons_zero, List.getElem?_cons_succ, then_normal, Option.getD_some, Bool.or_false, Bool.false_eq_true, up_zero, binv, ↓opt_def, eq_self, nums_len]
    refine h1 _ _ ?_
    try clear h1 K_h1
    refine T.ret (Fin.ret rfl ⟨?_, rfl⟩)
    have : risesB l = decide ((l.length : Int) ≤ 200) := by
      rw [risesB_up (fun j h => hup j h (by omega)), decide_eq_decide]; omega
    rw [this]; rfl
end Go.VL

/- Contracts: an index's bytes. -/
namespace Go.VL
open Go.Proofs

def natI (l : List Nat) : List Int := l.map fun n : Nat => (n : Int)
theorem natI_len (l : List Nat) : (natI l).length = l.length := by simp [natI]
theorem natI_get {l : List Nat} {i : Nat} (h : i < l.length) : (nums .u64 (natI l))[i]? = some (.int .u64 (l[i] : Int)) := by simp [nums, natI, h]
def runB (l : List Nat) : List UInt8 := l.flatMap (beB 8)
def indexB (l : List Nat) : List UInt8 := beB 2 l.length ++ runB l
theorem runB_len : ∀ l : List Nat, (runB l).length = 8 * l.length
  | [] => rfl
  | n :: r => by
    have := runB_len r
    unfold runB at this ⊢
    rw [List.flatMap_cons, List.length_append, beB_len, this, List.length_cons]; omega
theorem runB_take {l : List Nat} {i : Nat} (h : i < l.length) : runB (l.take (i + 1)) = runB (l.take i) ++ beB 8 l[i] := by
  rw [List.take_succ_eq_append_getElem h]; unfold runB; rw [List.flatMap_append]; simp only [List.flatMap_cons, List.flatMap_nil, List.append_nil]

theorem u64_len (n : Nat) (h : n ≤ 1099511627776) : IntKind.u64.wrap (n : Int) = (n : Int) := by
  simp [IntKind.wrap, IntKind.bits, IntKind.signed]; omega

theorem rindex_ok {l : List Nat} {g : Ver} {σ : St} (hl : l.length ≤ 1000000) (hb : ∀ n ∈ l, n < 18446744073709551616) :
    ACalls Try.prog n_rindex [.sl (nums .u64 (natI l)) g] σ (fun v σ' => v = .sl (bytesAV (sealB (indexB l))) .none ∧ σ' = σ) := by
  refine s_rindex (fun wf => ?_)
  unfold c_rindex
  refine T.seq_k (fun K_h1 h1 => ?_)
  refine T.regi hm ?_
  simp only [↓reduceIte, namesOf, List.any, I.names, aopsI, astep, ev, setd, List.set, List.cons_append, List.nil_append, List.length_cons, List.length_nil, List.replicate, then_normal, Bool.or_false, Bool.false_eq_true, up_zero, Nat.reduceAdd, Nat.reduceSub]
  refine h1 _ _ ?_
  try clear h1 K_h1
  refine T.seq_k (fun K_h1 h1 => ?_)
  have e1 := u64_len l.length (by omega)
  refine T.regi hm ?_
  simp only [↓reduceIte, namesOf, List.any, I.names, aopsI, astep, ev, setd, List.set, List.getD, List.getElem?_cons_zero, List.getElem?_cons_succ, then_normal, Option.getD_some, Bool.or_false, Bool.false_eq_true, up_zero, List.map_cons, List.map_nil, nums_len, natI_len, e1]
  refine (rbytes_ok (w := 2) (n := l.length) (by omega) (by omega)).mono ?_
  rintro v σ1 (⟨h0, _⟩ | ⟨g1, o1, rfl⟩)
  · cases h0
  try simp only [↓reduceIte, namesOf, List.any, I.names, aops, aopsI, aopsT, qstep, CPt, qget, Tbl.get, astep, ev, setd, List.set, List.getD, List.getElem?_cons_zero, List.getElem?_cons_succ, List.getElem?_nil, List.cons_append, List.nil_append, List.length_cons, List.length_nil, List.replicate, then_normal, inBlock_normal, Option.getD_some, Option.getD_none, Bool.or_false, Bool.or_true, Bool.true_or, Bool.false_or, Bool.false_eq_true, if_false, if_true, up_zero, Nat.reduceAdd, Nat.reduceSub, binv, ↓opt_def, AV.isAny, AV.cells, ldc, List.map_cons, List.map_nil, St.set_next, St.set_same, St.up_next, Int.natCast_nonneg, lt_len, le_len, Int.toNat_natCast, true_and, and_true, eq_self, reduceCtorEq, decide_true, List.length_singleton, er_int, er_bool, er_str, up_zero]
  refine h1 _ _ ?_
  try clear h1 K_h1
  refine T.seq_k (fun K_h1 h1 => ?_)
  refine T.seq_k (fun K_h2 h2 => ?_)
  refine T.regi hm ?_
  simp only [↓reduceIte, namesOf, List.any, I.names, aopsI, astep, ev, setd, List.set, then_normal, Bool.or_false, Bool.false_eq_true, up_zero]
  refine h2 _ _ ?_
  try clear h2 K_h2
  refine T.block ?_
  refine T.gh (Gh.keep [0, 3, 4]) ?_
  refine T.loop (fun ρ σ' => ∃ (i g1 : Nat), i ≤ l.length ∧ OneTip σ σ' g1 1 ∧ ρ = [.sl (nums .u64 (natI l)) g, .any, .any, .sl (bytesAV (beB 2 l.length ++ runB (l.take i))) (.tip g1), .int .i64 (i : Int)] ++ List.replicate 19 .any)
    (fun ρ _ => match ρ.getD 4 .any with | .int _ m => (l.length - m).toNat | _ => 0) ⟨0, g1, Nat.zero_le _, o1, by simp [runB]; rfl⟩ ?_
  clear o1
  rintro ρ σ' ⟨i, g1, hi, o1, rfl⟩
  refine T.seq_k (fun K_h2 h2 => ?_)
  refine T.seq_k (fun K_h3 h3 => ?_)
  refine T.regi hm ?_
  simp only [↓reduceIte, namesOf, List.any, I.names, aopsI, astep, ev, setd, List.set, List.getD, List.getElem?_cons_zero, List.getElem?_cons_succ, List.cons_append, List.nil_append, List.replicate, then_normal, Option.getD_some, Bool.or_false, Bool.false_eq_true, up_zero, binv, ↓opt_def, lt_len, eq_self]
  refine h3 _ _ ?_
  try clear h3 K_h3
  refine T.cond rfl (fun hb => ?_) (fun hb => ?_)
  · refine T.skip ?_
    refine h2 _ _ ?_
    try clear h2 K_h2
    have hil : i < l.length := by simp [nums_len, natI_len] at hb; omega
    rename_i hbd _
    clear hb
    refine T.seq_k (fun K_h2 h2 => ?_)
    refine T.block ?_
    refine T.regi hm ?_
    simp only [↓reduceIte, namesOf, List.any, I.names, aopsI, astep, ev, setd, List.set, List.getD, List.getElem?_cons_zero, List.getElem?_cons_succ, List.cons_append, List.nil_append, List.length_cons, List.length_nil, List.replicate, then_normal, inBlock_normal, Option.getD_some, Bool.or_false, Bool.or_true, Nat.reduceAdd, ↓opt_def, AV.cells, ldc, List.map_cons, List.map_nil, Int.natCast_nonneg, lt_len, Int.toNat_natCast, and_true, eq_self, decide_true, nums_len, natI_len, natI_get hil, hil]
    refine (rbytes_q (w := 8) (n := l[i]) (by omega) (hbd _ (List.getElem_mem hil))).mono ?_
    rintro v σ2 ⟨rfl, rfl⟩
    try simp only [↓reduceIte, eq_self, srcOf, o1.at_, St.up_res, bytesAV_er, bytes_all, Bool.true_and, List.all_append]
    have hlen : (beB 2 l.length ++ runB (l.take i)).length ≤ 8000002 := by
      rw [List.length_append, beB_len, runB_len, List.length_take]; omega
    rw [if_pos (by simp only [bytesAV_len, beB_len, decide_eq_true_eq]; omega), bytesAV_app, List.append_assoc, ← runB_take hil]
    have o2 : OneTip σ (((σ'.up 8).del g1).set (σ'.next + 6) (Res.tip 1)) (σ'.next + 6) 1 := (o1.up 8).mv wf (by have := o1.lo; have := o1.hi; omega) (by simp)
    generalize (((σ'.up 8).del g1).set (σ'.next + 6) (Res.tip 1)) = σ2 at o2 ⊢
    generalize σ'.next + 6 = g2 at o2 ⊢
    refine h2 _ _ ?_
    try clear h2 K_h2
    have e4 : IntKind.i64.wrap ((i : Int) + 1) = (i : Int) + 1 := wrap64 (by omega) (by omega)
    refine T.regi hm ?_
    simp only [↓reduceIte, namesOf, List.any, I.names, aopsI, astep, ev, setd, List.set, List.getD, List.getElem?_cons_zero, List.getElem?_cons_succ, List.cons_append, List.nil_append, List.replicate, then_normal, Option.getD_some, Bool.or_false, Bool.false_eq_true, up_zero, binv, ↓opt_def, eq_self, e4]
    refine ⟨_, _, Gh.keep [0, 3, 4], ⟨i + 1, g2, hil, o2, rfl⟩, ?_⟩
    show ((l.length : Int) - ((i : Int) + 1)).toNat < ((l.length : Int) - (i : Int)).toNat
    omega
  · refine T.exit ?_
    have : i = l.length := by simp [nums_len, natI_len] at hb; omega
    subst this
    rw [List.take_length]
    try simp only [List.getD, List.getElem?_cons_zero, List.getElem?_cons_succ, List.cons_append, List.nil_append, List.replicate, then_normal, Option.getD_some, inBlock_exit, then_exit]
    refine h1 _ _ ?_
    try clear h1 K_h1
    refine T.seq_k (fun K_h1 h1 => ?_)
    refine T.regi hm ?_
    simp only [↓reduceIte, namesOf, List.any, I.names, aopsI, astep, ev, setd, List.set, List.getD, List.getElem?_cons_zero, List.getElem?_cons_succ, then_normal, Option.getD_some, Bool.or_false, Bool.false_eq_true, up_zero, List.map_cons, List.map_nil]
    have hlen : (beB 2 l.length ++ runB l).length ≤ 1099511627776 := by
      rw [List.length_append, beB_len, runB_len]; omega
    refine (rseal_q hlen).mono ?_
    rintro v σ2 ⟨rfl, rfl⟩
    refine h1 _ _ ?_
    try clear h1 K_h1
    exact T.ret (Fin.quiet rfl ⟨nb_bytes _ _, trivial⟩ (o1.quiet wf) ⟨rfl, rfl⟩)

theorem wput_q {l : List UInt8} {g : Ver} {w n : Nat} {σ : St} (hl : l.length ≤ 1099511627776) (hw : rightB w = true) (hn : w < 8 → n / 256 ^ w = 0) :
    ACalls Try.prog n_wput [.sl (bytesAV l) g, .int .i64 w, .int .u64 n] σ (fun v σ' => v = .tup [.sl (bytesAV (l ++ beB w n)) .none, .nili] ∧ σ' = σ) := by
  refine (wput_ok hl hw hn).gv ?_
  rintro wf v σ' ⟨h, o1, rfl⟩
  exact ⟨_, _, (Gv.wk (Wk.tup2 (Wk.sl _ _))).trans (Gv.quiet ⟨⟨nb_bytes _ _, trivial⟩, trivial, trivial⟩ (o1.quiet wf)), rfl, rfl⟩

theorem risesB_len {l : List Int} (h : risesB l = true) : l.length ≤ 200 := by
  unfold risesB at h
  simp only [Bool.and_eq_true, decide_eq_true_eq] at h
  exact h.1

theorem iput_ok {l : List Nat} {g : Ver} {σ : St} (hl : l.length ≤ 1000000) (_ : ∀ n ∈ l, n < 18446744073709551616) :
    ACalls Try.prog n_iput [.sl (nums .u64 (natI l)) g] σ (fun v σ' => v = (if risesB (natI l) = true then .tup [.sl (bytesAV (sealB (indexB l))) .none, .nili] else .tup [.sl [] .none, errAV 1]) ∧ σ' = σ) := by
  refine s_iput (fun wf => ?_)
  unfold c_iput
  refine T.seq_k (fun K_h1 h1 => ?_)
  refine T.regi hm ?_
  simp only [↓reduceIte, namesOf, List.any, I.names, aopsI, astep, ev, setd, List.set, List.cons_append, List.nil_append, List.length_cons, List.length_nil, List.replicate, then_normal, Bool.or_false, Bool.false_eq_true, up_zero, Nat.reduceAdd, Nat.reduceSub]
  refine h1 _ _ ?_
  try clear h1 K_h1
  refine T.seq_k (fun K_h1 h1 => ?_)
  refine T.seq_k (fun K_h2 h2 => ?_)
  refine T.regi hm ?_
  simp only [↓reduceIte, namesOf, List.any, I.names, aopsI, astep, ev, setd, List.set, List.getD, List.getElem?_cons_zero, List.getElem?_cons_succ, then_normal, Option.getD_some, Bool.or_false, Bool.false_eq_true, up_zero, List.map_cons, List.map_nil]
  refine (rises_ok (by rw [natI_len]; omega)).mono ?_
  rintro v σ2 ⟨rfl, rfl⟩
  try simp only []
  refine h2 _ _ ?_
  try clear h2 K_h2
  cases hr : risesB (natI l) with
  | false =>
    refine T.cond rfl (fun hb => ?_) (fun hb => by cases hb)
    refine T.seq_k (fun K_h2 h2 => ?_)
    refine T.regi hm ?_
    simp only [↓reduceIte, namesOf, List.any, I.names, aopsI, astep, ev, setd, List.set, List.getD, List.getElem?_cons_zero, List.getElem?_cons_succ, then_normal, Option.getD_some, Bool.or_false, Bool.false_eq_true, up_zero]
    refine h2 _ _ ?_
    try clear h2 K_h2
    exact T.ret (Fin.quietw rfl (Wk.tup2 (Wk.sl _ _)) ⟨⟨trivial, trivial⟩, trivial, trivial⟩ (fun _ _ h => h) ⟨rfl, rfl⟩)
  | true =>
    refine T.cond rfl (fun hb => by cases hb) (fun hb => ?_)
    refine T.skip ?_
    have h200 : l.length ≤ 200 := by have := risesB_len hr; rwa [natI_len] at this
    refine h1 _ _ ?_
    try clear h1 K_h1
    refine T.seq_k (fun K_h1 h1 => ?_)
    have e1 := u64_len l.length (by omega)
    refine T.regi hm ?_
    simp only [↓reduceIte, namesOf, List.any, I.names, aopsI, astep, ev, setd, List.set, List.getD, List.getElem?_cons_zero, List.getElem?_cons_succ, then_normal, Option.getD_some, Bool.or_false, Bool.false_eq_true, up_zero, ↓opt_def, List.map_cons, List.map_nil, nums_len, natI_len, e1]
    refine (wput_q (l := []) (g := .nil) (w := 2) (n := l.length) (by simp) rfl (fun _ => by omega)).mono ?_
    rintro v σ1 ⟨rfl, rfl⟩
    try simp only [List.getElem?_cons_zero, List.getElem?_cons_succ, List.nil_append]
    refine h1 _ _ ?_
    try clear h1 K_h1
    refine T.seq_k (fun K_h1 h1 => ?_)
    refine T.seq_k (fun K_h2 h2 => ?_)
    refine T.regi hm ?_
    simp only [↓reduceIte, namesOf, List.any, I.names, aopsI, astep, ev, setd, List.set, List.getD, List.getElem?_cons_zero, List.getElem?_cons_succ, then_normal, Option.getD_some, Bool.or_false, Bool.false_eq_true, up_zero, nums_len, natI_len]
    refine h2 _ _ ?_
    try clear h2 K_h2
    refine T.block ?_
    refine T.gh (Gh.keep [4, 5, 19, 20, 21]) ?_
    refine T.loop (fun ρ σ' => σ' = σ1 ∧ ∃ (i : Nat), i ≤ l.length ∧ ρ = [.any, .any, .any, .any, .sl (bytesAV (beB 2 l.length ++ runB (l.take i))) .none, .nili, .any, .any, .any, .any, .any, .any, .any, .any, .any, .any, .any, .any, .any, .sl (nums .u64 (natI l)) g, .int .i64 (l.length : Int), .int .i64 (i : Int)] ++ List.replicate 15 .any)
      (fun ρ _ => match ρ.getD 21 .any with | .int _ m => (l.length - m).toNat | _ => 0) ⟨rfl, 0, Nat.zero_le _, by simp [runB]; rfl⟩ ?_
    rintro ρ σ' ⟨rfl, i, hi, rfl⟩
    refine T.seq_k (fun K_h2 h2 => ?_)
    refine T.regi hm ?_
    simp only [↓reduceIte, namesOf, List.any, I.names, aopsI, astep, ev, setd, List.set, List.getD, List.getElem?_cons_zero, List.getElem?_cons_succ, List.cons_append, List.nil_append, List.replicate, then_normal, Option.getD_some, Bool.or_false, Bool.false_eq_true, up_zero, binv, ↓opt_def, lt_len, eq_self]
    refine h2 _ _ ?_
    try clear h2 K_h2
    refine T.seq_k (fun K_h2 h2 => ?_)
    refine T.cond rfl (fun hb => ?_) (fun hb => ?_)
    · refine T.skip ?_
      refine h2 _ _ ?_
      try clear h2 K_h2
      have hil : i < l.length := by simp at hb; omega
      clear hb
      refine T.seq_k (fun K_h2 h2 => ?_)
      refine T.block ?_
      refine T.seq_k (fun K_h3 h3 => ?_)
      refine T.regi hm ?_
      simp only [↓reduceIte, namesOf, List.any, I.names, aopsI, astep, ev, setd, List.set, List.getD, List.getElem?_cons_zero, List.getElem?_cons_succ, List.cons_append, List.nil_append, List.length_cons, List.length_nil, List.replicate, then_normal, Option.getD_some, Bool.or_false, Bool.false_eq_true, up_zero, Nat.reduceAdd, ↓opt_def, AV.cells, ldc, Int.natCast_nonneg, lt_len, Int.toNat_natCast, and_true, eq_self, decide_true, nums_len, natI_len, natI_get hil, hil]
      refine h3 _ _ ?_
      try clear h3 K_h3
      refine T.seq_k (fun K_h3 h3 => ?_)
      refine T.regi hm ?_
      simp only [↓reduceIte, namesOf, List.any, I.names, aopsI, astep, ev, setd, List.set, List.getD, List.getElem?_cons_zero, List.getElem?_cons_succ, List.cons_append, List.nil_append, List.replicate, then_normal, Option.getD_some, Bool.or_false, Bool.false_eq_true, up_zero, eq_self, eqIv]
      refine h3 _ _ ?_
      try clear h3 K_h3
      refine T.cond rfl (fun hb => ?_) (fun hb => by cases hb)
      have hlen : (beB 2 l.length ++ runB (l.take i)).length ≤ 1099511627776 := by
        rw [List.length_append, beB_len, runB_len, List.length_take]; omega
      refine T.regi hm ?_
      simp only [↓reduceIte, namesOf, List.any, I.names, aopsI, astep, ev, setd, List.set, List.getD, List.getElem?_cons_zero, List.getElem?_cons_succ, List.cons_append, List.nil_append, List.replicate, then_normal, inBlock_normal, Option.getD_some, Bool.or_false, Bool.false_eq_true, up_zero, ↓opt_def, List.map_cons, List.map_nil]
      refine (wput_q (w := 8) (n := l[i]) hlen rfl (fun h => by omega)).mono ?_
      rintro v σ2 ⟨rfl, rfl⟩
      try simp only [List.getElem?_cons_zero, List.getElem?_cons_succ]
      rw [List.append_assoc, ← runB_take hil]
      refine h2 _ _ ?_
      try clear h2 K_h2
      have e4 : IntKind.i64.wrap ((i : Int) + 1) = (i : Int) + 1 := wrap64 (by omega) (by omega)
      refine T.regi hm ?_
      simp only [↓reduceIte, namesOf, List.any, I.names, aopsI, astep, ev, setd, List.set, List.getD, List.getElem?_cons_zero, List.getElem?_cons_succ, List.cons_append, List.nil_append, List.replicate, then_normal, Option.getD_some, Bool.or_false, Bool.false_eq_true, up_zero, binv, ↓opt_def, eq_self, e4]
      refine ⟨_, _, Gh.keep [4, 5, 19, 20, 21], ⟨rfl, i + 1, hil, rfl⟩, ?_⟩
      show ((l.length : Int) - ((i : Int) + 1)).toNat < ((l.length : Int) - (i : Int)).toNat
      omega
    · refine T.exit ?_
      have : i = l.length := by simp at hb; omega
      subst this
      rw [List.take_length]
      try simp only [List.getD, List.getElem?_cons_zero, List.getElem?_cons_succ, List.cons_append, List.nil_append, List.replicate, then_normal, Option.getD_some, inBlock_exit, then_exit]
      refine h1 _ _ ?_
      try clear h1 K_h1
      refine T.seq_k (fun K_h1 h1 => ?_)
      refine T.regi hm ?_
      simp only [↓reduceIte, namesOf, List.any, I.names, aopsI, astep, ev, setd, List.set, List.getD, List.getElem?_cons_zero, List.getElem?_cons_succ, then_normal, Option.getD_some, Bool.or_false, Bool.false_eq_true, up_zero, List.map_cons, List.map_nil]
      have hlen : (beB 2 l.length ++ runB l).length ≤ 1099511627776 := by
        rw [List.length_append, beB_len, runB_len]; omega
      refine (cseal_q hlen).mono ?_
      rintro v σ2 ⟨rfl, rfl⟩
      try simp only [↓reduceIte, namesOf, List.any, I.names, aops, aopsI, aopsT, qstep, CPt, qget, Tbl.get, astep, ev, setd, List.set, List.getD, List.getElem?_cons_zero, List.getElem?_cons_succ, List.getElem?_nil, List.cons_append, List.nil_append, List.length_cons, List.length_nil, List.replicate, then_normal, inBlock_normal, Option.getD_some, Option.getD_none, Bool.or_false, Bool.or_true, Bool.true_or, Bool.false_or, Bool.false_eq_true, if_false, if_true, up_zero, Nat.reduceAdd, Nat.reduceSub, binv, ↓opt_def, AV.isAny, AV.cells, ldc, List.map_cons, List.map_nil, St.set_next, St.set_same, St.up_next, Int.natCast_nonneg, lt_len, le_len, Int.toNat_natCast, true_and, and_true, eq_self, reduceCtorEq, decide_true, List.length_singleton, er_int, er_bool, er_str, up_zero]
      refine h1 _ _ ?_
      try clear h1 K_h1
      exact T.ret (Fin.ret rfl ⟨by rw [if_pos hr]; rfl, rfl⟩)
end Go.VL

/- Contracts: readers. A reader is an owned row of three: bytes, how far, where amiss. -/
namespace Go.VL
open Go.Proofs

def rd (l : List UInt8) (g : Ver) (at_ bad : Int) : Res := .obj [.sl (bytesAV l) g, .int .i64 at_, .int .i64 bad]

theorem wbad_ok {l : List UInt8} {g : Ver} {at_ bad : Int} {n : Nat} {σ : St} (hr : σ.res n = some (rd l g at_ bad)) : ACalls Try.prog n_wbad [.ptr n 0] σ (fun v σ' => v = .int .i64 bad ∧ σ' = σ) := by
  refine s_wbad (fun wf => ?_)
  unfold c_wbad rd at *
  refine T.seq_k (fun K_h1 h1 => ?_)
  refine T.regi hm ?_
  simp only [↓reduceIte, namesOf, List.any, I.names, aopsI, astep, ev, setd, List.set, List.cons_append, List.nil_append, List.length_cons, List.length_nil, List.replicate, then_normal, Bool.or_false, Bool.false_eq_true, up_zero, Nat.reduceAdd, Nat.reduceSub]
  refine h1 _ _ ?_
  try clear h1 K_h1
  refine T.seq_k (fun K_h1 h1 => ?_)
  refine T.regi hm ?_
  simp only [↓reduceIte, namesOf, List.any, I.names, aopsI, astep, ev, setd, List.set, List.getD, List.getElem?_cons_zero, List.getElem?_cons_succ, then_normal, Option.getD_some, Bool.or_false, Bool.false_eq_true, up_zero, ↓opt_def, ldc, hr, Nat.zero_add]
  refine h1 _ _ ?_
  try clear h1 K_h1
  exact T.ret (Fin.ret rfl ⟨rfl, rfl⟩)

theorem wleft_ok {l : List UInt8} {g : Ver} {at_ bad : Int} {n : Nat} {σ : St} (hl : l.length ≤ 1099511627776) (h0 : 0 ≤ at_) (h1' : at_ ≤ l.length) (hr : σ.res n = some (rd l g at_ bad)) :
    ACalls Try.prog n_wleft [.ptr n 0] σ (fun v σ' => v = .int .i64 (l.length - at_) ∧ σ' = σ) := by
  refine s_wleft (fun wf => ?_)
  unfold c_wleft rd at *
  refine T.seq_k (fun K_h1 h1 => ?_)
  refine T.regi hm ?_
  simp only [↓reduceIte, namesOf, List.any, I.names, aopsI, astep, ev, setd, List.set, List.cons_append, List.nil_append, List.length_cons, List.length_nil, List.replicate, then_normal, Bool.or_false, Bool.false_eq_true, up_zero, Nat.reduceAdd, Nat.reduceSub]
  refine h1 _ _ ?_
  try clear h1 K_h1
  refine T.seq_k (fun K_h1 h1 => ?_)
  have e1 : IntKind.i64.wrap ((l.length : Int) - at_) = (l.length : Int) - at_ := wrap64 (by omega) (by omega)
  refine T.regi hm ?_
  simp only [↓reduceIte, namesOf, List.any, I.names, aopsI, astep, ev, setd, List.set, List.getD, List.getElem?_cons_zero, List.getElem?_cons_succ, then_normal, Option.getD_some, Bool.or_false, Bool.false_eq_true, up_zero, binv, ↓opt_def, ldc, eq_self, hr, Nat.zero_add, bytesAV_len, e1]
  refine h1 _ _ ?_
  try clear h1 K_h1
  exact T.ret (Fin.ret rfl ⟨rfl, rfl⟩)

theorem wfail_ok {l : List UInt8} {g : Ver} {at_ bad x : Int} {n : Nat} {σ : St} (hr : σ.res n = some (rd l g at_ bad)) :
    ACalls Try.prog n_wfail [.ptr n 0, .int .i64 x] σ (fun _ σ' => σ' = σ.set n (rd l g at_ (if bad = -1 then x else bad))) := by
  refine s_wfail (fun wf => ?_)
  unfold c_wfail rd at *
  refine T.seq_k (fun K_h1 h1 => ?_)
  by_cases hb : bad = -1
  · have e : (bad == -1) = true := by simpa using hb
    refine T.regi hm ?_
    simp only [↓reduceIte, namesOf, List.any, I.names, aopsI, astep, ev, setd, List.set, List.getD, List.getElem?_cons_zero, List.getElem?_cons_succ, List.cons_append, List.nil_append, List.length_cons, List.length_nil, List.replicate, then_normal, Option.getD_some, Bool.or_false, Bool.false_eq_true, up_zero, Nat.reduceAdd, Nat.reduceSub, binv, ↓opt_def, ldc, eq_self, hr, Nat.zero_add, e]
    refine h1 _ _ ?_
    try clear h1 K_h1
    refine T.cond rfl (fun _ => ?_) (fun h => by cases h)
    refine T.regi hm ?_
    simp only [↓reduceIte, namesOf, List.any, I.names, aopsI, astep, ev, setd, List.set, List.getD, List.getElem?_cons_zero, List.getElem?_cons_succ, List.cons_append, List.nil_append, List.length_cons, List.length_nil, Option.getD_some, Bool.or_false, Bool.false_eq_true, up_zero, Nat.reduceAdd, AV.isAny, AV.cells, eq_self, decide_true, hr, AV.fits, AV.one, List.all_cons, List.all_nil, Nat.reduceBEq, Bool.not_false, Bool.and_self, Nat.zero_add, splice, List.take, List.drop, Nat.reduceLeDiff]
    refine Fin.retn rfl ?_
    simp only [hb, if_true]
  · have e : (bad == -1) = false := by simpa using hb
    refine T.regi hm ?_
    simp only [↓reduceIte, namesOf, List.any, I.names, aopsI, astep, ev, setd, List.set, List.getD, List.getElem?_cons_zero, List.getElem?_cons_succ, List.cons_append, List.nil_append, List.length_cons, List.length_nil, List.replicate, then_normal, Option.getD_some, Bool.or_false, Bool.false_eq_true, up_zero, Nat.reduceAdd, Nat.reduceSub, binv, ↓opt_def, ldc, eq_self, hr, Nat.zero_add, e]
    refine h1 _ _ ?_
    try clear h1 K_h1
    refine T.cond rfl (fun h => by cases h) (fun _ => ?_)
    refine T.skip (Fin.retn rfl ?_)
    simp only [if_neg hb]
    have : σ.set n (.obj [.sl (bytesAV l) g, .int .i64 at_, .int .i64 bad]) = σ := by
      rw [← St.set_self hr]
      simp
    exact this.symm

/-- what a reader may be -/
structure Rd (l : List UInt8) (at_ bad : Int) : Prop where
  len : l.length ≤ 1099511627776
  lo : 0 ≤ at_
  hi : at_ ≤ l.length

def takeOk (l : List UInt8) (at_ bad w : Int) : Prop := bad = -1 ∧ w ≤ l.length - at_

theorem wtake_ok {l : List UInt8} {g : Ver} {at_ bad : Int} {w n : Nat} {σ : St} (hd : Rd l at_ bad) (hw : w ≤ 1000000000) (hr : σ.res n = some (rd l g at_ bad)) :
    ACalls Try.prog n_wtake [.ptr n 0, .int .i64 w] σ (fun v σ' => (takeOk l at_ bad w ∧ v = .sl (bytesAV ((l.drop at_.toNat).take w)) .none ∧ σ' = σ.set n (rd l g (at_ + w) bad)) ∨
      (¬ takeOk l at_ bad w ∧ v = .sl [] .none ∧ σ' = σ.set n (rd l g at_ (if bad = -1 then at_ else bad)))) := by
  obtain ⟨hl, h0, hhi⟩ := hd
  refine s_wtake (fun wf => ?_)
  unfold c_wtake
  refine T.seq_k (fun K_h1 h1 => ?_)
  refine T.regi hm ?_
  simp only [↓reduceIte, namesOf, List.any, I.names, aopsI, astep, ev, setd, List.set, List.cons_append, List.nil_append, List.length_cons, List.length_nil, List.replicate, then_normal, Bool.or_false, Bool.false_eq_true, up_zero, Nat.reduceAdd, Nat.reduceSub]
  refine h1 _ _ ?_
  try clear h1 K_h1
  refine T.seq_k (fun K_h1 h1 => ?_)
  refine T.seq_k (fun K_h2 h2 => ?_)
  have hr' := hr
  unfold rd at hr
  have hfail : ¬ takeOk l at_ bad w → ∀ ρ, keep [0, 23] 0 ρ = [.ptr n 0] ++ List.replicate 22 .any ++ [.bool true] ++ List.replicate 29 .any → K_h2 ρ σ := by
    intro hno ρ hρ
    refine h2 _ _ (T.gh (Gh.keep [0, 23]) ?_)
    rw [hρ]
    clear h1 h2 hρ ρ
    refine T.cond rfl (fun _ => ?_) (fun h => by cases h)
    refine T.seq_k (fun K_h1 h1 => ?_)
    refine T.regi hm ?_
    simp only [↓reduceIte, namesOf, List.any, I.names, aopsI, astep, ev, setd, List.set, List.getD, List.getElem?_cons_zero, List.getElem?_cons_succ, List.cons_append, List.nil_append, List.replicate, then_normal, Option.getD_some, Bool.or_false, Bool.false_eq_true, up_zero, ↓opt_def, ldc, List.map_cons, List.map_nil, hr, Nat.zero_add]
    refine (wfail_ok (σ := σ) hr').mono ?_
    rintro v σ2 rfl
    refine h1 _ _ ?_
    try clear h1 K_h1
    refine T.seq_k (fun K_h1 h1 => ?_)
    refine T.regi hm ?_
    simp only [↓reduceIte, namesOf, List.any, I.names, aopsI, astep, ev, setd, List.set, then_normal, Bool.or_false, Bool.false_eq_true, up_zero]
    refine h1 _ _ ?_
    try clear h1 K_h1
    exact T.ret (Fin.retw rfl (Wk.sl _ _) (.inr ⟨hno, rfl, rfl⟩))
  by_cases hbad : bad = -1
  · have e1 : (bad != -1) = false := by simpa using hbad
    have e2 : IntKind.i64.wrap ((l.length : Int) - at_) = (l.length : Int) - at_ := wrap64 (by omega) (by omega)
    by_cases hwl : (w : Int) ≤ l.length - at_
    · have e3 : decide ((w : Int) > (l.length : Int) - at_) = false := decide_eq_false (by omega)
      have e4 : IntKind.i64.wrap (at_ + (w : Int)) = at_ + w := wrap64 (by omega) (by omega)
      have e5 : IntKind.i64.wrap (at_ + (w : Int) - w) = at_ := by rw [wrap64 (by omega) (by omega)]; omega
      refine T.regi hm ?_
      simp only [↓reduceIte, namesOf, List.any, I.names, aopsI, astep, ev, setd, List.set, List.getD, List.getElem?_cons_zero, List.getElem?_cons_succ, then_normal, Option.getD_some, Bool.or_false, Bool.false_eq_true, up_zero, binv, ↓opt_def, ldc, eq_self, hr, Nat.zero_add, bytesAV_len, e1, e2, e3]
      refine h2 _ _ ?_
      try clear h2 K_h2
      refine T.cond rfl (fun h => by cases h) (fun _ => ?_)
      refine T.skip ?_
      refine h1 _ _ ?_
      try clear h1 K_h1
      refine T.seq_k (fun K_h1 h1 => ?_)
      refine T.regi hm ?_
      simp only [↓reduceIte, namesOf, List.any, I.names, aopsI, astep, ev, setd, List.set, List.getD, List.getElem?_cons_zero, List.getElem?_cons_succ, List.cons_append, List.nil_append, List.length_cons, List.length_nil, then_normal, Option.getD_some, Bool.or_false, Bool.false_eq_true, up_zero, Nat.reduceAdd, binv, ↓opt_def, AV.isAny, AV.cells, ldc, eq_self, decide_true, hr, e4, AV.fits, AV.one, List.all_cons, List.all_nil, Nat.reduceBEq, Bool.not_false, Bool.and_self, Nat.zero_add, splice, List.take, List.drop, Nat.reduceLeDiff]
      refine h1 _ _ ?_
      try clear h1 K_h1
      refine T.seq_k (fun K_h1 h1 => ?_)
      have e6 : 0 ≤ at_ ∧ at_ ≤ at_ + (w : Int) ∧ at_ + (w : Int) ≤ (l.length : Int) := by omega
      refine T.regi hm ?_
      simp only [↓reduceIte, namesOf, List.any, I.names, aopsI, astep, ev, setd, List.set, List.getD, List.getElem?_cons_zero, List.getElem?_cons_succ, then_normal, Option.getD_some, Bool.or_false, Bool.false_eq_true, up_zero, binv, ↓opt_def, ldc, St.set_same, and_true, eq_self, e5, Nat.zero_add, idx, bytesAV_len, bytes_all, e6]
      refine h1 _ _ ?_
      try clear h1 K_h1
      refine T.ret (Fin.retw rfl (Wk.sl _ _) (.inl ⟨⟨hbad, hwl⟩, ?_, rfl⟩))
      rw [show (at_ + (w : Int) - at_).toNat = w by omega, bytes_drop, bytes_take]
    · have e3 : decide ((w : Int) > (l.length : Int) - at_) = true := decide_eq_true (by omega)
      refine T.regi hm ?_
      simp only [↓reduceIte, namesOf, List.any, I.names, aopsI, astep, ev, setd, List.set, List.getD, List.getElem?_cons_zero, List.getElem?_cons_succ, then_normal, Option.getD_some, Bool.or_false, Bool.false_eq_true, up_zero, binv, ↓opt_def, ldc, eq_self, hr, Nat.zero_add, bytesAV_len, e1, e2, e3]
      exact hfail (fun h => hwl h.2) _ rfl
  · have e1 : (bad != -1) = true := by simpa using hbad
    refine T.regi hm ?_
    simp only [↓reduceIte, namesOf, List.any, I.names, aopsI, astep, ev, setd, List.set, List.getD, List.getElem?_cons_zero, List.getElem?_cons_succ, then_normal, Option.getD_some, Bool.or_false, Bool.false_eq_true, up_zero, binv, ↓opt_def, ldc, eq_self, reduceCtorEq, hr, Nat.zero_add, e1]
    exact hfail (fun h => hbad h.1) _ rfl
def numB (l : List UInt8) : Nat := l.foldl (fun n b => 256 * n + b.toNat) 0
theorem numB_take {l : List UInt8} {i : Nat} (h : i < l.length) : numB (l.take (i + 1)) = 256 * numB (l.take i) + l[i].toNat := by
  unfold numB; rw [List.take_succ_eq_append_getElem h, List.foldl_append]; rfl
theorem numB_lt : ∀ (l : List UInt8) (i : Nat), i ≤ l.length → numB (l.take i) < 256 ^ i
  | l, 0, _ => by simp [numB]
  | l, i + 1, h => by
    have h1 := numB_lt l i (by omega)
    have h2 := (l[i]'(by omega)).toNat_lt
    rw [numB_take (by omega), Nat.pow_succ]
    omega

theorem u64_shl8 (a : Nat) (h : a < 72057594037927936) : IntKind.u64.wrap ((a : Int) * 2 ^ min (8 : Int).toNat IntKind.u64.bits) = ((a * 256 : Nat) : Int) := by
  have : (2 : Int) ^ min (8 : Int).toNat IntKind.u64.bits = 256 := by simp [IntKind.bits]
  rw [this]
  simp [IntKind.wrap, IntKind.bits, IntKind.signed]; omega
theorem u64_byte (b : UInt8) : IntKind.u64.wrap (b.toNat : Int) = (b.toNat : Int) := by
  have := b.toNat_lt
  simp [IntKind.wrap, IntKind.bits, IntKind.signed]; omega
theorem u64_or (a : Nat) (b : UInt8) (h : a < 72057594037927936) : IntKind.u64.wrap ((BitVec.ofInt IntKind.u64.bits ((a * 256 : Nat) : Int) ||| BitVec.ofInt IntKind.u64.bits (b.toNat : Int)).toNat) = ((256 * a + b.toNat : Nat) : Int) := by
  have hb := b.toNat_lt
  have h1 : BitVec.ofInt IntKind.u64.bits ((a * 256 : Nat) : Int) = BitVec.ofNat 64 (a * 256) := BitVec.ofInt_natCast ..
  have h2 : BitVec.ofInt IntKind.u64.bits (b.toNat : Int) = BitVec.ofNat 64 b.toNat := BitVec.ofInt_natCast ..
  rw [h1, h2]
  have h3 : (BitVec.ofNat 64 (a * 256) ||| BitVec.ofNat 64 b.toNat : BitVec 64).toNat = 256 * a + b.toNat := by
    rw [BitVec.toNat_or, BitVec.toNat_ofNat, BitVec.toNat_ofNat, Nat.mod_eq_of_lt (by omega), Nat.mod_eq_of_lt (by omega)]
    have := Nat.shiftLeft_add_eq_or_of_lt (b := b.toNat) (i := 8) (by omega) a
    rw [Nat.shiftLeft_eq] at this
    rw [show a * 256 = a * 2 ^ 8 from rfl, ← this]; omega
  show IntKind.u64.wrap (((BitVec.ofNat 64 (a * 256) ||| BitVec.ofNat 64 b.toNat : BitVec 64).toNat : Nat) : Int) = _
  rw [h3]
  simp [IntKind.wrap, IntKind.bits, IntKind.signed]; omega

set_option maxHeartbeats 1000000 in
theorem wword_ok {l : List UInt8} {g : Ver} {at_ bad : Int} {w n : Nat} {σ : St} (hd : Rd l at_ bad) (hw : rightB w = true) (hr : σ.res n = some (rd l g at_ bad)) :
    ACalls Try.prog n_wword [.ptr n 0, .int .i64 w] σ (fun v σ' => (takeOk l at_ bad w ∧ v = .int .u64 (numB ((l.drop at_.toNat).take w) : Int) ∧ σ' = σ.set n (rd l g (at_ + w) bad)) ∨
      (¬ takeOk l at_ bad w ∧ v = .int .u64 0 ∧ σ' = σ.set n (rd l g at_ (if bad = -1 then at_ else bad)))) := by
  have hw8 : w ≤ 8 := by simp [rightB] at hw; omega
  refine s_wword (fun wf => ?_)
  unfold c_wword
  refine T.seq_k (fun K_h1 h1 => ?_)
  refine T.regi hm ?_
  simp only [↓reduceIte, namesOf, List.any, I.names, aopsI, astep, ev, setd, List.set, List.cons_append, List.nil_append, List.length_cons, List.length_nil, List.replicate, then_normal, Bool.or_false, Bool.false_eq_true, up_zero, Nat.reduceAdd, Nat.reduceSub]
  refine h1 _ _ ?_
  try clear h1 K_h1
  refine T.seq_k (fun K_h1 h1 => ?_)
  refine T.seq_k (fun K_h2 h2 => ?_)
  refine T.regt hm t1_ok ?_
  simp only [↓reduceIte, namesOf, List.any, I.names, aopsT, qstep, CPt, Tbl.get, astep, ev, setd, List.set, List.getD, List.getElem?_cons_zero, List.getElem?_cons_succ, then_normal, Option.getD_some, Bool.or_false, Bool.false_eq_true, up_zero, ↓opt_def, List.map_cons, List.map_nil, eq_self, t1, g_right, hw]
  refine h2 _ _ ?_
  try clear h2 K_h2
  refine T.cond rfl (fun h => by cases h) (fun _ => ?_)
  refine T.skip ?_
  refine h1 _ _ ?_
  try clear h1 K_h1
  refine T.seq_k (fun K_h1 h1 => ?_)
  refine T.regi hm ?_
  simp only [↓reduceIte, namesOf, List.any, I.names, aopsI, astep, ev, setd, List.set, then_normal, Bool.or_false, Bool.false_eq_true, up_zero]
  refine h1 _ _ ?_
  try clear h1 K_h1
  refine T.seq_k (fun K_h1 h1 => ?_)
  refine T.seq_k (fun K_h2 h2 => ?_)
  have hloop : ∀ (bs : List UInt8) (σ1 : St), bs.length ≤ 8 → ∀ ρ, keep [5, 19, 20, 21] 0 ρ = List.replicate 5 .any ++ [.int .u64 0] ++ List.replicate 13 .any ++ [.sl (bytesAV bs) .none, .int .i64 (bs.length : Int), .int .i64 0] ++ List.replicate 10 .any →
      (∀ ρ, keep [5] 0 ρ = List.replicate 5 .any ++ [.int .u64 (numB bs : Int)] ++ List.replicate 26 .any → K_h1 ρ σ1) → K_h2 ρ σ1 := by
    intro bs σ1 hbl ρ hρ hend
    refine h2 _ _ ?_
    refine T.block ?_
    refine T.gh (Gh.keep [5, 19, 20, 21]) ?_
    rw [hρ]
    clear h2 hρ ρ
    refine T.loop (fun ρ σ' => σ' = σ1 ∧ ∃ (i : Nat), i ≤ bs.length ∧ ρ = List.replicate 5 .any ++ [.int .u64 (numB (bs.take i) : Int)] ++ List.replicate 13 .any ++ [.sl (bytesAV bs) .none, .int .i64 (bs.length : Int), .int .i64 (i : Int)] ++ List.replicate 10 .any)
      (fun ρ _ => match ρ.getD 21 .any with | .int _ m => (bs.length - m).toNat | _ => 0) ⟨rfl, 0, Nat.zero_le _, rfl⟩ ?_
    rintro ρ σ' ⟨rfl, i, hi, rfl⟩
    refine T.seq_k (fun K_h2 h2 => ?_)
    refine T.regi hm ?_
    simp only [↓reduceIte, namesOf, List.any, I.names, aopsI, astep, ev, setd, List.set, List.getD, List.getElem?_cons_zero, List.getElem?_cons_succ, List.cons_append, List.nil_append, List.replicate, then_normal, Option.getD_some, Bool.or_false, Bool.false_eq_true, up_zero, binv, ↓opt_def, lt_len, eq_self]
    refine h2 _ _ ?_
    try clear h2 K_h2
    refine T.seq_k (fun K_h2 h2 => ?_)
    refine T.cond rfl (fun hb => ?_) (fun hb => ?_)
    · refine T.skip ?_
      refine h2 _ _ ?_
      try clear h2 K_h2
      have hil : i < bs.length := by simp at hb; omega
      clear hb
      have hlt := numB_lt bs i (by omega)
      have h256 : 256 ^ i ≤ 256 ^ 7 := Nat.pow_le_pow_right (by omega) (by omega)
      have hlt' : numB (bs.take i) < 72057594037927936 := by omega
      have e1 := u64_shl8 _ hlt'
      have e2 := u64_or _ bs[i] hlt'
      have e3 := u64_byte bs[i]
      rw [← numB_take hil] at e2
      refine T.seq_k (fun K_h2 h2 => ?_)
      refine T.block ?_
      refine T.seq_k (fun K_h3 h3 => ?_)
      refine T.regi hm ?_
      simp only [↓reduceIte, namesOf, List.any, I.names, aopsI, astep, ev, setd, List.set, List.getD, List.getElem?_cons_zero, List.getElem?_cons_succ, List.cons_append, List.nil_append, List.length_cons, List.length_nil, List.replicate, then_normal, Option.getD_some, Bool.or_false, Bool.false_eq_true, up_zero, Nat.reduceAdd, ↓opt_def, AV.cells, ldc, Int.natCast_nonneg, lt_len, Int.toNat_natCast, and_true, eq_self, decide_true, bytesAV_len, bytes_get hil, hil]
      refine h3 _ _ ?_
      try clear h3 K_h3
      refine T.regi hm ?_
      simp only [↓reduceIte, namesOf, List.any, I.names, aopsI, astep, ev, setd, List.set, List.getD, List.getElem?_cons_zero, List.getElem?_cons_succ, List.cons_append, List.nil_append, List.replicate, then_normal, inBlock_normal, Option.getD_some, Bool.or_false, Bool.false_eq_true, up_zero, binv, ↓opt_def, eq_self, e1, e2, e3, show ¬ ((8 : Int) < 0) by omega]
      refine h2 _ _ ?_
      try clear h2 K_h2
      have e4 : IntKind.i64.wrap ((i : Int) + 1) = (i : Int) + 1 := wrap64 (by omega) (by omega)
      refine T.regi hm ?_
      simp only [↓reduceIte, namesOf, List.any, I.names, aopsI, astep, ev, setd, List.set, List.getD, List.getElem?_cons_zero, List.getElem?_cons_succ, List.cons_append, List.nil_append, List.replicate, then_normal, Option.getD_some, Bool.or_false, Bool.false_eq_true, up_zero, binv, ↓opt_def, eq_self, e4]
      refine ⟨_, _, Gh.keep [5, 19, 20, 21], ⟨rfl, i + 1, hil, rfl⟩, ?_⟩
      show ((bs.length : Int) - ((i : Int) + 1)).toNat < ((bs.length : Int) - (i : Int)).toNat
      omega
    · refine T.exit ?_
      have : i = bs.length := by simp at hb; omega
      subst this
      rw [List.take_length]
      exact hend _ rfl
  refine T.regi hm ?_
  simp only [↓reduceIte, namesOf, List.any, I.names, aopsI, astep, ev, setd, List.set, List.getD, List.getElem?_cons_zero, List.getElem?_cons_succ, then_normal, Option.getD_some, Bool.or_false, Bool.false_eq_true, up_zero, List.map_cons, List.map_nil]
  refine (wtake_ok hd (by omega) hr).mono ?_
  have hfin : ∀ (x : Int) (σ1 : St), ((takeOk l at_ bad w ∧ AV.int .u64 x = .int .u64 (numB ((l.drop at_.toNat).take w) : Int) ∧ σ1 = σ.set n (rd l g (at_ + w) bad)) ∨
      (¬ takeOk l at_ bad w ∧ AV.int .u64 x = .int .u64 0 ∧ σ1 = σ.set n (rd l g at_ (if bad = -1 then at_ else bad)))) → ∀ ρ, keep [5] 0 ρ = List.replicate 5 .any ++ [.int .u64 x] ++ List.replicate 26 .any → K_h1 ρ σ1 := by
    intro x σ1 hx ρ h5
    refine h1 _ _ (T.gh (Gh.keep [5]) ?_)
    rw [h5]
    clear h1 hloop h2 h5 ρ
    refine T.seq_k (fun K_h1 h1 => ?_)
    refine T.regi hm ?_
    simp only [↓reduceIte, namesOf, List.any, I.names, aopsI, astep, ev, setd, List.set, List.getD, List.getElem?_cons_zero, List.getElem?_cons_succ, List.cons_append, List.nil_append, List.replicate, then_normal, Option.getD_some, Bool.or_false, Bool.false_eq_true, up_zero]
    refine h1 _ _ ?_
    try clear h1 K_h1
    exact T.ret (Fin.ret rfl hx)
  rintro v σ2 (⟨hok, rfl, rfl⟩ | ⟨hok, rfl, rfl⟩)
  · have hbl : ((l.drop at_.toNat).take w).length ≤ 8 := by rw [List.length_take]; omega
    try simp only [bytesAV_len]
    exact hloop _ _ hbl _ rfl (fun ρ h5 => hfin _ _ (.inl ⟨hok, rfl, rfl⟩) ρ h5)
  · try simp only [List.length_nil, List.length_nil]
    exact hloop [] _ (by simp) _ rfl (fun ρ h5 => hfin _ _ (.inr ⟨hok, rfl, rfl⟩) ρ h5)
end Go.VL

/- Contracts: the document's reader. -/
namespace Go.VL
open Go.Proofs

theorem wide_ok {w : Int} {σ : St} : ACalls Try.prog n_wide [.int .i64 w] σ (fun v σ' => v = .bool (rightB w) ∧ σ' = σ) := by
  refine s_wide (fun wf => ?_)
  unfold c_wide
  refine T.seq_k (fun K_h1 h1 => ?_)
  refine T.regi hm ?_
  simp only [↓reduceIte, namesOf, List.any, I.names, aopsI, astep, ev, setd, List.set, List.cons_append, List.nil_append, List.length_cons, List.length_nil, List.replicate, then_normal, Bool.or_false, Bool.false_eq_true, up_zero, Nat.reduceAdd, Nat.reduceSub]
  refine h1 _ _ ?_
  try clear h1 K_h1
  refine T.seq_k (fun K_h1 h1 => ?_)
  by_cases w1 : w = 1
  · subst w1
    refine T.regi hm ?_
    simp only [↓reduceIte, namesOf, List.any, I.names, aopsI, astep, ev, setd, List.set, List.getD, List.getElem?_cons_zero, List.getElem?_cons_succ, then_normal, Option.getD_some, Bool.or_false, Bool.false_eq_true, up_zero, binv, ↓opt_def, eq_self, reduceCtorEq, beq_self_eq_true, reduceCtorEq]
    refine h1 _ _ ?_
    try clear h1 K_h1
    exact T.ret (Fin.ret rfl ⟨by simp [pack, rightB], rfl⟩)
  by_cases w2 : w = 2
  · subst w2
    refine T.regi hm ?_
    simp only [↓reduceIte, namesOf, List.any, I.names, aopsI, astep, ev, setd, List.set, List.getD, List.getElem?_cons_zero, List.getElem?_cons_succ, then_normal, Option.getD_some, Bool.or_false, Bool.false_eq_true, up_zero, binv, ↓opt_def, eq_self, reduceCtorEq, beq_self_eq_true, reduceCtorEq, Int.reduceBEq]
    refine h1 _ _ ?_
    try clear h1 K_h1
    exact T.ret (Fin.ret rfl ⟨by simp [pack, rightB], rfl⟩)
  by_cases w4 : w = 4
  · subst w4
    refine T.regi hm ?_
    simp only [↓reduceIte, namesOf, List.any, I.names, aopsI, astep, ev, setd, List.set, List.getD, List.getElem?_cons_zero, List.getElem?_cons_succ, then_normal, Option.getD_some, Bool.or_false, Bool.false_eq_true, up_zero, binv, ↓opt_def, eq_self, reduceCtorEq, beq_self_eq_true, reduceCtorEq, Int.reduceBEq]
    refine h1 _ _ ?_
    try clear h1 K_h1
    exact T.ret (Fin.ret rfl ⟨by simp [pack, rightB], rfl⟩)
  · have e1 : (w == 1) = false := by simpa using w1
    have e2 : (w == 2) = false := by simpa using w2
    have e4 : (w == 4) = false := by simpa using w4
    refine T.regi hm ?_
    simp only [↓reduceIte, namesOf, List.any, I.names, aopsI, astep, ev, setd, List.set, List.getD, List.getElem?_cons_zero, List.getElem?_cons_succ, then_normal, Option.getD_some, Bool.or_false, Bool.false_eq_true, up_zero, binv, ↓opt_def, eq_self, e1, e2, e4]
    refine h1 _ _ ?_
    try clear h1 K_h1
    refine T.ret (Fin.ret rfl ⟨?_, rfl⟩)
    by_cases w8 : w = 8
    · subst w8; simp [pack, rightB]
    · have e8 : (w == 8) = false := by simpa using w8
      simp [pack, rightB, w1, w2, w4, w8]


def g_wide : List AV → Option AV
  | [.int .i64 w] => some (.bool (rightB w))
  | _ => none
theorem wide_pure : PureC Try.prog n_wide g_wide := by
  intro args σ v h
  unfold g_wide at h
  split at h
  · simp only [Option.some.injEq] at h; subst h; exact wide_ok
  · cases h
def t3 : Tbl := [(n_wide, g_wide)]
theorem t3_ok : t3.ok Try.prog := Tbl.ok_cons wide_pure Tbl.ok_nil

theorem u64_mul (a : Nat) (h : a < 72057594037927936) : IntKind.u64.wrap (256 * (a : Int)) = ((256 * a : Nat) : Int) := by
  simp [IntKind.wrap, IntKind.bits, IntKind.signed]; omega
theorem u64_add (a : Nat) (b : UInt8) (h : a < 72057594037927936) : IntKind.u64.wrap (((256 * a : Nat) : Int) + (b.toNat : Int)) = ((256 * a + b.toNat : Nat) : Int) := by
  have hb := b.toNat_lt
  simp [IntKind.wrap, IntKind.bits, IntKind.signed]; omega

set_option maxHeartbeats 1000000 in
theorem rword_ok {l : List UInt8} {g : Ver} {at_ bad : Int} {w n : Nat} {σ : St} (hd : Rd l at_ bad) (hbd : bad = -1 ∨ 0 ≤ bad) (hw : rightB w = true) (hr : σ.res n = some (rd l g at_ bad)) :
    ACalls Try.prog n_rword [.ptr n 0, .int .i64 w] σ (fun v σ' => (takeOk l at_ bad w ∧ v = .int .u64 (numB ((l.drop at_.toNat).take w) : Int) ∧ σ' = σ.set n (rd l g (at_ + w) bad)) ∨
      (¬ takeOk l at_ bad w ∧ v = .int .u64 0 ∧ σ' = σ.set n (rd l g at_ (if bad = -1 then at_ else bad)))) := by
  have hw8 : w ≤ 8 := by simp [rightB] at hw; omega
  have hr' := hr
  unfold rd at hr
  obtain ⟨hl, h0, hhi⟩ := hd
  refine s_rword (fun wf => ?_)
  unfold c_rword
  refine T.seq_k (fun K_h1 h1 => ?_)
  refine T.regi hm ?_
  simp only [↓reduceIte, namesOf, List.any, I.names, aopsI, astep, ev, setd, List.set, List.cons_append, List.nil_append, List.length_cons, List.length_nil, List.replicate, then_normal, Bool.or_false, Bool.false_eq_true, up_zero, Nat.reduceAdd, Nat.reduceSub]
  refine h1 _ _ ?_
  try clear h1 K_h1
  refine T.seq_k (fun K_h1 h1 => ?_)
  refine T.regt hm t3_ok ?_
  simp only [↓reduceIte, namesOf, List.any, I.names, aopsT, qstep, CPt, Tbl.get, astep, ev, setd, List.set, List.getD, List.getElem?_cons_zero, List.getElem?_cons_succ, then_normal, Option.getD_some, Bool.or_false, Bool.false_eq_true, up_zero, ↓opt_def, List.map_cons, List.map_nil, eq_self, t3, g_wide, hw]
  refine h1 _ _ ?_
  try clear h1 K_h1
  refine T.seq_k (fun K_h1 h1 => ?_)
  refine T.seq_k (fun K_h2 h2 => ?_)
  rcases hbd with rfl | hbd
  case inr =>
    have e1 : decide (bad ≥ 0) = true := decide_eq_true hbd
    refine T.regi hm ?_
    simp only [↓reduceIte, namesOf, List.any, I.names, aopsI, astep, ev, setd, List.set, List.getD, List.getElem?_cons_zero, List.getElem?_cons_succ, then_normal, Option.getD_some, Bool.or_false, Bool.false_eq_true, up_zero, binv, ↓opt_def, ldc, eq_self, hr, Nat.zero_add, e1]
    refine h2 _ _ ?_
    try clear h2 K_h2
    refine T.cond rfl (fun _ => ?_) (fun h => by cases h)
    refine T.seq_k (fun K_h2 h2 => ?_)
    refine T.regi hm ?_
    simp only [↓reduceIte, namesOf, List.any, I.names, aopsI, astep, ev, setd, List.set, then_normal, Bool.or_false, Bool.false_eq_true, up_zero]
    refine h2 _ _ ?_
    try clear h2 K_h2
    refine T.ret (Fin.ret rfl (.inr ⟨fun h => ?_, rfl, ?_⟩))
    · have := h.1; omega
    · rw [if_neg (by omega), St.set_self hr']
  have e1 : decide ((-1 : Int) ≥ 0) = false := by decide
  refine T.regi hm ?_
  simp only [↓reduceIte, namesOf, List.any, I.names, aopsI, astep, ev, setd, List.set, List.getD, List.getElem?_cons_zero, List.getElem?_cons_succ, then_normal, Option.getD_some, Bool.or_false, Bool.false_eq_true, up_zero, binv, ↓opt_def, ldc, eq_self, hr, Nat.zero_add, e1]
  refine h2 _ _ ?_
  try clear h2 K_h2
  refine T.cond rfl (fun h => by cases h) (fun _ => ?_)
  refine T.skip ?_
  refine h1 _ _ ?_
  try clear h1 K_h1
  refine T.seq_k (fun K_h1 h1 => ?_)
  refine T.seq_k (fun K_h2 h2 => ?_)
  have e2 : IntKind.i64.wrap (at_ + (w : Int)) = at_ + w := wrap64 (by omega) (by omega)
  by_cases hok : at_ + (w : Int) ≤ l.length
  case neg =>
    have e3 : decide (at_ + (w : Int) > l.length) = true := decide_eq_true (by omega)
    refine T.regi hm ?_
    simp only [↓reduceIte, namesOf, List.any, I.names, aopsI, astep, ev, setd, List.set, List.getD, List.getElem?_cons_zero, List.getElem?_cons_succ, then_normal, Option.getD_some, Bool.or_false, Bool.false_eq_true, up_zero, binv, ↓opt_def, ldc, eq_self, hr, Nat.zero_add, bytesAV_len, e2, e3, Bool.not_true]
    refine h2 _ _ ?_
    try clear h2 K_h2
    refine T.cond rfl (fun _ => ?_) (fun h => by cases h)
    refine T.seq_k (fun K_h2 h2 => ?_)
    refine T.regi hm ?_
    simp only [↓reduceIte, namesOf, List.any, I.names, aopsI, astep, ev, setd, List.set, List.getD, List.getElem?_cons_zero, List.getElem?_cons_succ, List.cons_append, List.nil_append, List.length_cons, List.length_nil, then_normal, Option.getD_some, Bool.or_false, Bool.false_eq_true, up_zero, Nat.reduceAdd, ↓opt_def, AV.isAny, AV.cells, ldc, eq_self, decide_true, hr, AV.fits, AV.one, List.all_cons, List.all_nil, Nat.reduceBEq, Bool.not_false, Bool.and_self, Nat.zero_add, splice, List.take, List.drop, Nat.reduceLeDiff]
    refine h2 _ _ ?_
    try clear h2 K_h2
    refine T.seq_k (fun K_h2 h2 => ?_)
    refine T.regi hm ?_
    simp only [↓reduceIte, namesOf, List.any, I.names, aopsI, astep, ev, setd, List.set, then_normal, Bool.or_false, Bool.false_eq_true, up_zero, eq_self]
    refine h2 _ _ ?_
    try clear h2 K_h2
    exact T.ret (Fin.ret rfl (.inr ⟨fun h => by have := h.2; omega, rfl, rfl⟩))
  have e3 : decide (at_ + (w : Int) > l.length) = false := decide_eq_false (by omega)
  refine T.regi hm ?_
  simp only [↓reduceIte, namesOf, List.any, I.names, aopsI, astep, ev, setd, List.set, List.getD, List.getElem?_cons_zero, List.getElem?_cons_succ, then_normal, Option.getD_some, Bool.or_false, Bool.false_eq_true, up_zero, binv, ↓opt_def, ldc, eq_self, hr, Nat.zero_add, bytesAV_len, e2, e3, Bool.not_true]
  refine h2 _ _ ?_
  try clear h2 K_h2
  refine T.cond rfl (fun h => by cases h) (fun _ => ?_)
  refine T.skip ?_
  refine h1 _ _ ?_
  try clear h1 K_h1
  refine T.seq_k (fun K_h1 h1 => ?_)
  refine T.regi hm ?_
  simp only [↓reduceIte, namesOf, List.any, I.names, aopsI, astep, ev, setd, List.set, then_normal, Bool.or_false, Bool.false_eq_true, up_zero, eq_self]
  refine h1 _ _ ?_
  try clear h1 K_h1
  refine T.seq_k (fun K_h1 h1 => ?_)
  refine T.seq_k (fun K_h2 h2 => ?_)
  refine T.regi hm ?_
  simp only [↓reduceIte, namesOf, List.any, I.names, aopsI, astep, ev, setd, List.set, then_normal, Bool.or_false, Bool.false_eq_true, up_zero, eq_self]
  refine h2 _ _ ?_
  try clear h2 K_h2
  refine T.block ?_
  obtain ⟨a, rfl⟩ : ∃ a : Nat, at_ = (a : Int) := ⟨at_.toNat, by omega⟩
  have hbl : ((l.drop a).take w).length = w := by rw [List.length_take, List.length_drop]; omega
  generalize hbs : (l.drop a).take w = bs at hbl
  have hget : ∀ i, (h : i < w) → (h2 : a + i < l.length) → l[a + i] = bs[i]'(by omega) := by
    intro i h h2
    subst hbs
    simp
  refine T.gh (Gh.keep [0, 1, 6, 7]) ?_
  refine T.loop (fun ρ σ' => σ' = σ ∧ ∃ (i : Nat), i ≤ w ∧ ρ = [.ptr n 0, .int .i64 w, .any, .any, .any, .any, .int .u64 (numB (bs.take i) : Int), .int .i64 (i : Int)] ++ List.replicate 61 .any)
    (fun ρ _ => match ρ.getD 7 .any with | .int _ m => (w - m).toNat | _ => 0) ⟨rfl, 0, Nat.zero_le _, rfl⟩ ?_
  rintro ρ σ' ⟨rfl, i, hi, rfl⟩
  refine T.seq_k (fun K_h2 h2 => ?_)
  refine T.seq_k (fun K_h3 h3 => ?_)
  refine T.regi hm ?_
  simp only [↓reduceIte, namesOf, List.any, I.names, aopsI, astep, ev, setd, List.set, List.getD, List.getElem?_cons_zero, List.getElem?_cons_succ, List.cons_append, List.nil_append, List.replicate, then_normal, Option.getD_some, Bool.or_false, Bool.false_eq_true, up_zero, binv, ↓opt_def, Int.toNat_natCast, eq_self]
  refine h3 _ _ ?_
  try clear h3 K_h3
  refine T.cond rfl (fun hb => ?_) (fun hb => ?_)
  · refine T.skip ?_
    refine h2 _ _ ?_
    try clear h2 K_h2
    have hil : i < w := by simp at hb; omega
    clear hb
    have hlt := numB_lt bs i (by omega)
    have h256 : 256 ^ i ≤ 256 ^ 7 := Nat.pow_le_pow_right (by omega) (by omega)
    have hlt' : numB (bs.take i) < 72057594037927936 := by omega
    have hal : a + i < l.length := by omega
    have e4 := u64_mul _ hlt'
    have e5 := u64_add _ bs[i] hlt'
    have e6 := u64_byte bs[i]
    rw [← numB_take (by omega)] at e5
    have e7 : IntKind.i64.wrap ((a : Int) + (i : Int)) = ((a + i : Nat) : Int) := by rw [wrap64 (by omega) (by omega)]; omega
    have e8 := bytes_get hal
    rw [hget i hil hal] at e8
    refine T.seq_k (fun K_h2 h2 => ?_)
    refine T.block ?_
    refine T.regi hm ?_
    simp only [↓reduceIte, namesOf, List.any, I.names, aopsI, astep, ev, setd, List.set, List.getD, List.getElem?_cons_zero, List.getElem?_cons_succ, List.cons_append, List.nil_append, List.length_cons, List.length_nil, List.replicate, then_normal, inBlock_normal, Option.getD_some, Bool.or_false, Bool.false_eq_true, up_zero, binv, ↓opt_def, AV.cells, ldc, Int.natCast_nonneg, lt_len, Int.toNat_natCast, and_true, eq_self, hr, Nat.zero_add, bytesAV_len, e4, e7, e8, e6, e5, hal]
    refine h2 _ _ ?_
    try clear h2 K_h2
    have e9 : IntKind.i64.wrap ((i : Int) + 1) = (i : Int) + 1 := wrap64 (by omega) (by omega)
    refine T.regi hm ?_
    simp only [↓reduceIte, namesOf, List.any, I.names, aopsI, astep, ev, setd, List.set, List.getD, List.getElem?_cons_zero, List.getElem?_cons_succ, List.cons_append, List.nil_append, List.replicate, then_normal, Option.getD_some, Bool.or_false, Bool.false_eq_true, up_zero, binv, ↓opt_def, Int.toNat_natCast, eq_self, e9]
    refine ⟨_, _, Gh.keep [0, 1, 6, 7], ⟨rfl, i + 1, hil, rfl⟩, ?_⟩
    show ((w : Int) - ((i : Int) + 1)).toNat < ((w : Int) - (i : Int)).toNat
    omega
  · refine T.exit ?_
    have : i = w := by simp at hb; omega
    subst this
    rw [show bs.take i = bs by rw [← hbl, List.take_length]]
    try simp only [↓reduceIte, List.getD, List.getElem?_cons_zero, List.getElem?_cons_succ, List.cons_append, List.nil_append, List.replicate, then_normal, Option.getD_some, Int.toNat_natCast, eq_self, inBlock_exit, then_exit]
    refine h1 _ _ ?_
    try clear h1 K_h1
    refine T.seq_k (fun K_h1 h1 => ?_)
    refine T.regi hm ?_
    simp only [↓reduceIte, namesOf, List.any, I.names, aopsI, astep, ev, setd, List.set, List.getD, List.getElem?_cons_zero, List.getElem?_cons_succ, List.cons_append, List.nil_append, List.length_cons, List.length_nil, then_normal, Option.getD_some, Bool.or_false, Bool.false_eq_true, up_zero, Nat.reduceAdd, binv, ↓opt_def, AV.isAny, AV.cells, ldc, Int.toNat_natCast, eq_self, decide_true, hr, e2, AV.fits, AV.one, List.all_cons, List.all_nil, Nat.reduceBEq, Bool.not_false, Bool.and_self, Nat.zero_add, splice, List.take, List.drop, Nat.reduceLeDiff]
    refine h1 _ _ ?_
    try clear h1 K_h1
    refine T.seq_k (fun K_h1 h1 => ?_)
    refine T.regi hm ?_
    simp only [↓reduceIte, namesOf, List.any, I.names, aopsI, astep, ev, setd, List.set, List.getD, List.getElem?_cons_zero, List.getElem?_cons_succ, then_normal, Option.getD_some, Bool.or_false, Bool.false_eq_true, up_zero, Int.toNat_natCast, eq_self]
    refine h1 _ _ ?_
    try clear h1 K_h1
    exact T.ret (Fin.ret rfl (.inl ⟨⟨rfl, by omega⟩, by rw [Int.toNat_natCast, hbs]; rfl, rfl⟩))
end Go.VL

/- Contracts: small things that are used often; an error's number. -/
namespace Go.VL
open Go.Proofs

theorem set_quiet {σ σ' : St} (wf : WF σ) (hn : σ.next ≤ σ'.next) (ho : ∀ n x, σ.res n = some x → σ'.res n = some x) {k a : Nat} (r : Res) (ha : σ'.next ≤ a) : ∀ n x, σ.res n = some x → ((σ'.up k).set a r).res n = some x := by
  intro n x hr
  have hn' : n < σ.next := by
    rcases Nat.lt_or_ge n σ.next with h | h
    · exact h
    · rw [wf n h] at hr; cases hr
  rw [St.set_other _ _ (by omega)]; exact ho n x hr
theorem errAV_eq (c : Int) (h : c ≠ 0) : errAV c = .iface tCode (.int .i64 c) := by unfold errAV; rw [if_neg h]

theorem er_sl (xs : List AV) (g : Ver) : (AV.sl xs g).er = .sl xs .none := rfl

theorem code_ok {c : Nat} {σ : St} (hc : c ≤ 10) : ACalls Try.prog n_code [errAV c] σ (fun v σ' => v = .int .i64 (c : Int) ∧ σ' = σ) := by
  refine s_code (fun wf => ?_)
  unfold c_code
  refine T.seq_k (fun K_h1 h1 => ?_)
  refine T.regi hm ?_
  simp only [↓reduceIte, namesOf, List.any, I.names, aopsI, astep, ev, setd, List.set, List.cons_append, List.nil_append, List.length_cons, List.length_nil, List.replicate, then_normal, Bool.or_false, Bool.false_eq_true, up_zero, Nat.reduceAdd, Nat.reduceSub]
  refine h1 _ _ ?_
  try clear h1 K_h1
  refine T.seq_k (fun K_h1 h1 => ?_)
  refine T.seq_k (fun K_h2 h2 => ?_)
  by_cases h0 : c = 0
  · subst h0
    have e0 : errAV ((0 : Nat) : Int) = .nili := rfl
    rw [e0]
    refine T.regi hm ?_
    simp only [↓reduceIte, namesOf, List.any, I.names, aopsI, astep, ev, setd, List.set, List.getD, List.getElem?_cons_zero, List.getElem?_cons_succ, then_normal, Option.getD_some, Bool.or_false, Bool.false_eq_true, up_zero, eq_self, eqIv, Bool.bne_false]
    refine h2 _ _ ?_
    try clear h2 K_h2
    refine T.cond rfl (fun _ => ?_) (fun h => by cases h)
    refine T.seq_k (fun K_h2 h2 => ?_)
    refine T.regi hm ?_
    simp only [↓reduceIte, namesOf, List.any, I.names, aopsI, astep, ev, setd, List.set, then_normal, Bool.or_false, Bool.false_eq_true, up_zero]
    refine h2 _ _ ?_
    try clear h2 K_h2
    exact T.ret (Fin.ret rfl ⟨rfl, rfl⟩)
  rw [errAV_eq (c : Int) (by omega)]
  refine T.regi hm ?_
  simp only [↓reduceIte, namesOf, List.any, I.names, aopsI, astep, ev, setd, List.set, List.getD, List.getElem?_cons_zero, List.getElem?_cons_succ, then_normal, Option.getD_some, Bool.or_false, Bool.false_eq_true, up_zero, eqIv, Bool.bne_false]
  refine h2 _ _ ?_
  try clear h2 K_h2
  refine T.cond rfl (fun h => by cases h) (fun _ => ?_)
  refine T.skip ?_
  refine h1 _ _ ?_
  try clear h1 K_h1
  refine T.seq_k (fun K_h1 h1 => ?_)
  refine T.seq_k (fun K_h2 h2 => ?_)
  refine T.regi hm ?_
  simp only [↓reduceIte, namesOf, List.any, I.names, aopsI, astep, ev, setd, List.set, then_normal, Bool.or_false, Bool.false_eq_true, up_zero]
  refine h2 _ _ ?_
  try clear h2 K_h2
  refine T.block ?_
  refine T.gh (Gh.keep [0, 3]) ?_
  refine T.loop (fun ρ s => s = σ ∧ ∃ k : Nat, 1 ≤ k ∧ k ≤ c ∧ ρ = [.iface tCode (.int .i64 (c : Int)), .any, .any, .int .i64 (k : Int)] ++ List.replicate 11 .any)
    (fun ρ _ => match ρ.getD 3 .any with | .int _ k => (c - k).toNat | _ => 0) ⟨rfl, 1, Nat.le_refl _, by omega, rfl⟩ ?_
  rintro ρ s ⟨rfl, k, hk1, hk, rfl⟩
  refine T.seq_k (fun K_h2 h2 => ?_)
  refine T.seq_k (fun K_h3 h3 => ?_)
  have e1 : decide ((k : Int) ≤ 10) = true := decide_eq_true (by omega)
  refine T.regi hm ?_
  simp only [↓reduceIte, namesOf, List.any, I.names, aopsI, astep, ev, setd, List.set, List.getD, List.getElem?_cons_zero, List.getElem?_cons_succ, List.cons_append, List.nil_append, List.replicate, then_normal, Option.getD_some, Bool.or_false, Bool.false_eq_true, up_zero, binv, ↓opt_def, eq_self, e1]
  refine h3 _ _ ?_
  try clear h3 K_h3
  refine T.cond rfl (fun _ => ?_) (fun h => by cases h)
  refine T.skip ?_
  refine h2 _ _ ?_
  try clear h2 K_h2
  refine T.seq_k (fun K_h2 h2 => ?_)
  refine T.block ?_
  refine T.seq_k (fun K_h3 h3 => ?_)
  by_cases hck : c = k
  · subst hck
    refine T.regi hm ?_
    simp only [↓reduceIte, namesOf, List.any, I.names, aopsI, astep, ev, setd, List.set, List.getD, List.getElem?_cons_zero, List.getElem?_cons_succ, List.cons_append, List.nil_append, List.replicate, then_normal, Option.getD_some, Bool.or_false, Bool.false_eq_true, up_zero, eq_self, decide_true, eqIv, beq_self_eq_true, Bool.and_self, Bool.bne_false]
    refine h3 _ _ ?_
    try clear h3 K_h3
    refine T.cond rfl (fun _ => ?_) (fun h => by cases h)
    refine T.seq_k (fun K_h3 h3 => ?_)
    refine T.regi hm ?_
    simp only [↓reduceIte, namesOf, List.any, I.names, aopsI, astep, ev, setd, List.set, List.getD, List.getElem?_cons_zero, List.getElem?_cons_succ, List.cons_append, List.nil_append, List.replicate, then_normal, Option.getD_some, Bool.or_false, Bool.false_eq_true, up_zero]
    refine h3 _ _ ?_
    try clear h3 K_h3
    exact T.ret (Fin.ret rfl ⟨rfl, rfl⟩)
  · have e2 : ((c : Int) == (k : Int)) = false := by rw [beq_eq_false_iff_ne]; omega
    refine T.regi hm ?_
    simp only [↓reduceIte, namesOf, List.any, I.names, aopsI, astep, ev, setd, List.set, List.getD, List.getElem?_cons_zero, List.getElem?_cons_succ, List.cons_append, List.nil_append, List.replicate, then_normal, Option.getD_some, Bool.or_false, Bool.false_eq_true, up_zero, eq_self, decide_true, eqIv, beq_self_eq_true, Bool.and_self, Bool.bne_false, e2]
    refine h3 _ _ ?_
    try clear h3 K_h3
    refine T.cond rfl (fun h => by cases h) (fun _ => ?_)
    refine T.skip ?_
    refine h2 _ _ ?_
    try clear h2 K_h2
    have e3 : IntKind.i64.wrap ((k : Int) + 1) = ((k + 1 : Nat) : Int) := by rw [wrap64 (by omega) (by omega)]; rfl
    refine T.regi hm ?_
    simp only [↓reduceIte, namesOf, List.any, I.names, aopsI, astep, ev, setd, List.set, List.getD, List.getElem?_cons_zero, List.getElem?_cons_succ, List.cons_append, List.nil_append, List.replicate, then_normal, Option.getD_some, Bool.or_false, Bool.false_eq_true, up_zero, binv, ↓opt_def, eq_self, e3]
    refine ⟨_, _, Gh.keep [0, 3], ⟨rfl, k + 1, by omega, by omega, rfl⟩, ?_⟩
    show ((c : Int) - ((k + 1 : Nat) : Int)).toNat < ((c : Int) - (k : Int)).toNat
    omega
end Go.VL

/- Contracts: readers, told as functions. -/
namespace Go.VL
open Go.Proofs

theorem openB_le (x : List UInt8) : (openB x).2.length ≤ x.length := by
  unfold openB
  split
  · simp
  · split
    · simp
    · simp

/-- how far a reader is, and where something is amiss (-1: nowhere) -/
structure Rs where
  at_ : Int
  bad : Int
def Rs.ok (l : List UInt8) (s : Rs) : Prop := Rd l s.at_ s.bad ∧ (s.bad = -1 ∨ 0 ≤ s.bad)
def r0 : Rs := ⟨0, -1⟩
/-- may so many bytes be taken? -/
def rT (l : List UInt8) (s : Rs) (w : Int) : Bool := decide (s.bad = -1 ∧ w ≤ l.length - s.at_)
def rF (s : Rs) : Rs := ⟨s.at_, if s.bad = -1 then s.at_ else s.bad⟩
/-- a word -/
def rW (l : List UInt8) (s : Rs) (w : Nat) : Nat := if rT l s w then numB ((l.drop s.at_.toNat).take w) else 0
/-- the reader behind it -/
def rN (l : List UInt8) (s : Rs) (w : Nat) : Rs := if rT l s w then ⟨s.at_ + w, s.bad⟩ else rF s
def rdS (l : List UInt8) (g : Ver) (s : Rs) : Res := rd l g s.at_ s.bad

theorem rT_iff {l : List UInt8} {s : Rs} {w : Int} : rT l s w = true ↔ takeOk l s.at_ s.bad w := by unfold rT takeOk; simp
theorem Rs.ok_r0 {l : List UInt8} (h : l.length ≤ 1099511627776) : Rs.ok l r0 := ⟨⟨h, by simp [r0], by simp [r0]⟩, .inl rfl⟩
theorem rF_ok {l : List UInt8} {s : Rs} (h : s.ok l) : (rF s).ok l := by
  obtain ⟨⟨h1, h2, h3⟩, h4⟩ := h
  refine ⟨⟨h1, h2, h3⟩, ?_⟩
  simp only [rF]
  split
  · exact .inr h2
  · rcases h4 with h4 | h4
    · rename_i hh; exact absurd h4 hh
    · exact .inr h4
theorem rN_ok {l : List UInt8} {s : Rs} {w : Nat} (h : s.ok l) : (rN l s w).ok l := by
  unfold rN
  split
  · rename_i ht
    obtain ⟨⟨h1, h2, h3⟩, h4⟩ := h
    rw [rT_iff] at ht
    obtain ⟨t1, t2⟩ := ht
    exact ⟨⟨h1, by simp only; omega, by simp only; omega⟩, .inl t1⟩
  · exact rF_ok h
theorem rW_lt {l : List UInt8} {s : Rs} {w : Nat} (h : s.ok l) : rW l s w < 256 ^ w := by
  unfold rW
  split
  · rename_i ht
    rw [rT_iff] at ht
    obtain ⟨⟨h1, h2, h3⟩, h4⟩ := h
    have hlen : w ≤ (l.drop s.at_.toNat).length := by
      rw [List.length_drop]; have := ht.2; omega
    exact numB_lt _ _ hlen
  · exact Nat.pow_pos (by decide)

theorem wwordF {l : List UInt8} {g : Ver} {s : Rs} {w n : Nat} {σ : St} (hd : s.ok l) (hw : rightB w = true) (hr : σ.res n = some (rdS l g s)) :
    ACalls Try.prog n_wword [.ptr n 0, .int .i64 w] σ (fun v σ' => v = .int .u64 (rW l s w : Int) ∧ σ' = σ.set n (rdS l g (rN l s w))) := by
  refine (wword_ok hd.1 hw hr).mono ?_
  rintro v σ' (⟨h1, rfl, rfl⟩ | ⟨h1, rfl, rfl⟩)
  · have : rT l s w = true := rT_iff.2 h1
    simp only [rW, rN, this, if_true]
    exact ⟨trivial, rfl⟩
  · have : rT l s w = false := by
      rw [Bool.eq_false_iff]; exact fun h => h1 (rT_iff.1 h)
    simp only [rW, rN, this, Bool.false_eq_true, if_false]
    exact ⟨rfl, rfl⟩
theorem rwordF {l : List UInt8} {g : Ver} {s : Rs} {w n : Nat} {σ : St} (hd : s.ok l) (hw : rightB w = true) (hr : σ.res n = some (rdS l g s)) :
    ACalls Try.prog n_rword [.ptr n 0, .int .i64 w] σ (fun v σ' => v = .int .u64 (rW l s w : Int) ∧ σ' = σ.set n (rdS l g (rN l s w))) := by
  refine (rword_ok hd.1 hd.2 hw hr).mono ?_
  rintro v σ' (⟨h1, rfl, rfl⟩ | ⟨h1, rfl, rfl⟩)
  · have : rT l s w = true := rT_iff.2 h1
    simp only [rW, rN, this, if_true]
    exact ⟨trivial, rfl⟩
  · have : rT l s w = false := by
      rw [Bool.eq_false_iff]; exact fun h => h1 (rT_iff.1 h)
    simp only [rW, rN, this, Bool.false_eq_true, if_false]
    exact ⟨rfl, rfl⟩
theorem wreadF {l : List UInt8} {σ : St} : ACalls Try.prog n_wread [.sl (bytesAV l) .none] σ (fun v σ' => ∃ nm, v = .ptr nm 0 ∧ σ'.res nm = some (rdS l .none r0) ∧ σ.next ≤ nm ∧ nm < σ'.next ∧ ∀ m, m < σ.next → σ'.res m = σ.res m) := by
  refine s_wread (fun wf => ?_)
  unfold c_wread
  refine T.seq_k (fun K_h0 h0 => ?_)
  refine T.regi hm ?_
  simp only [↓reduceIte, namesOf, List.any, I.names, aopsI, astep, ev, setd, List.set, List.cons_append, List.nil_append, List.length_cons, List.length_nil, List.replicate, then_normal, Bool.or_false, Bool.false_eq_true, up_zero, Nat.reduceAdd, Nat.reduceSub]
  refine h0 _ _ ?_
  try clear h0 K_h0
  refine T.seq_k (fun K_h1 h1 => ?_)
  refine T.regi hm ?_
  simp only [↓reduceIte, namesOf, List.any, I.names, aopsI, astep, ev, setd, List.set, List.getD, List.getElem?_cons_zero, List.getElem?_cons_succ, List.cons_append, List.nil_append, List.length_cons, List.length_nil, then_normal, Option.getD_some, Bool.or_false, Bool.or_true, Bool.false_eq_true, Nat.reduceAdd, ↓opt_def, AV.isAny, AV.cells, and_true, eq_self, fillA, Option.map_some, AV.fits, AV.one, List.all_cons, List.all_nil, Nat.reduceBEq, Bool.not_false, Bool.and_self, Nat.zero_add, splice, List.take, List.drop, Nat.reduceLeDiff]
  refine h1 _ ((σ.up 4).set (σ.next + 2) (rd l .none 0 (-1))) ?_
  exact T.ret (Fin.ret rfl ⟨σ.next + 2, rfl, by simp [rdS, r0], by omega, by simp, fun m hm => by rw [St.set_other _ _ (by omega)]; rfl⟩)
end Go.VL

/- Code run at given values: what is told of some calls. -/
namespace Go.VL
open Go.Proofs

/-- a table of quiet calls tells of them -/
def orT (tbl : Tbl) : Bool → Nat → List AV → DS → Option (AV × Option DS) := fun _ f args _ =>
  match tbl.get f with
  | some g => match g args with
    | some v => some (v, none)
    | none => none
  | none => none
theorem orT_ok {P : Program} {tbl : Tbl} (h : tbl.ok P) : DOk P (orT tbl) := by
  constructor
  · intro q f args s v hh
    unfold orT at hh
    split at hh
    · rename_i g hg
      split at hh
      · rename_i v' hv
        simp only [Option.some.injEq, Prod.mk.injEq, and_true] at hh
        subst hh
        exact Tbl.get_ok h hg args _ _ hv
      · cases hh
    · cases hh
  · intro q f args s v s' hh
    unfold orT at hh
    split at hh
    · split at hh
      · simp at hh
      · cases hh
    · cases hh

/-- bytes, out of a row of values -/
def exB : List AV → Option (List UInt8)
  | [] => some []
  | .int .u8 n :: r => if 0 ≤ n ∧ n < 256 then (match exB r with | some l => some (UInt8.ofNat n.toNat :: l) | none => none) else none
  | _ => none
theorem exB_ok : ∀ {xs : List AV} {l : List UInt8}, exB xs = some l → xs = bytesAV l
  | [], l, h => by simp only [exB, Option.some.injEq] at h; subst h; rfl
  | .int .u8 n :: r, l, h => by
    simp only [exB] at h
    split at h
    · rename_i hn
      split at h
      · rename_i l' hl
        simp only [Option.some.injEq] at h; subst h
        rw [exB_ok hl]
        have : ((UInt8.ofNat n.toNat).toNat : Int) = n := by rw [UInt8.toNat_ofNat']; omega
        simp only [bytesAV, List.map_cons, this]
      · cases h
    · cases h
  | .any :: _, _, h | .bool _ :: _, _, h | .str _ :: _, _, h | .nilp :: _, _, h | .nilm :: _, _, h | .nilf :: _, _, h | .nili :: _, _, h | .ptr _ _ :: _, _, h | .eptr _ :: _, _, h | .sl _ _ :: _, _, h | .ref _ _ _ :: _, _, h | .room _ _ :: _, _, h
  | .map _ :: _, _, h | .func _ _ _ :: _, _, h | .iface _ _ :: _, _, h | .agg _ :: _, _, h | .tup _ :: _, _, h => by simp [exB] at h
  | .int .i8 _ :: _, _, h | .int .i16 _ :: _, _, h | .int .i32 _ :: _, _, h | .int .i64 _ :: _, _, h | .int .u16 _ :: _, _, h | .int .u32 _ :: _, _, h | .int .u64 _ :: _, _, h => by simp [exB] at h

def g_csum : List AV → Option AV
  | [.sl xs _] => match exB xs with
    | some l => if l.length ≤ 1099511627776 then some (.int .u32 (crcOf l : Int)) else none
    | none => none
  | _ => none
theorem csum_pure : PureC Try.prog n_csum g_csum := by
  intro args σ v h
  unfold g_csum at h
  split at h
  · rename_i xs g
    split at h
    · rename_i l hl
      split at h
      · rename_i hlen
        simp only [Option.some.injEq] at h; subst h
        rw [exB_ok hl]
        exact csum_ok hlen
      · cases h
    · cases h
  · cases h
def tbC : Tbl := [(n_csum, g_csum)]
theorem tbC_ok : tbC.ok Try.prog := Tbl.ok_cons csum_pure Tbl.ok_nil
end Go.VL

/- States that are alike but for new names; a named end among them; arithmetic of words. -/
namespace Go.VL
open Go.Proofs

/-- the same, and perhaps more behind it -/
structure Like (ρ τ : St) : Prop where
  next : ρ.next ≤ τ.next
  same : ∀ n, n < ρ.next → τ.res n = ρ.res n
theorem Like.refl (σ : St) : Like σ σ := ⟨Nat.le_refl _, fun _ _ => rfl⟩
theorem Like.trans {a b c : St} (h : Like a b) (k : Like b c) : Like a c := ⟨Nat.le_trans h.next k.next, fun n hn => (k.same n (Nat.lt_of_lt_of_le hn h.next)).trans (h.same n hn)⟩
theorem Like.up {a b : St} (h : Like a b) (k : Nat) : Like a (b.up k) := ⟨Nat.le_trans h.next (Nat.le_add_right _ _), h.same⟩
theorem Like.set {a b : St} (h : Like a b) {n : Nat} (r : Res) (hn : a.next ≤ n) : Like a (b.set n r) := ⟨h.next, fun m hm => by rw [St.set_other _ _ (by omega)]; exact h.same m hm⟩
theorem Like.del {a b : St} (h : Like a b) {n : Nat} (hn : a.next ≤ n) : Like a (b.del n) := ⟨h.next, fun m hm => by
  have : m ≠ n := by omega
  rw [← h.same m hm]; simp [St.del, this]⟩
theorem Like.put {a b : St} (h : Like a b) (n : Nat) (r : Res) : Like (a.set n r) (b.set n r) := ⟨h.next, fun m hm => by
  have hm' : m < a.next := hm
  by_cases e : m = n
  · subst e; simp
  · rw [St.set_other _ _ e, St.set_other _ _ e]; exact h.same m hm'⟩
theorem Like.one {σ σ' : St} {g k : Nat} (h : OneTip σ σ' g k) : Like σ σ' := ⟨by have := h.lo; have := h.hi; omega, fun n hn => by rw [h.res, St.set_other _ _ (by have := h.lo; omega)]⟩
theorem Like.get {a b : St} (h : Like a b) {n : Nat} (hn : n < a.next) {r : Res} (hr : a.res n = some r) : b.res n = some r := by rw [h.same n hn]; exact hr
theorem WF.lt {σ : St} (wf : WF σ) {n : Nat} {r : Res} (h : σ.res n = some r) : n < σ.next := by
  rcases Nat.lt_or_ge n σ.next with h' | h'
  · exact h'
  · rw [wf n h'] at h; cases h
/-- what is left behind a call may be told as it is, but for names that nobody knows -/
theorem Gv.like {σ0 τ ρ : St} {x : AV} (h : Like ρ τ) (hn : ρ.next = σ0.next) (hx : x.nb σ0.next) (hr : ∀ n r, ρ.res n = some r → n < σ0.next ∧ (σ0.res n = some r ∨ r.nb σ0.next)) : Gv σ0 x τ x ρ :=
  .cut (Nat.le_of_eq hn.symm) (by rw [hn]; exact hx) (fun n r hnr => by
    obtain ⟨h1, h2⟩ := hr n r hnr
    refine ⟨by rw [h.same n (by omega)]; exact hnr, ?_⟩
    rcases h2 with h2 | h2
    · exact .inl h2
    · exact .inr ⟨by omega, by rw [hn]; exact h2⟩)

theorem u64w {n : Nat} (h : n < 18446744073709551616) : IntKind.u64.wrap (n : Int) = (n : Int) := by
  simp [IntKind.wrap, IntKind.bits, IntKind.signed]; omega
theorem tmodN (a b : Nat) : ((a : Int)).tmod (b : Int) = ((a % b : Nat) : Int) := rfl
theorem tdivN (a b : Nat) : ((a : Int)).tdiv (b : Int) = ((a / b : Nat) : Int) := rfl

theorem Wk.tup2r {a b c : AV} (h : Wk b c) : Wk (.tup [a, b]) (.tup [a, c]) := fun κ w v hv => by
  obtain ⟨u, rfl, hu⟩ := hv.tup_inv
  cases hu with
  | cons v1 x1 vs xs h1 t =>
    cases t with
    | cons v2 x2 vs2 xs2 h2 t2 => exact .tup _ _ (.cons _ _ _ _ h1 (.cons _ _ _ _ (h κ w v2 h2) t2))

theorem inc64' {i n : Nat} (h : i < n) (hn : n ≤ 4611686018427387904) : IntKind.i64.wrap ((i : Int) + 1) = ((i + 1 : Nat) : Int) := by
  rw [wrap64 (by omega) (by omega)]; omega

/-- a named end, and what was there ahead of it -/
structure Tq (σ t : St) (g k : Nat) : Prop where
  like : Like σ t
  at_ : t.res g = some (.tip k)
  lo : σ.next ≤ g
  hi : g < t.next
theorem Tq.ats {σ t : St} {g k : Nat} (h : Tq σ t g k) : ∀ n, (t.up n).res g = some (.tip k) := fun _ => h.at_
theorem Tq.up {σ t : St} {g k : Nat} (h : Tq σ t g k) (n : Nat) : Tq σ (t.up n) g k := ⟨h.like.up n, h.at_, h.lo, Nat.lt_of_lt_of_le h.hi (Nat.le_add_right _ _)⟩
theorem Tq.new {σ t : St} (h : Like σ t) {n i : Nat} (hi : i < n) (k : Nat) : Tq σ ((t.up n).set (t.next + i) (.tip k)) (t.next + i) k :=
  ⟨(h.up n).set _ (by have := h.next; omega), by simp, by have := h.next; omega, by simp; omega⟩
theorem Tq.app {σ t : St} {g k : Nat} (h : Tq σ t g k) {n i : Nat} (hi : i < n) : Tq σ (((t.up n).del g).set (t.next + i) (.tip k)) (t.next + i) k :=
  ⟨((h.like.up n).del h.lo).set _ (by have := h.like.next; omega), by simp, by have := h.like.next; omega, by simp; omega⟩
theorem Tq.box {σ t : St} {g k : Nat} (h : Tq σ t g k) {n i : Nat} (hi : i < n) (r : Res) : Tq σ ((t.up n).set (t.next + i) r) g k :=
  ⟨(h.like.up n).set _ (by have := h.like.next; omega), by rw [St.set_other _ _ (by have := h.hi; omega)]; exact h.at_, h.lo, by have := h.hi; simp; omega⟩
theorem Tq.one {σ t : St} {g k : Nat} (h : OneTip σ t g k) : Tq σ t g k := ⟨.one h, h.at_, h.lo, h.hi⟩
theorem Tq.trans {σ t u : St} {g k : Nat} (h : Like σ t) (q : Tq t u g k) : Tq σ u g k := ⟨h.trans q.like, q.at_, Nat.le_trans h.next q.lo, q.hi⟩
theorem Like.quiet {σ t : St} (wf : WF σ) (h : Like σ t) : ∀ n x, σ.res n = some x → t.res n = some x := fun _ _ hx => h.get (wf.lt hx) hx
theorem Tq.quiet {σ t : St} {g k : Nat} (wf : WF σ) (h : Tq σ t g k) : ∀ n x, σ.res n = some x → t.res n = some x := h.like.quiet wf
theorem Like.box {σ t : St} (h : Like σ t) {n i : Nat} (r : Res) : Like σ ((t.up n).set (t.next + i) r) := (h.up n).set _ (by have := h.next; omega)
/-- how long what is appended to may grow -/
theorem app_le {a b : Nat} (h : a + b ≤ 1099511627776) : decide ((a + b) * 1 ≤ 70368744177664 ∧ a + b ≤ 4611686018427387904) = true := decide_eq_true (by omega)
theorem Tq.mv {σ t : St} {g k : Nat} (h : Tq σ t g k) {g2 : Nat} (lo : σ.next ≤ g2) (hi : g2 < t.next) : Tq σ ((t.del g).set g2 (.tip k)) g2 k :=
  ⟨(h.like.del h.lo).set _ lo, by simp, lo, hi⟩
theorem Tq.in_ {σ s t : St} {g k n : Nat} (h : Like σ s) (o : OneTip (s.up n) t g k) : Tq σ t g k := Tq.trans (h.up n) (Tq.one o)
theorem OneTip.nx {s t : St} {g k n i : Nat} (o : OneTip (s.up n) t g k) (hi : i < n) : s.next + i < t.next := by have := o.lo; have := o.hi; simp at *; omega

/-- a named end, and an owned thing -/
structure Tb (σ t : St) (g k a : Nat) (r : Res) : Prop where
  q : Tq σ t g k
  b : t.res a = some r
  lt : a < t.next
  ne : a ≠ g
theorem Tb.bs {σ t : St} {g k a : Nat} {r : Res} (h : Tb σ t g k a r) : ∀ n, (t.up n).res a = some r := fun _ => h.b
theorem Tb.app {σ t : St} {g k a : Nat} {r : Res} (h : Tb σ t g k a r) {n i : Nat} (hi : i < n) : Tb σ (((t.up n).del g).set (t.next + i) (.tip k)) (t.next + i) k a r :=
  ⟨h.q.app hi, by
    have := h.lt
    rw [St.set_other _ _ (by omega)]
    have hne := h.ne
    simp only [St.del, if_neg hne]; exact h.b, by have := h.lt; simp; omega, by have := h.lt; omega⟩
theorem Tq.tb {σ t : St} {g k : Nat} (q : Tq σ t g k) {n i : Nat} (hi : i < n) (r : Res) : Tb σ ((t.up n).set (t.next + i) r) g k (t.next + i) r :=
  ⟨q.box hi r, by simp, by simp; omega, by have := q.hi; omega⟩

/-- what a call leaves: what it has set of one old thing, and names that nobody knows -/
theorem Fin.likeset {σ0 : St} {rs : List RX} {K : AV → St → Prop} {ρ : List AV} {σ : St} {xs : List AV} {y : AV} {n : Nat} {r0 r : Res} (wf : WF σ0) (h1 : rvals ρ σ rs = some xs) (hw : Wk (pack xs) y) (hL : Like (σ0.set n r) σ) (hn : σ0.res n = some r0) (hx : y.nb σ0.next) (hr : r.nb σ0.next) (h2 : K y (σ0.set n r)) : Fin σ0 rs K .ret ρ σ :=
  ⟨ρ, σ, xs, y, σ0.set n r, .refl, h1, (Gv.wk hw).trans (.like hL rfl hx (fun m q hm => by
    by_cases e : m = n
    · subst e
      rw [St.set_same] at hm
      simp only [Option.some.injEq] at hm; subst hm
      exact ⟨wf.lt hn, .inr hr⟩
    · rw [St.set_other _ _ e] at hm
      exact ⟨wf.lt hm, .inl hm⟩)), h2⟩
theorem nb_rd (m : Nat) (l : List UInt8) (a b : Int) : (rd l .none a b).nb m := ⟨⟨nb_bytes _ _, trivial⟩, trivial, trivial, trivial⟩
end Go.VL
