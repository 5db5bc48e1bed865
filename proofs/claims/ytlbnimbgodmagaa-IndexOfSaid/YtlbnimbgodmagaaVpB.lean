/- Contracts: numbers as bytes. -/
import Derived.Test.YtlbnimbgodmagaaVpA
namespace Go.VL
open Go.Proofs

def g_right : List AV → Option AV
  | [.int .i64 w] => some (.bool (rightB w))
  | _ => none
theorem right_pure : PureC Try.prog n_right g_right := by
  intro args σ v h
  unfold g_right at h
  split at h
  · simp only [Option.some.injEq] at h; subst h; exact right_ok
  · cases h

def t1 : Tbl := [(n_right, g_right)]
theorem t1_ok : t1.ok Try.prog := Tbl.ok_cons right_pure Tbl.ok_nil

/-- a number's bytes, the highest first -/
def beB : Nat → Nat → List UInt8
  | 0, _ => []
  | w + 1, n => beB w (n / 256) ++ [UInt8.ofNat (n % 256)]
theorem beB_len : ∀ (w n : Nat), (beB w n).length = w
  | 0, _ => rfl
  | w + 1, n => by simp [beB, beB_len w]

theorem shr_byte (n i : Nat) (hi : i ≤ 8) : IntKind.u8.wrap (Int.fdiv (n : Int) (2 ^ min (8 * (i : Int)).toNat IntKind.u64.bits)) = ((UInt8.ofNat (n / 256 ^ i % 256)).toNat : Int) := by
  have h1 : min (8 * (i : Int)).toNat IntKind.u64.bits = 8 * i := by
    have : (8 * (i : Int)).toNat = 8 * i := by omega
    rw [this]; simp [IntKind.bits]; omega
  rw [h1]
  have h2 : (2 : Int) ^ (8 * i) = ((256 ^ i : Nat) : Int) := by
    rw [show (256 : Nat) = 2 ^ 8 from rfl, ← Nat.pow_mul]; simp
  rw [h2, Int.fdiv_eq_ediv_of_nonneg _ (Int.natCast_nonneg _), ← Int.natCast_ediv]
  simp [IntKind.wrap, IntKind.bits, IntKind.signed]

theorem shr_zero (n w : Nat) (hw : w ≤ 8) : (Int.fdiv (n : Int) (2 ^ min (8 * (w : Int)).toNat IntKind.u64.bits) != 0) = !decide (n / 256 ^ w = 0) := by
  have h1 : min (8 * (w : Int)).toNat IntKind.u64.bits = 8 * w := by
    have : (8 * (w : Int)).toNat = 8 * w := by omega
    rw [this]; simp [IntKind.bits]; omega
  rw [h1]
  have h2 : (2 : Int) ^ (8 * w) = ((256 ^ w : Nat) : Int) := by
    rw [show (256 : Nat) = 2 ^ 8 from rfl, ← Nat.pow_mul]; simp
  rw [h2, Int.fdiv_eq_ediv_of_nonneg _ (Int.natCast_nonneg _), ← Int.natCast_ediv]
  by_cases h : n / 256 ^ w = 0
  · rw [h]; rfl
  · rw [decide_eq_false h]
    have : ((n / 256 ^ w : Nat) : Int) ≠ 0 := by omega
    simpa using this

theorem byte1 (b : UInt8) : [AV.int .u8 (b.toNat : Int)] = bytesAV [b] := rfl
theorem bytesAV_app (x y : List UInt8) : bytesAV x ++ bytesAV y = bytesAV (x ++ y) := by simp [bytesAV]
theorem bytesAV_len (x : List UInt8) : (bytesAV x).length = x.length := by simp [bytesAV]
theorem bytesAV_er (x : List UInt8) : (bytesAV x).map AV.er = bytesAV x := by
  simp only [bytesAV, List.map_map]; rfl
theorem fits_byte (b : UInt8) : AV.fits 1 (.int .u8 (b.toNat : Int)) = true := rfl

/-- what word.Put comes to -/
theorem wput_ok {l : List UInt8} {g : Ver} {w n : Nat} {σ : St} (hl : l.length ≤ 1099511627776) (hw : rightB w = true) (hn : w < 8 → n / 256 ^ w = 0) :
    ACalls Try.prog n_wput [.sl (bytesAV l) g, .int .i64 w, .int .u64 n] σ (fun v σ' => ∃ h, OneTip σ σ' h 1 ∧ v = .tup [.sl (bytesAV (l ++ beB w n)) (.tip h), .nili]) := by
  have hw8 : w ≤ 8 := by simp [rightB] at hw; omega
  have hw1 : 1 ≤ w := by simp [rightB] at hw; omega
  refine s_wput (fun wf => ?_)
  unfold c_wput
  refine T.seq_k (fun K_h1 h1 => ?_)
  refine T.regi hm ?_
  simp only [↓reduceIte, namesOf, List.any, I.names, aopsI, astep, ev, setd, List.set, List.cons_append, List.nil_append, List.length_cons, List.length_nil, List.replicate, then_normal, Bool.or_false, Bool.false_eq_true, up_zero, Nat.reduceAdd, Nat.reduceSub]
  refine h1 _ _ ?_
  try clear h1 K_h1
  refine T.seq_k (fun K_h1 h1 => ?_)
  refine T.seq_k (fun K_h2 h2 => ?_)
  have main : ∀ ρ, keep [0, 1, 2] 0 ρ = [.sl (bytesAV l) g, .int .i64 w, .int .u64 n] ++ List.replicate 40 .any → K_h1 ρ σ := by
    intro ρ hρ
    refine h1 _ _ (T.gh (Gh.keep [0, 1, 2]) ?_)
    rw [hρ]
    clear h1 hρ h2 ρ
    refine T.seq_k (fun K_h1 h1 => ?_)
    refine T.regi hm ?_
    simp only [↓reduceIte, namesOf, List.any, I.names, aopsI, astep, ev, setd, List.set, List.getD, List.getElem?_cons_zero, List.getElem?_cons_succ, List.cons_append, List.nil_append, List.length_cons, List.length_nil, List.replicate, then_normal, Option.getD_some, Bool.or_false, Bool.or_true, Nat.reduceAdd, List.map_nil, St.set_same, eq_self, held, srcOf, St.set_same, bytesAV_er, bytes_all, List.all_nil, Bool.true_and]
    rw [if_pos (by simp only [bytesAV_len, decide_eq_true_eq]; omega)]
    have o1 : OneTip σ ((((σ.up 4).set (σ.next + 0) (Res.tip 1)).del (σ.next + 0)).set (σ.next + 2) (Res.tip 1)) (σ.next + 2) 1 :=
      (OneTip.new (n := 4) (i := 0) (by omega)).mv wf (by omega) (by simp)
    generalize ((((σ.up 4).set (σ.next + 0) (Res.tip 1)).del (σ.next + 0)).set (σ.next + 2) (Res.tip 1)) = σ1 at o1 ⊢
    generalize σ.next + 2 = g1 at o1 ⊢
    refine h1 _ _ ?_
    try clear h1 K_h1
    refine T.seq_k (fun K_h1 h1 => ?_)
    refine T.seq_k (fun K_h2 h2 => ?_)
    have e1 : IntKind.i64.wrap ((w : Int) - 1) = (w : Int) - 1 := wrap64 (by omega) (by omega)
    refine T.regi hm ?_
    simp only [↓reduceIte, namesOf, List.any, I.names, aopsI, astep, ev, setd, List.set, List.getD, List.getElem?_cons_zero, List.getElem?_cons_succ, then_normal, Option.getD_some, Bool.or_false, Bool.false_eq_true, up_zero, binv, ↓opt_def, eq_self, e1]
    refine h2 _ _ ?_
    try clear h2 K_h2
    refine T.block ?_
    refine T.gh (Gh.keep [0, 1, 2, 8, 9]) ?_
    refine T.loop (fun ρ σ' => ∃ (i g1 : Nat), i ≤ w ∧ OneTip σ σ' g1 1 ∧ ρ = [.sl (bytesAV l) g, .int .i64 w, .int .u64 n, .any, .any, .any, .any, .any, .sl (bytesAV (l ++ beB (w - i) (n / 256 ^ i))) (.tip g1), .int .i64 ((i : Int) - 1)] ++ List.replicate 33 .any)
      (fun ρ _ => match ρ.getD 9 .any with | .int _ m => (m + 1).toNat | _ => 0) ⟨w, g1, Nat.le_refl _, o1, ?_⟩ ?_
    · simp only [Nat.sub_self, beB, List.append_nil]; rfl
    clear o1
    rintro ρ σ' ⟨i, g1, hi, o1, rfl⟩
    refine T.seq_k (fun K_h2 h2 => ?_)
    refine T.seq_k (fun K_h3 h3 => ?_)
    refine T.regi hm ?_
    simp only [↓reduceIte, namesOf, List.any, I.names, aopsI, astep, ev, setd, List.set, List.getD, List.getElem?_cons_zero, List.getElem?_cons_succ, List.cons_append, List.nil_append, List.replicate, then_normal, Option.getD_some, Bool.or_false, Bool.false_eq_true, up_zero, binv, ↓opt_def, eq_self]
    refine h3 _ _ ?_
    try clear h3 K_h3
    refine T.cond rfl (fun hb => ?_) (fun hb => ?_)
    · refine T.skip ?_
      refine h2 _ _ ?_
      try clear h2 K_h2
      obtain ⟨i, rfl⟩ : ∃ j, i = j + 1 := ⟨i - 1, by simp at hb; omega⟩
      have e0 : ((i + 1 : Nat) : Int) - 1 = (i : Int) := by omega
      have e3 : IntKind.i64.wrap (8 * (i : Int)) = 8 * (i : Int) := wrap64 (by omega) (by omega)
      have e4 : ¬ (8 * (i : Int) < 0) := by omega
      have e5 := shr_byte n i (by omega)
      rw [e0]
      clear hb
      refine T.seq_k (fun K_h2 h2 => ?_)
      refine T.block ?_
      refine T.regi hm ?_
      simp only [↓reduceIte, namesOf, List.any, I.names, aopsI, astep, ev, setd, List.set, List.getD, List.getElem?_cons_zero, List.getElem?_cons_succ, List.cons_append, List.nil_append, List.length_cons, List.length_nil, List.replicate, then_normal, inBlock_normal, Option.getD_some, Bool.or_false, Bool.or_true, Nat.reduceAdd, binv, ↓opt_def, List.map_cons, List.map_nil, Int.natCast_nonneg, eq_self, decide_true, er_int, List.all_cons, held, srcOf, o1.at_, bytes_all, List.all_nil, Bool.true_and, e3, e4, e5, fits_byte, List.all_append, St.up_res]
      have hlen : (beB (w - (i + 1)) (n / 256 ^ (i + 1))).length ≤ 8 := by rw [beB_len]; omega
      rw [if_pos (by simp only [bytesAV_len, List.length_append, decide_eq_true_eq]; omega)]
      have o2 : OneTip σ (((σ'.up 9).del g1).set (σ'.next + 7) (Res.tip 1)) (σ'.next + 7) 1 := (o1.up 9).mv wf (by have := o1.lo; have := o1.hi; omega) (by simp)
      generalize (((σ'.up 9).del g1).set (σ'.next + 7) (Res.tip 1)) = σ2 at o2 ⊢
      generalize σ'.next + 7 = g2 at o2 ⊢
      have e6 : beB (w - (i + 1)) (n / 256 ^ (i + 1)) ++ [UInt8.ofNat (n / 256 ^ i % 256)] = beB (w - i) (n / 256 ^ i) := by
        rw [show w - i = w - (i + 1) + 1 by omega, beB, Nat.pow_succ, Nat.div_div_eq_div_mul]
      rw [byte1, bytesAV_app, List.append_assoc, e6]
      refine h2 _ _ ?_
      try clear h2 K_h2
      have e7 : IntKind.i64.wrap ((i : Int) - 1) = (i : Int) - 1 := wrap64 (by omega) (by omega)
      refine T.regi hm ?_
      simp only [↓reduceIte, namesOf, List.any, I.names, aopsI, astep, ev, setd, List.set, List.getD, List.getElem?_cons_zero, List.getElem?_cons_succ, List.cons_append, List.nil_append, List.replicate, then_normal, Option.getD_some, Bool.or_false, Bool.false_eq_true, up_zero, binv, ↓opt_def, eq_self, e7]
      refine ⟨_, _, Gh.keep [0, 1, 2, 8, 9], ⟨i, g2, by omega, o2, rfl⟩, ?_⟩
      show ((i : Int) - 1 + 1).toNat < ((i : Int) + 1).toNat
      omega
    · refine T.exit ?_
      have : i = 0 := by simp at hb; omega
      subst this
      try simp only [List.getD, List.getElem?_cons_zero, List.getElem?_cons_succ, List.cons_append, List.nil_append, List.replicate, Option.getD_some]
      refine h1 _ _ ?_
      try clear h1 K_h1
      refine T.seq_k (fun K_h1 h1 => ?_)
      refine T.regi hm ?_
      simp only [↓reduceIte, namesOf, List.any, I.names, aopsI, astep, ev, setd, List.set, List.getD, List.getElem?_cons_zero, List.getElem?_cons_succ, then_normal, Option.getD_some, Bool.or_false, Bool.false_eq_true, up_zero]
      refine h1 _ _ ?_
      try clear h1 K_h1
      refine T.ret (Fin.ret rfl ⟨g1, o1, ?_⟩)
      simp [pack]
  by_cases h8 : w < 8
  · have e1 : decide ((w : Int) < 8) = true := by simp; omega
    have e2 := shr_zero n w hw8
    rw [hn h8] at e2
    simp only [decide_true, Bool.not_true] at e2
    have e3 : IntKind.i64.wrap (8 * (w : Int)) = 8 * (w : Int) := wrap64 (by omega) (by omega)
    have e4 : ¬ (8 * (w : Int) < 0) := by omega
    refine T.regt hm t1_ok ?_
    simp only [↓reduceIte, namesOf, List.any, I.names, aopsT, qstep, CPt, Tbl.get, astep, ev, setd, List.set, List.getD, List.getElem?_cons_zero, List.getElem?_cons_succ, then_normal, Option.getD_some, Bool.or_false, Bool.false_eq_true, up_zero, binv, ↓opt_def, List.map_cons, List.map_nil, eq_self, t1, g_right, hw, Bool.not_true, e1, e3, e4, e2]
    refine h2 _ _ ?_
    try clear h2 K_h2
    refine T.cond rfl (fun hb => by cases hb) (fun hb => ?_)
    exact T.skip (main _ rfl)
  · have e1 : decide ((w : Int) < 8) = false := by simp; omega
    refine T.regt hm t1_ok ?_
    simp only [↓reduceIte, namesOf, List.any, I.names, aopsT, qstep, CPt, Tbl.get, astep, ev, setd, List.set, List.getD, List.getElem?_cons_zero, List.getElem?_cons_succ, then_normal, Option.getD_some, Bool.or_false, Bool.false_eq_true, up_zero, binv, ↓opt_def, List.map_cons, List.map_nil, eq_self, t1, g_right, hw, Bool.not_true, e1]
    refine h2 _ _ ?_
    try clear h2 K_h2
    refine T.cond rfl (fun hb => by cases hb) (fun hb => ?_)
    exact T.skip (main _ rfl)
end Go.VL
