/- Contracts: the bytes of texts and spans. -/
import Derived.Test.YtlbnimbgodmagaaVrC
import Derived.Test.YtlbnimbgodmagaaGd
import Derived.Test.YtlbnimbgodmagaaVcG
namespace Go.VL
open Go.Proofs

def textB (s : List UInt8) : List UInt8 := beB 2 s.length ++ s
theorem textB_len (s : List UInt8) : (textB s).length = s.length + 2 := by simp [textB, beB_len]; omega
/-- the numbers of a span, as they are put -/
def spanN (s : Sp) : List Nat := [s.tr, s.id, s.st.toNat, s.en.toNat]
def spanB (s : Sp) : List UInt8 := runB (spanN s) ++ textB s.da
theorem spanB_len (s : Sp) : (spanB s).length = s.da.length + 34 := by simp [spanB, runB_len, spanN, textB_len]; omega
def spansB (l : List Sp) : List UInt8 := beB 2 l.length ++ l.flatMap spanB

theorem wtext_ok {l s : List UInt8} {g g' : Ver} {σ : St} (hl : l.length ≤ 1000000000) (hs : s.length ≤ 65535) :
    ACalls Try.prog n_wtext [.sl (bytesAV l) g, .sl (bytesAV s) g'] σ (fun v σ' => v = .tup [.sl (bytesAV (l ++ textB s)) .none, .nili] ∧ σ' = σ) := by
  refine s_wtext (fun wf => ?_)
  unfold c_wtext
  have e1 : decide ((s.length : Int) > 65535) = false := decide_eq_false (by omega)
  refine T.seq_k (fun K_h0 h0 => ?_)
  refine T.regi hm ?_
  simp only [↓reduceIte, namesOf, List.any, I.names, aopsI, astep, ev, setd, List.set, List.cons_append, List.nil_append, List.length_cons, List.length_nil, List.replicate, then_normal, Bool.or_false, Bool.false_eq_true, up_zero, Nat.reduceAdd, Nat.reduceSub]
  refine h0 _ _ ?_
  try clear h0 K_h0
  refine T.seq_k (fun K_h1 h1 => ?_)
  refine T.seq_k (fun K_h0 h0 => ?_)
  refine T.regi hm ?_
  simp only [↓reduceIte, namesOf, List.any, I.names, aopsI, astep, ev, setd, List.set, List.getD, List.getElem?_cons_zero, List.getElem?_cons_succ, then_normal, Option.getD_some, Bool.or_false, Bool.false_eq_true, up_zero, binv, ↓opt_def, eq_self, bytesAV_len, e1]
  refine h0 _ _ ?_
  try clear h0 K_h0
  refine T.cond rfl (fun h => by cases h) (fun _ => T.skip ?_)
  refine h1 _ _ ?_
  try clear h1 K_h1
  have e2 := u64w (n := s.length) (by omega)
  refine T.seq_k (fun K_h1 h1 => ?_)
  refine T.regi hm ?_
  simp only [↓reduceIte, namesOf, List.any, I.names, aopsI, astep, ev, setd, List.set, List.getD, List.getElem?_cons_zero, List.getElem?_cons_succ, then_normal, Option.getD_some, Bool.or_false, Bool.false_eq_true, up_zero, ↓opt_def, List.map_cons, List.map_nil, bytesAV_len, e2]
  refine (wput_ok (w := 2) (by omega) rfl (fun _ => by omega)).mono ?_
  rintro v σ1 ⟨h, o1, rfl⟩
  try simp only [List.getElem?_cons_zero, List.getElem?_cons_succ]
  refine h1 _ _ ?_
  try clear h1 K_h1
  have hat := (Tq.one o1).ats
  have hle : decide ((l.length + 2 + s.length) * 1 ≤ 70368744177664 ∧ l.length + 2 + s.length ≤ 4611686018427387904) = true := app_le (by omega)
  refine T.seq_k (fun K_h1 h1 => ?_)
  refine T.regi hm ?_
  simp only [↓reduceIte, namesOf, List.any, I.names, aopsI, astep, ev, setd, List.set, List.getD, List.getElem?_cons_zero, List.getElem?_cons_succ, List.length_cons, List.length_nil, then_normal, Option.getD_some, Bool.or_false, Bool.or_true, Nat.reduceAdd, eq_self, srcOf, bytesAV_er, bytesAV_app, bytes_all, bytesAV_len, List.length_append, Bool.and_self, hat, beB_len, hle]
  refine h1 _ _ ?_
  try clear h1 K_h1
  have q := (Tq.one o1).app (n := 6) (i := 2) (by omega)
  refine T.ret (Fin.quietw rfl (Wk.tup2 (Wk.sl _ _)) ⟨⟨nb_bytes _ _, trivial⟩, trivial, trivial⟩ (q.quiet wf) ⟨?_, rfl⟩)
  rw [textB, List.append_assoc]; rfl

theorem mayI_facts {s e n : Int} (h : mayI s e n = true) : 0 ≤ s ∧ s ≤ e ∧ e ≤ 1099511627776 ∧ n ≤ 64 := by
  unfold mayI at h; simpa using h
theorem mayS_facts {s : Sp} (h : mayS s = true) : 0 ≤ s.st ∧ s.st ≤ s.en ∧ s.en ≤ 1099511627776 ∧ s.da.length ≤ 64 := by
  have := mayI_facts h; omega

/-- a span whose Ids are words -/
def Sp.wd (s : Sp) : Prop := s.tr < 18446744073709551616 ∧ s.id < 18446744073709551616

set_option maxRecDepth 10000 in
set_option maxHeartbeats 1000000 in
theorem sput1_ok {s : Sp} {σ : St} (hm : mayS s = true) :
    ACalls Try.prog n_sput1 [.agg [.int .u64 (s.tr : Int), .int .u64 (s.id : Int), .int .i64 s.st, .int .i64 s.en, .sl (bytesAV s.da) .none]] σ (fun v σ' => v = .tup [.sl (bytesAV (spanB s)) .none, .nili] ∧ σ' = σ) := by
  refine s_sput1 (fun wf => ?_)
  unfold c_sput1
  obtain ⟨m1, m2, m3, m4⟩ := mayS_facts hm
  have hm := VL.hm
  refine T.seq_k (fun K_h1 h1 => ?_)
  refine T.regi hm ?_
  simp only [↓reduceIte, namesOf, List.any, I.names, aopsI, astep, ev, setd, List.set, List.getD, List.getElem?_cons_zero, List.cons_append, List.nil_append, List.length_cons, List.length_nil, List.replicate, then_normal, Option.getD_some, Bool.or_false, Bool.false_eq_true, Nat.reduceAdd, Nat.reduceSub, AV.isAny, AV.cells, eq_self]
  have k0 : Like σ ((σ.up 3).set (σ.next + 0) (.obj [.int .u64 (s.tr : Int), .int .u64 (s.id : Int), .int .i64 s.st, .int .i64 s.en, .sl (bytesAV s.da) .none])) := (Like.refl σ).box _
  have hb : ((σ.up 3).set (σ.next + 0) (.obj [.int .u64 (s.tr : Int), .int .u64 (s.id : Int), .int .i64 s.st, .int .i64 s.en, .sl (bytesAV s.da) .none])).res (σ.next + 0) = some (.obj [.int .u64 (s.tr : Int), .int .u64 (s.id : Int), .int .i64 s.st, .int .i64 s.en, .sl (bytesAV s.da) .none]) := by simp
  generalize ((σ.up 3).set (σ.next + 0) (.obj [.int .u64 (s.tr : Int), .int .u64 (s.id : Int), .int .i64 s.st, .int .i64 s.en, .sl (bytesAV s.da) .none])) = τ at k0 hb ⊢
  generalize σ.next + 0 = a at hb ⊢
  refine h1 _ _ ?_
  try clear h1 K_h1
  refine T.seq_k (fun K_h0 h0 => ?_)
  refine T.regi hm ?_
  simp only [↓reduceIte, namesOf, List.any, I.names, aopsI, astep, ev, setd, List.set, then_normal, Bool.or_false, Bool.false_eq_true, up_zero]
  refine h0 _ _ ?_
  try clear h0 K_h0
  refine T.seq_k (fun K_h1 h1 => ?_)
  have e1 : IntKind.u64.wrap s.st = ((s.st.toNat : Nat) : Int) := by
    have := u64w (n := s.st.toNat) (by omega)
    rw [Int.toNat_of_nonneg m1] at this
    rw [this, Int.toNat_of_nonneg m1]
  have e2 : IntKind.u64.wrap s.en = ((s.en.toNat : Nat) : Int) := by
    have := u64w (n := s.en.toNat) (by omega)
    rw [Int.toNat_of_nonneg (by omega)] at this
    rw [this, Int.toNat_of_nonneg (by omega)]
  have hn : [AV.int .u64 (s.tr : Int), .int .u64 (s.id : Int), .int .u64 ((s.st.toNat : Nat) : Int), .int .u64 ((s.en.toNat : Nat) : Int)] = nums .u64 (natI (spanN s)) := rfl
  have hnl : (nums .u64 (natI (spanN s))).length = 4 := rfl
  refine T.seq_k (fun K_h0 h0 => ?_)
  refine T.regi hm ?_
  simp only [↓reduceIte, namesOf, List.any, I.names, aopsI, astep, ev, setd, List.set, List.getD, List.getElem?_cons_zero, List.getElem?_cons_succ, then_normal, Option.getD_some, Bool.or_false, Bool.false_eq_true, up_zero, ↓opt_def, ldc, List.map_cons, List.map_nil, hb, e1, e2, held, hn, Nat.zero_add]
  refine h0 _ _ ?_
  try clear h0 K_h0
  refine T.block ?_
  refine T.gh (Gh.keep [1, 4, 19, 20, 21]) ?_
  refine T.loopi (fun i ρ t => t = τ ∧ ∃ v, ρ = [.any, .ptr a 0, .any, .any, .sl (bytesAV (runB ((spanN s).take i))) v] ++ List.replicate 14 .any ++ [.sl (nums .u64 (natI (spanN s))) .none, .int .i64 4, .int .i64 (i : Int)] ++ List.replicate 20 .any)
    4 0 (Nat.zero_le _) ⟨rfl, .nil, rfl⟩ ?_
  rintro i ρ t hi ⟨rfl, v, rfl⟩
  refine T.seq_k (fun K_h0 h0 => ?_)
  refine T.regi hm ?_
  simp only [↓reduceIte, namesOf, List.any, I.names, aopsI, astep, ev, setd, List.set, List.getD, List.getElem?_cons_zero, List.getElem?_cons_succ, List.cons_append, List.nil_append, List.replicate, then_normal, Option.getD_some, Bool.or_false, Bool.false_eq_true, up_zero, binv, ↓opt_def, eq_self]
  refine h0 _ _ ?_
  try clear h0 K_h0
  refine T.seq_k (fun K_h2 h2 => ?_)
  by_cases hil : i < 4
  case neg =>
    have : i = 4 := by omega
    subst this
    refine T.cond (b := false) (by simp [ev]) (fun h => by cases h) (fun _ => T.exit ?_)
    try simp only [List.cons_append, List.nil_append, List.replicate, then_normal, Nat.reduceAdd, inBlock_exit, then_exit]
    refine h1 _ _ ?_
    try clear h1 K_h1
    refine T.seq_k (fun K_h1 h1 => ?_)
    have ht : (spanN s).take 4 = spanN s := rfl
    rw [ht]
    refine T.regi hm ?_
    simp only [↓reduceIte, namesOf, List.any, I.names, aopsI, astep, ev, setd, List.set, List.getD, List.getElem?_cons_zero, List.getElem?_cons_succ, then_normal, Option.getD_some, Bool.or_false, Bool.false_eq_true, up_zero, Nat.reduceAdd, ↓opt_def, ldc, List.map_cons, List.map_nil, hb]
    refine (wtext_ok (by rw [runB_len]; simp [spanN]) (by omega)).mono ?_
    rintro w t2 ⟨rfl, rfl⟩
    try simp only [List.getElem?_cons_zero, List.getElem?_cons_succ]
    refine h1 _ _ ?_
    try clear h1 K_h1
    exact T.ret (Fin.quiet rfl ⟨⟨nb_bytes _ _, trivial⟩, trivial, trivial⟩ (k0.quiet wf) ⟨rfl, rfl⟩)
  refine T.cond (b := true) (by simp [ev]; omega) (fun _ => T.skip ?_) (fun h => by cases h)
  refine h2 _ _ ?_
  try clear h2 K_h2
  have hiw := inc64' hil (by omega)
  have hil' : i < (spanN s).length := hil
  have hg := natI_get hil'
  have htk := runB_take hil'
  have hlen : (runB ((spanN s).take i)).length ≤ 1000 := by rw [runB_len, List.length_take]; omega
  have hilI : (i : Int) < ((4 : Nat) : Int) := by omega
  refine T.seq_k (fun K_h2 h2 => ?_)
  refine T.block ?_
  refine T.seq_k (fun K_h0 h0 => ?_)
  refine T.regi hm ?_
  simp only [↓reduceIte, namesOf, List.any, I.names, aopsI, astep, ev, setd, List.set, List.getD, List.getElem?_cons_zero, List.getElem?_cons_succ, List.cons_append, List.nil_append, List.length_cons, List.length_nil, List.replicate, then_normal, Option.getD_some, Bool.or_false, Bool.false_eq_true, up_zero, Nat.reduceAdd, ↓opt_def, AV.cells, ldc, Int.natCast_nonneg, Int.toNat_natCast, and_true, eq_self, hnl, hg, hilI]
  refine h0 _ _ ?_
  try clear h0 K_h0
  refine T.seq_k (fun K_h3 h3 => ?_)
  refine T.regi hm ?_
  simp only [↓reduceIte, namesOf, List.any, I.names, aopsI, astep, ev, setd, List.set, List.getD, List.getElem?_cons_zero, List.getElem?_cons_succ, List.cons_append, List.nil_append, List.replicate, then_normal, Option.getD_some, Bool.or_false, Bool.false_eq_true, up_zero, ↓opt_def, List.map_cons, List.map_nil]
  refine (wput_q (w := 8) (by omega) rfl (fun h => by omega)).mono ?_
  rintro w t2 ⟨rfl, rfl⟩
  rw [← htk]
  try simp only [List.getElem?_cons_zero, List.getElem?_cons_succ]
  refine h3 _ _ ?_
  try clear h3 K_h3
  refine T.seq_k (fun K_h3 h3 => ?_)
  refine T.seq_k (fun K_h0 h0 => ?_)
  refine T.regi hm ?_
  simp only [↓reduceIte, namesOf, List.any, I.names, aopsI, astep, ev, setd, List.set, List.getD, List.getElem?_cons_zero, List.getElem?_cons_succ, List.cons_append, List.nil_append, List.replicate, then_normal, Option.getD_some, Bool.or_false, Bool.false_eq_true, up_zero, eq_self, eqIv, bne_self_eq_false]
  refine h0 _ _ ?_
  try clear h0 K_h0
  refine T.cond rfl (fun h => by cases h) (fun _ => T.skip ?_)
  refine h3 _ _ ?_
  try clear h3 K_h3
  refine T.regi hm ?_
  simp only [↓reduceIte, namesOf, List.any, I.names, aopsI, astep, ev, setd, List.set, List.getD, List.getElem?_cons_zero, List.getElem?_cons_succ, List.cons_append, List.nil_append, List.replicate, then_normal, inBlock_normal, Option.getD_some, Bool.or_false, Bool.false_eq_true, up_zero]
  refine h2 _ _ ?_
  try clear h2 K_h2
  refine T.regi hm ?_
  simp only [↓reduceIte, namesOf, List.any, I.names, aopsI, astep, ev, setd, List.set, List.getD, List.getElem?_cons_zero, List.getElem?_cons_succ, List.cons_append, List.nil_append, List.replicate, then_normal, Option.getD_some, Bool.or_false, Bool.false_eq_true, up_zero, binv, ↓opt_def, eq_self, hiw]
  exact ⟨hil, _, _, Gh.keep [1, 4, 19, 20, 21], rfl, .none, rfl⟩
end Go.VL
