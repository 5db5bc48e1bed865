/- Texts put together, of these what the theorem needs: Numbers written: strconv.FormatUint to the bases 16 and 10. Numbers below a thousand written, to the base 10. FormatUint, strings.Repeat of a zero, digits: a number with leading zeros. Names of objects: meta.Name, and the document's. Contracts: canonical traces. Contracts: the document's gathering. Contracts: spans out of bytes. A page out of bytes: what is told of it, and readers moved with their bytes. Metas: are they the same, do they rise? (ref 14, ref 19) May a meta, and a marker, be? A marker's bytes. The value logic: a slice that is appended to, again and again. What has run out, and expire.Mark. The compiled code of functions of this seat. MADE BY PROGRAM (mkc.py). The compiled code of functions of this seat. MADE BY PROGRAM (mkc.py). Contracts: the document's answers for a meta that may be, a marker's bytes, what has run out (ref11 May, Bare; ref19 Out). -/
import Derived.Test.YtnifkggcldalbaaDoorKExpireMarksCard4
import Derived.Test.YtnifkggcldalbaaDoorChecked

set_option linter.unusedSimpArgs false
set_option linter.unusedVariables false

namespace Go.VL

open Go.Proofs

def deB64 : List AV := ([0, 1, 56, 2, 57, 49, 28, 3, 61, 58, 42, 50, 38, 29, 17, 4, 62, 47, 59, 36, 45, 43, 51, 22, 53, 39, 33, 30, 24, 18, 12, 5, 63, 55, 48, 27, 60, 41, 37, 16, 46, 35, 44, 21, 52, 32, 23, 11, 54, 26, 40, 15, 34, 20, 31, 10, 25, 14, 19, 9, 13, 8, 7, 6] : List Int).map (.int .u8)

def pow10L : List AV := (List.range 20).map fun i => .int .u64 ((10 ^ i : Nat) : Int)

/-- the tables that numbers are written by are there -/
structure Tabs (σ : St) : Prop where
  p10 : σ.res g_pow10 = some (.gl g_pow10 pow10L)
  d64 : σ.res g_deB64 = some (.gl g_deB64 deB64)

theorem Tabs.mono {σ t : St} (h : Tabs σ) (hq : ∀ n r, σ.res n = some r → t.res n = some r) : Tabs t := ⟨hq _ _ h.p10, hq _ _ h.d64⟩

theorem Tabs.like {σ t : St} (h : Tabs σ) (wf : WF σ) (hL : Like σ t) : Tabs t := h.mono (hL.quiet wf)

theorem u64_mask {a k : Nat} (hk : k ≤ 63) (ha : a < 18446744073709551616) : IntKind.u64.wrap ((BitVec.ofInt IntKind.u64.bits (a : Int) &&& BitVec.ofInt IntKind.u64.bits ((2 ^ k - 1 : Nat) : Int)).toNat : Int) = ((a % 2 ^ k : Nat) : Int) := by
  have h2 : 2 ^ k ≤ 2 ^ 63 := Nat.pow_le_pow_right (by omega) hk
  have h3 : 0 < 2 ^ k := Nat.two_pow_pos k
  have e : (BitVec.ofInt IntKind.u64.bits (a : Int) &&& BitVec.ofInt IntKind.u64.bits ((2 ^ k - 1 : Nat) : Int)).toNat = a % 2 ^ k := by
    show (BitVec.ofInt 64 (a : Int) &&& BitVec.ofInt 64 ((2 ^ k - 1 : Nat) : Int)).toNat = a % 2 ^ k
    rw [BitVec.ofInt_natCast, BitVec.ofInt_natCast, BitVec.toNat_and, BitVec.toNat_ofNat, BitVec.toNat_ofNat, Nat.mod_eq_of_lt (show a < 2 ^ 64 from ha), Nat.mod_eq_of_lt (show 2 ^ k - 1 < 2 ^ 64 by omega), Nat.and_two_pow_sub_one_eq_mod]
  rw [e]
  exact u64w (Nat.lt_of_le_of_lt (Nat.mod_le _ _) ha)

theorem u64_and15 {a : Nat} (ha : a < 18446744073709551616) : IntKind.u64.wrap ((BitVec.ofInt IntKind.u64.bits (a : Int) &&& BitVec.ofInt IntKind.u64.bits 15).toNat : Int) = ((a % 16 : Nat) : Int) := u64_mask (k := 4) (by omega) ha

theorem u64_and32 {a : Nat} (ha : a < 18446744073709551616) : IntKind.u64.wrap ((BitVec.ofInt IntKind.u64.bits (a : Int) &&& BitVec.ofInt IntKind.u64.bits 4294967295).toNat : Int) = ((a % 4294967296 : Nat) : Int) := u64_mask (k := 32) (by omega) ha

theorem u64_shr (n k : Nat) (hk : k ≤ 63) : Int.fdiv (n : Int) (2 ^ min k IntKind.u64.bits) = ((n / 2 ^ k : Nat) : Int) := by
  have h1 : min k IntKind.u64.bits = k := by simp [IntKind.bits]; omega
  have h2 : (2 : Int) ^ k = ((2 ^ k : Nat) : Int) := by simp
  rw [h1, h2, Int.fdiv_eq_ediv_of_nonneg _ (Int.natCast_nonneg _), ← Int.natCast_ediv]

theorem u64_shr4 (n : Nat) : Int.fdiv (n : Int) (2 ^ min (4 : Int).toNat IntKind.u64.bits) = ((n / 16 : Nat) : Int) := u64_shr n 4 (by omega)

theorem u64_shr32 (n : Nat) : Int.fdiv (n : Int) (2 ^ min (32 : Int).toNat IntKind.u64.bits) = ((n / 4294967296 : Nat) : Int) := u64_shr n 32 (by omega)

theorem tz64_ok {σ : St} (hT : Tabs σ) : ACalls Tryd.prog n_tz64 [.int .u64 16] σ (fun v σ' => v = .int .i64 4 ∧ σ' = σ) := by
  refine s_tz64 (fun wf => ?_)
  unfold c_tz64
  have e0 : ((16 : Int) == 0) = false := rfl
  have e1 : IntKind.u64.wrap (0 - 16) = 18446744073709551600 := by decide
  have e2 : IntKind.u64.wrap ((BitVec.ofInt IntKind.u64.bits 16 &&& BitVec.ofInt IntKind.u64.bits 18446744073709551600).toNat : Int) = 16 := by decide +kernel
  have e3 : IntKind.u64.wrap (16 * 285870213051353865) = 4573923408821661840 := by decide
  have e4 : Int.fdiv 4573923408821661840 (2 ^ min (58 : Int).toNat IntKind.u64.bits) = 15 := by decide +kernel
  have e5 : ¬ ((58 : Int) < 0) := by decide
  have e6 : (0 : Int) ≤ 15 := by decide
  have e7 : (15 : Int) < ((64 : Nat) : Int) := by decide
  have e8 : (15 : Int).toNat * 1 ≤ deB64.length := by decide
  have e9 : (List.drop ((15 : Int).toNat * 1) deB64)[0]? = some (.int .u8 4) := rfl
  have e10 : IntKind.i64.wrap 4 = 4 := by decide
  have hd := hT.d64
  refine T.seq_k (fun K_h0 h0 => ?_)
  refine T.regi hm ?_
  simp only [↓reduceIte, namesOf, List.any, I.names, aopsI, astep, ev, setd, List.set, List.cons_append, List.nil_append, List.length_cons, List.length_nil, List.replicate, then_normal, Bool.or_false, Bool.false_eq_true, up_zero, Nat.reduceAdd, Nat.reduceSub]
  refine h0 _ _ ?_
  try clear h0 K_h0
  refine T.seq_k (fun K_h1 h1 => ?_)
  refine T.seq_k (fun K_h0 h0 => ?_)
  refine T.regi hm ?_
  simp only [↓reduceIte, namesOf, List.any, I.names, aopsI, astep, ev, setd, List.set, List.getD, List.getElem?_cons_zero, List.getElem?_cons_succ, then_normal, Option.getD_some, Bool.or_false, Bool.false_eq_true, up_zero, binv, ↓opt_def, eq_self, e0]
  refine h0 _ _ ?_
  try clear h0 K_h0
  refine T.cond rfl (fun h => by cases h) (fun _ => T.skip ?_)
  refine h1 _ _ ?_
  try clear h1 K_h1
  refine T.seq_k (fun K_h0 h0 => ?_)
  refine T.regi hm ?_
  simp only [↓reduceIte, namesOf, List.any, I.names, aopsI, astep, ev, setd, List.set, List.getD, List.getElem?_cons_zero, List.getElem?_cons_succ, then_normal, Option.getD_some, Bool.or_false, Bool.false_eq_true, up_zero, binv, ↓opt_def, ldc, and_true, eq_self, e1, e2, e3, e4, e5, e6, e7, e8, e9, e10, hd]
  refine h0 _ _ ?_
  try clear h0 K_h0
  exact T.ret (Fin.ret rfl ⟨rfl, rfl⟩)

theorem tz_ok {σ : St} (hT : Tabs σ) : ACalls Tryd.prog n_tz [.int .u64 16] σ (fun v σ' => v = .int .i64 4 ∧ σ' = σ) := by
  refine s_tz (fun wf => ?_)
  unfold c_tz
  refine T.seq_k (fun K_h0 h0 => ?_)
  refine T.regi hm ?_
  simp only [↓reduceIte, namesOf, List.any, I.names, aopsI, astep, ev, setd, List.set, List.cons_append, List.nil_append, List.length_cons, List.length_nil, List.replicate, then_normal, Bool.or_false, Bool.false_eq_true, up_zero, Nat.reduceAdd, Nat.reduceSub]
  refine h0 _ _ ?_
  try clear h0 K_h0
  refine T.seq_k (fun K_h1 h1 => ?_)
  refine T.cond rfl (fun h => by cases h) (fun _ => T.skip ?_)
  refine h1 _ _ ?_
  try clear h1 K_h1
  refine T.seq_k (fun K_h1 h1 => ?_)
  refine T.regi hm ?_
  simp only [↓reduceIte, namesOf, List.any, I.names, aopsI, astep, ev, setd, List.set, List.getD, List.getElem?_cons_zero, List.getElem?_cons_succ, then_normal, Option.getD_some, Bool.or_false, Bool.false_eq_true, up_zero, List.map_cons, List.map_nil]
  refine (tz64_ok hT).mono ?_
  rintro v σ1 ⟨rfl, rfl⟩
  try simp only [↓reduceIte, namesOf, List.any, I.names, aops, aopsI, aopsT, qstep, CPt, qget, Tbl.get, astep, ev, setd, List.set, List.getD, List.getElem?_cons_zero, List.getElem?_cons_succ, List.getElem?_nil, List.cons_append, List.nil_append, List.length_cons, List.length_nil, List.replicate, then_normal, inBlock_normal, Option.getD_some, Option.getD_none, Bool.or_false, Bool.or_true, Bool.true_or, Bool.false_or, Bool.false_eq_true, if_false, if_true, up_zero, Nat.reduceAdd, Nat.reduceSub, binv, ↓opt_def, AV.isAny, AV.cells, ldc, List.map_cons, List.map_nil, St.set_next, St.set_same, St.up_next, Int.natCast_nonneg, lt_len, le_len, Int.toNat_natCast, true_and, and_true, eq_self, reduceCtorEq, decide_true, List.length_singleton, er_int, er_bool, er_str, srcR, up_zero]
  refine h1 _ _ ?_
  try clear h1 K_h1
  exact T.ret (Fin.ret rfl ⟨rfl, rfl⟩)

theorem pow2_ok {σ : St} : ACalls Tryd.prog n_pow2 [.int .i64 16] σ (fun v σ' => v = .bool true ∧ σ' = σ) := by
  refine s_pow2 (fun wf => ?_)
  unfold c_pow2
  have e1 : IntKind.i64.wrap (16 - 1) = 15 := by decide
  have e2 : (IntKind.i64.wrap ((BitVec.ofInt IntKind.i64.bits 16 &&& BitVec.ofInt IntKind.i64.bits 15).toNat : Int) == 0) = true := by decide +kernel
  refine T.seq_k (fun K_h0 h0 => ?_)
  refine T.regi hm ?_
  simp only [↓reduceIte, namesOf, List.any, I.names, aopsI, astep, ev, setd, List.set, List.cons_append, List.nil_append, List.length_cons, List.length_nil, List.replicate, then_normal, Bool.or_false, Bool.false_eq_true, up_zero, Nat.reduceAdd, Nat.reduceSub]
  refine h0 _ _ ?_
  try clear h0 K_h0
  refine T.seq_k (fun K_h0 h0 => ?_)
  refine T.regi hm ?_
  simp only [↓reduceIte, namesOf, List.any, I.names, aopsI, astep, ev, setd, List.set, List.getD, List.getElem?_cons_zero, List.getElem?_cons_succ, then_normal, Option.getD_some, Bool.or_false, Bool.false_eq_true, up_zero, binv, ↓opt_def, eq_self, e1, e2]
  refine h0 _ _ ?_
  try clear h0 K_h0
  exact T.ret (Fin.ret rfl ⟨rfl, rfl⟩)

theorem dig36_get (d : Nat) (h : d < 16) : sDig36.data.toList[d]? = some (dgc d) := by
  have : ∀ d : Nat, d < 16 → sDig36.data.toList[d]? = some (dgc d) := by decide
  exact this d h

/-- a byte written into a row of zeros, ahead of what is there -/
theorem splice_rep {z x : AV} {n : Nat} {B : List AV} : splice (List.replicate (n + 1) z ++ B) n [x] = List.replicate n z ++ x :: B := by
  unfold splice
  have e1 : (List.replicate (n + 1) z ++ B).take n = List.replicate n z := by
    rw [List.take_append_of_le_length (by simp), List.take_replicate]; congr 1; omega
  have e2 : (List.replicate (n + 1) z ++ B).drop (n + [x].length) = B := by
    rw [List.drop_append_of_le_length (by simp)]; simp
  rw [e1, e2]; simp

set_option maxRecDepth 10000 in
set_option maxHeartbeats 1000000 in
theorem fbits_ok {u : Nat} {σ : St} (hT : Tabs σ) (hu : u < 18446744073709551616) : ACalls Tryd.prog n_fbits [.sl [] .nil, .int .u64 (u : Int), .int .i64 16, .bool false, .bool false] σ
    (fun v σ' => (∃ k, 1 ≤ k ∧ k ≤ 16 ∧ u < 16 ^ k ∧ v = .tup [.sl [] .nil, .str ⟨(dg 16 k u).toArray⟩]) ∧ σ' = σ) := by
  refine s_fbits (fun wf => ?_)
  unfold c_fbits
  have e0 : decide ((16 : Int) < 2) = false := rfl
  have e1 : ((16 : Int) == 10) = false := rfl
  have e2 : decide ((16 : Int) > 36) = false := rfl
  refine T.seq_k (fun K_h0 h0 => ?_)
  refine T.regi hm ?_
  simp only [↓reduceIte, namesOf, List.any, I.names, aopsI, astep, ev, setd, List.set, List.cons_append, List.nil_append, List.length_cons, List.length_nil, List.replicate, then_normal, Bool.or_false, Bool.false_eq_true, up_zero, Nat.reduceAdd, Nat.reduceSub]
  refine h0 _ _ ?_
  try clear h0 K_h0
  refine T.seq_k (fun K_h1 h1 => ?_)
  refine T.seq_k (fun K_h0 h0 => ?_)
  refine T.regi hm ?_
  simp only [↓reduceIte, namesOf, List.any, I.names, aopsI, astep, ev, setd, List.set, List.getD, List.getElem?_cons_zero, List.getElem?_cons_succ, then_normal, Option.getD_some, Bool.or_false, Bool.false_eq_true, up_zero, binv, ↓opt_def, eq_self, e0, e1, e2]
  refine h0 _ _ ?_
  try clear h0 K_h0
  refine T.cond rfl (fun h => by cases h) (fun _ => T.skip ?_)
  refine h1 _ _ ?_
  try clear h1 K_h1
  refine T.seq_k (fun K_h0 h0 => ?_)
  refine T.regi hm ?_
  simp only [↓reduceIte, namesOf, List.any, I.names, aopsI, astep, setd, List.set, List.length_cons, List.length_nil, then_normal, Bool.or_false, Nat.reduceAdd, eq_self]
  refine h0 _ _ ?_
  try clear h0 K_h0
  have hm0 : ((σ.up 1).set (σ.next + 0) (.obj (zeros 65 (.int .u8 0)))).res (σ.next + 0) = some (.obj (zeros 65 (.int .u8 0))) := St.set_same _ _ _
  have hL0 : Like σ ((σ.up 1).set (σ.next + 0) (.obj (zeros 65 (.int .u8 0)))) := (Like.refl σ).box (n := 1) (i := 0) _
  have hlo : σ.next ≤ σ.next + 0 := by omega
  have hlt0 : σ.next + 0 < ((σ.up 1).set (σ.next + 0) (.obj (zeros 65 (.int .u8 0)))).next := by simp
  generalize ((σ.up 1).set (σ.next + 0) (.obj (zeros 65 (.int .u8 0)))) = t0 at hm0 hL0 hlt0 ⊢
  generalize σ.next + 0 = m at hm0 hlo hlt0 ⊢
  refine T.seq_k (fun K_h0 h0 => ?_)
  refine T.regi hm ?_
  simp only [↓reduceIte, namesOf, List.any, I.names, aopsI, astep, ev, setd, List.set, then_normal, Bool.or_false, Bool.false_eq_true, up_zero]
  refine h0 _ _ ?_
  try clear h0 K_h0
  refine T.seq_k (fun K_h1 h1 => ?_)
  refine T.seq_k (fun K_h0 h0 => ?_)
  refine T.regi hm ?_
  simp only [↓reduceIte, namesOf, List.any, I.names, aopsI, astep, ev, setd, List.set, List.getD, List.getElem?_cons_zero, List.getElem?_cons_succ, then_normal, Option.getD_some, Bool.or_false, Bool.false_eq_true, up_zero]
  refine h0 _ _ ?_
  try clear h0 K_h0
  refine T.cond rfl (fun h => by cases h) (fun _ => T.skip ?_)
  refine h1 _ _ ?_
  try clear h1 K_h1
  refine T.seq_k (fun K_h1 h1 => ?_)
  refine T.seq_k (fun K_h2 h2 => ?_)
  refine T.regi hm ?_
  simp only [↓reduceIte, namesOf, List.any, I.names, aopsI, astep, ev, setd, List.set, List.getD, List.getElem?_cons_zero, List.getElem?_cons_succ, then_normal, Option.getD_some, Bool.or_false, Bool.false_eq_true, up_zero, List.map_cons, List.map_nil]
  refine pow2_ok.mono ?_
  rintro v σ1 ⟨rfl, rfl⟩
  try simp only [↓reduceIte, namesOf, List.any, I.names, aops, aopsI, aopsT, qstep, CPt, qget, Tbl.get, astep, ev, setd, List.set, List.getD, List.getElem?_cons_zero, List.getElem?_cons_succ, List.getElem?_nil, List.cons_append, List.nil_append, List.length_cons, List.length_nil, List.replicate, then_normal, inBlock_normal, Option.getD_some, Option.getD_none, Bool.or_false, Bool.or_true, Bool.true_or, Bool.false_or, Bool.false_eq_true, if_false, if_true, up_zero, Nat.reduceAdd, Nat.reduceSub, binv, ↓opt_def, AV.isAny, AV.cells, ldc, List.map_cons, List.map_nil, St.set_next, St.set_same, St.up_next, Int.natCast_nonneg, lt_len, le_len, Int.toNat_natCast, true_and, and_true, eq_self, reduceCtorEq, decide_true, List.length_singleton, er_int, er_bool, er_str, srcR, up_zero]
  refine h2 _ _ ?_
  try clear h2 K_h2
  refine T.cond rfl (fun _ => ?_) (fun h => by cases h)
  have w1 : IntKind.u64.wrap 16 = 16 := by decide
  have w2 : IntKind.u64.wrap 4 = 4 := by decide
  have w3 : IntKind.u64.wrap (16 - 1) = 15 := by decide
  refine T.seq_k (fun K_h2 h2 => ?_)
  refine T.regi hm ?_
  simp only [↓reduceIte, namesOf, List.any, I.names, aopsI, astep, ev, setd, List.set, List.getD, List.getElem?_cons_zero, List.getElem?_cons_succ, then_normal, Option.getD_some, Bool.or_false, Bool.false_eq_true, up_zero, List.map_cons, List.map_nil, w1]
  refine (tz_ok (hT.like wf (hL0))).mono ?_
  rintro v σ1 ⟨rfl, rfl⟩
  try simp only [w2]
  refine h2 _ _ ?_
  try clear h2 K_h2
  refine T.seq_k (fun K_h0 h0 => ?_)
  refine T.regi hm ?_
  simp only [↓reduceIte, namesOf, List.any, I.names, aopsI, astep, ev, setd, List.set, List.getD, List.getElem?_cons_zero, List.getElem?_cons_succ, then_normal, Option.getD_some, Bool.or_false, Bool.false_eq_true, up_zero, w1]
  refine h0 _ _ ?_
  try clear h0 K_h0
  refine T.seq_k (fun K_h0 h0 => ?_)
  refine T.regi hm ?_
  simp only [↓reduceIte, namesOf, List.any, I.names, aopsI, astep, ev, setd, List.set, List.getD, List.getElem?_cons_zero, List.getElem?_cons_succ, then_normal, Option.getD_some, Bool.or_false, Bool.false_eq_true, up_zero, binv, ↓opt_def, eq_self, w1, w3]
  refine h0 _ _ ?_
  try clear h0 K_h0
  refine T.seq_k (fun K_h2 h2 => ?_)
  refine T.block ?_
  refine T.gh (Gh.keep [0, 1, 2, 3, 4, 10, 12, 13, 14, 15, 16]) ?_
  refine T.loopi (fun j ρ t => Like σ t ∧ m < t.next ∧ t.res m = some (.obj (List.replicate (65 - j) (.int .u8 0) ++ bytesAV (dg 16 j u))) ∧
      ρ = [.sl [] .nil, .int .u64 ((u / 16 ^ j : Nat) : Int), .int .i64 16, .bool false, .bool false] ++ List.replicate 5 .any ++ [.sl [] .nil, .any, .ptr m 0, .int .i64 ((65 - j : Nat) : Int), .int .u64 4, .int .u64 16, .int .u64 15] ++ List.replicate 85 .any)
    15 0 (Nat.zero_le _) ⟨hL0, hlt0, by rw [hm0]; simp [zeros, dg, bytesAV], by rw [Nat.pow_zero, Nat.div_one]; rfl⟩ ?_
  clear hm0 hL0 hlt0
  rintro j ρ t hj ⟨hL, hlt, hob, rfl⟩
  have hxu : u / 16 ^ j < 18446744073709551616 := Nat.lt_of_le_of_lt (Nat.div_le_self _ _) hu
  have hnext : u / 16 ^ (j + 1) = u / 16 ^ j / 16 := by rw [Nat.div_div_eq_div_mul, Nat.pow_succ]
  have hdg : dg 16 (j + 1) u = dgc (u / 16 ^ j % 16) :: dg 16 j u := dg_cons 16 j u
  have hblen : (bytesAV (dg 16 j u)).length = j := by rw [bytesAV_len, dg_len]
  generalize hx : u / 16 ^ j = x at hxu hnext hdg ⊢
  have hsp : splice (List.replicate (65 - j) (AV.int .u8 0) ++ bytesAV (dg 16 j u)) (64 - j) [.int .u8 ((dgc (x % 16)).toNat : Int)] = List.replicate (64 - j) (.int .u8 0) ++ bytesAV (dg 16 (j + 1) u) := by
    rw [show 65 - j = (64 - j) + 1 by omega, splice_rep, hdg]; rfl
  have hw : IntKind.i64.wrap (((65 - j : Nat) : Int) - 1) = ((64 - j : Nat) : Int) := by rw [wrap64 (by omega) (by omega)]; omega
  have i1 : ((64 - j : Nat) : Int) < ((65 : Nat) : Int) := by omega
  have i2 : ((x % 16 : Nat) : Int) < (sDig36.size : Int) := by rw [sDig36_size]; omega
  have hdd := dig36_get (x % 16) (Nat.mod_lt _ (by omega))
  have hlen : 64 - j + 1 ≤ (List.replicate (65 - j) (AV.int .u8 0) ++ bytesAV (dg 16 j u)).length := by rw [List.length_append, List.length_replicate]; omega
  have s4 : ¬ ((4 : Int) < 0) := by decide
  refine T.seq_k (fun K_h3 h3 => ?_)
  by_cases hge : 16 ≤ x
  case neg =>
    have f1 : decide ((x : Int) ≥ 16) = false := decide_eq_false (by omega)
    refine T.seq_k (fun K_h0 h0 => ?_)
    refine T.regi hm ?_
    simp only [↓reduceIte, namesOf, List.any, I.names, aopsI, astep, ev, setd, List.set, List.getD, List.getElem?_cons_zero, List.getElem?_cons_succ, List.cons_append, List.nil_append, List.replicate, then_normal, Option.getD_some, Bool.or_false, Bool.false_eq_true, up_zero, binv, ↓opt_def, eq_self, f1]
    refine h0 _ _ ?_
    try clear h0 K_h0
    refine T.cond rfl (fun h => by cases h) (fun _ => T.exit ?_)
    try simp only [List.cons_append, List.nil_append, List.replicate, then_normal, inBlock_exit, then_exit]
    refine h2 _ _ ?_
    try clear h2 K_h2
    have hxm : x % 16 = x := Nat.mod_eq_of_lt (by omega)
    rw [hxm] at i2 hdd hsp
    refine T.gh (Gh.keep [0, 1, 3, 4, 10, 12, 13]) ?_
    show T _ _ _ _ ([.sl [] .nil, .int .u64 (x : Int), .any, .bool false, .bool false] ++ List.replicate 5 .any ++ [.sl [] .nil, .any, .ptr m 0, .int .i64 ((65 - j : Nat) : Int)] ++ List.replicate 88 .any) t
    refine T.seq_k (fun K_h0 h0 => ?_)
    refine T.regi hm ?_
    simp only [↓reduceIte, namesOf, List.any, I.names, aopsI, astep, ev, setd, List.set, List.getD, List.getElem?_cons_zero, List.getElem?_cons_succ, List.cons_append, List.nil_append, List.replicate, then_normal, Option.getD_some, Bool.or_false, Bool.false_eq_true, up_zero, binv, ↓opt_def, eq_self, hw]
    refine h0 _ _ ?_
    try clear h0 K_h0
    refine T.regi hm ?_
    simp only [↓reduceIte, namesOf, List.any, I.names, aopsI, astep, ev, setd, List.set, List.getD, List.getElem?_cons_zero, List.getElem?_cons_succ, List.length_cons, List.length_nil, then_normal, Option.getD_some, Bool.or_false, Bool.false_eq_true, up_zero, AV.isAny, AV.cells, Int.natCast_nonneg, Int.toNat_natCast, eq_self, decide_true, i1, i2, hdd, hob, hlen, hsp, AV.fits, AV.one, List.all_cons, List.all_nil, Nat.reduceBEq, Bool.not_false, Bool.and_self, Nat.zero_add, Nat.mul_one, and_self]
    have hm2 : (t.set m (.obj (List.replicate (64 - j) (.int .u8 0) ++ bytesAV (dg 16 (j + 1) u)))).res m = some (.obj (List.replicate (64 - j) (.int .u8 0) ++ bytesAV (dg 16 (j + 1) u))) := St.set_same _ _ _
    have hL2 : Like σ (t.set m (.obj (List.replicate (64 - j) (.int .u8 0) ++ bytesAV (dg 16 (j + 1) u)))) := hL.set _ hlo
    generalize (t.set m (.obj (List.replicate (64 - j) (.int .u8 0) ++ bytesAV (dg 16 (j + 1) u)))) = t2 at hm2 hL2 ⊢
    refine h1 _ _ ?_
    try clear h1 K_h1
    refine T.gh (Gh.keep [3, 4, 10, 12, 13]) ?_
    show T _ _ _ _ ([.any, .any, .any, .bool false, .bool false, .any, .any, .any, .any, .any, .sl [] .nil, .any, .ptr m 0, .int .i64 ((64 - j : Nat) : Int)] ++ List.replicate 88 .any) t2
    refine T.seq_k (fun K_h1 h1 => ?_)
    refine T.seq_k (fun K_h0 h0 => ?_)
    refine T.regi hm ?_
    simp only [↓reduceIte, namesOf, List.any, I.names, aopsI, astep, ev, setd, List.set, List.getD, List.getElem?_cons_zero, List.getElem?_cons_succ, List.cons_append, List.nil_append, List.replicate, then_normal, Option.getD_some, Bool.or_false, Bool.false_eq_true, up_zero]
    refine h0 _ _ ?_
    try clear h0 K_h0
    refine T.cond rfl (fun h => by cases h) (fun _ => T.skip ?_)
    refine h1 _ _ ?_
    try clear h1 K_h1
    refine T.seq_k (fun K_h1 h1 => ?_)
    refine T.seq_k (fun K_h0 h0 => ?_)
    refine T.regi hm ?_
    simp only [↓reduceIte, namesOf, List.any, I.names, aopsI, astep, ev, setd, List.set, List.getD, List.getElem?_cons_zero, List.getElem?_cons_succ, then_normal, Option.getD_some, Bool.or_false, Bool.false_eq_true, up_zero]
    refine h0 _ _ ?_
    try clear h0 K_h0
    refine T.cond rfl (fun h => by cases h) (fun _ => T.skip ?_)
    refine h1 _ _ ?_
    try clear h1 K_h1
    have j1 : (((65 : Nat) : Int) - ((64 - j : Nat) : Int)).toNat = j + 1 := by omega
    have j2 : 64 - j + (j + 1) ≤ (List.replicate (64 - j) (AV.int .u8 0) ++ bytesAV (dg 16 (j + 1) u)).length := by rw [List.length_append, List.length_replicate, bytesAV_len, dg_len]; omega
    have j3 : ((List.replicate (64 - j) (AV.int .u8 0) ++ bytesAV (dg 16 (j + 1) u)).drop (64 - j)).take (j + 1) = bytesAV (dg 16 (j + 1) u) := by
      rw [List.drop_append_of_le_length (by simp), List.drop_of_length_le (by simp), List.nil_append, List.take_of_length_le (by rw [bytesAV_len, dg_len]; omega)]
    refine T.seq_k (fun K_h0 h0 => ?_)
    refine T.regi hm ?_
    simp only [↓reduceIte, namesOf, List.any, I.names, aopsI, astep, ev, setd, List.set, List.getD, List.getElem?_cons_zero, List.getElem?_cons_succ, then_normal, Option.getD_some, Bool.or_false, Bool.false_eq_true, up_zero, ↓opt_def, Int.natCast_nonneg, Int.toNat_natCast, idx, i1, j1, j2, j3, hm2, Int.le_refl, and_self, Nat.zero_add, Nat.mul_one, toBytes_bytes]
    refine h0 _ _ ?_
    try clear h0 K_h0
    exact T.ret (Fin.quiet rfl ⟨⟨trivial, trivial⟩, trivial, trivial⟩ (hL2.quiet wf) ⟨⟨j + 1, by omega, by omega, by
      have h2 := Nat.div_add_mod u (16 ^ j)
      have h3 := Nat.mod_lt u (Nat.pow_pos (n := j) (show 0 < 16 by omega))
      rw [hx] at h2
      rw [Nat.pow_succ]
      have h4 : 16 ^ j * x ≤ 16 ^ j * 15 := Nat.mul_le_mul_left _ (by omega)
      omega, rfl⟩, rfl⟩)
  have hj15 : j < 15 := by
    rcases Nat.lt_or_ge j 15 with h | h
    · exact h
    · exfalso
      have : j = 15 := by omega
      subst this
      have : u / 16 ^ 15 < 16 := Nat.div_lt_of_lt_mul (by rw [← Nat.pow_succ]; exact hu)
      omega
  have f1 : decide ((x : Int) ≥ 16) = true := decide_eq_true (by omega)
  refine T.seq_k (fun K_h0 h0 => ?_)
  refine T.regi hm ?_
  simp only [↓reduceIte, namesOf, List.any, I.names, aopsI, astep, ev, setd, List.set, List.getD, List.getElem?_cons_zero, List.getElem?_cons_succ, List.cons_append, List.nil_append, List.replicate, then_normal, Option.getD_some, Bool.or_false, Bool.false_eq_true, up_zero, binv, ↓opt_def, eq_self, f1]
  refine h0 _ _ ?_
  try clear h0 K_h0
  refine T.cond rfl (fun _ => T.skip ?_) (fun h => by cases h)
  refine h3 _ _ ?_
  try clear h3 K_h3
  refine T.block ?_
  refine T.seq_k (fun K_h0 h0 => ?_)
  refine T.regi hm ?_
  simp only [↓reduceIte, namesOf, List.any, I.names, aopsI, astep, ev, setd, List.set, List.getD, List.getElem?_cons_zero, List.getElem?_cons_succ, List.cons_append, List.nil_append, List.replicate, then_normal, Option.getD_some, Bool.or_false, Bool.false_eq_true, up_zero, binv, ↓opt_def, eq_self, hw]
  refine h0 _ _ ?_
  try clear h0 K_h0
  refine T.seq_k (fun K_h0 h0 => ?_)
  refine T.regi hm ?_
  simp only [↓reduceIte, namesOf, List.any, I.names, aopsI, astep, ev, setd, List.set, List.getD, List.getElem?_cons_zero, List.getElem?_cons_succ, List.cons_append, List.nil_append, List.length_cons, List.length_nil, List.replicate, then_normal, Option.getD_some, Bool.or_false, Bool.false_eq_true, up_zero, binv, ↓opt_def, AV.isAny, AV.cells, Int.natCast_nonneg, Int.toNat_natCast, eq_self, decide_true, u64_and15 hxu, i1, i2, hdd, hob, hlen, hsp, AV.fits, AV.one, List.all_cons, List.all_nil, Nat.reduceBEq, Bool.not_false, Bool.and_self, Nat.zero_add, Nat.mul_one, and_self]
  refine h0 _ _ ?_
  try clear h0 K_h0
  refine T.regi hm ?_
  simp only [↓reduceIte, namesOf, List.any, I.names, aopsI, astep, ev, setd, List.set, List.getD, List.getElem?_cons_zero, List.getElem?_cons_succ, List.cons_append, List.nil_append, List.replicate, then_normal, inBlock_normal, Option.getD_some, Bool.or_false, Bool.false_eq_true, up_zero, binv, ↓opt_def, eq_self, u64_shr4, s4]
  try simp only [↓reduceIte, namesOf, List.any, I.names, aops, aopsI, aopsT, qstep, CPt, qget, Tbl.get, astep, ev, setd, List.set, List.getD, List.getElem?_cons_zero, List.getElem?_cons_succ, List.getElem?_nil, List.cons_append, List.nil_append, List.length_cons, List.length_nil, List.replicate, then_normal, inBlock_normal, Option.getD_some, Option.getD_none, Bool.or_false, Bool.or_true, Bool.true_or, Bool.false_or, Bool.false_eq_true, if_false, if_true, up_zero, Nat.reduceAdd, Nat.reduceSub, binv, ↓opt_def, AV.isAny, AV.cells, ldc, List.map_cons, List.map_nil, St.set_next, St.set_same, St.up_next, Int.natCast_nonneg, lt_len, le_len, Int.toNat_natCast, true_and, and_true, eq_self, reduceCtorEq, decide_true, List.length_singleton, er_int, er_bool, er_str, srcR, inBlock_normal]
  refine ⟨hj15, _, _, Gh.keep [0, 1, 2, 3, 4, 10, 12, 13, 14, 15, 16], hL.set _ hlo, hlt, ?_, ?_⟩
  · rw [St.set_same, show 65 - (j + 1) = 64 - j by omega]
  · rw [hnext, show 65 - (j + 1) = 64 - j by omega]; rfl

end Go.VL

namespace Go.VL

open Go.Proofs

/-- a number's text, with as many digits as it may have -/
def Writ (b n most : Nat) (v : AV) : Prop := ∃ k, 1 ≤ k ∧ k ≤ most ∧ n < b ^ k ∧ v = .str ⟨(dg b k n).toArray⟩

theorem small1 (n : Nat) (h : n < 10) : sDig36.extract n (n + 1) = ⟨(dg 10 1 n).toArray⟩ := by
  have : ∀ n : Nat, n < 10 → sDig36.extract n (n + 1) = ⟨(dg 10 1 n).toArray⟩ := by decide +kernel
  exact this n h

theorem small2 (n : Nat) (h : n < 100) : sSmalls.extract (n * 2) (n * 2 + 2) = ⟨(dg 10 2 n).toArray⟩ := by
  have : ∀ n : Nat, n < 100 → sSmalls.extract (n * 2) (n * 2 + 2) = ⟨(dg 10 2 n).toArray⟩ := by decide +kernel
  exact this n h

theorem ismall_ok {n : Nat} {σ : St} (hn : n < 100) : ACalls Tryd.prog n_ismall [.int .i64 (n : Int)] σ (fun v σ' => Writ 10 n 3 v ∧ σ' = σ) := by
  refine s_ismall (fun wf => ?_)
  unfold c_ismall
  refine T.seq_k (fun K_h0 h0 => ?_)
  refine T.regi hm ?_
  simp only [↓reduceIte, namesOf, List.any, I.names, aopsI, astep, ev, setd, List.set, List.cons_append, List.nil_append, List.length_cons, List.length_nil, List.replicate, then_normal, Bool.or_false, Bool.false_eq_true, up_zero, Nat.reduceAdd, Nat.reduceSub]
  refine h0 _ _ ?_
  try clear h0 K_h0
  refine T.seq_k (fun K_h1 h1 => ?_)
  by_cases h10 : n < 10
  · have f1 : decide ((n : Int) < 10) = true := decide_eq_true (by omega)
    have w1 : IntKind.i64.wrap ((n : Int) + 1) = ((n + 1 : Nat) : Int) := by rw [wrap64 (by omega) (by omega)]; omega
    have i1 : (n : Int) ≤ ((n + 1 : Nat) : Int) := by omega
    have i2 : ((n + 1 : Nat) : Int) ≤ (sDig36.size : Int) := by rw [sDig36_size]; omega
    refine T.seq_k (fun K_h0 h0 => ?_)
    refine T.regi hm ?_
    simp only [↓reduceIte, namesOf, List.any, I.names, aopsI, astep, ev, setd, List.set, List.getD, List.getElem?_cons_zero, List.getElem?_cons_succ, then_normal, Option.getD_some, Bool.or_false, Bool.false_eq_true, up_zero, binv, ↓opt_def, eq_self, f1]
    refine h0 _ _ ?_
    try clear h0 K_h0
    refine T.cond rfl (fun _ => ?_) (fun h => by cases h)
    refine T.seq_k (fun K_h0 h0 => ?_)
    refine T.regi hm ?_
    simp only [↓reduceIte, namesOf, List.any, I.names, aopsI, astep, ev, setd, List.set, List.getD, List.getElem?_cons_zero, List.getElem?_cons_succ, then_normal, Option.getD_some, Bool.or_false, Bool.false_eq_true, up_zero, binv, ↓opt_def, Int.natCast_nonneg, Int.toNat_natCast, eq_self, w1, idx, i1, i2, and_self, small1 n h10]
    refine h0 _ _ ?_
    try clear h0 K_h0
    exact T.ret (Fin.ret rfl ⟨⟨1, by omega, by omega, by omega, rfl⟩, rfl⟩)
  have f1 : decide ((n : Int) < 10) = false := decide_eq_false (by omega)
  have w1 : IntKind.i64.wrap ((n : Int) * 2) = ((n * 2 : Nat) : Int) := by rw [wrap64 (by omega) (by omega)]; omega
  have w2 : IntKind.i64.wrap (((n * 2 : Nat) : Int) + 2) = ((n * 2 + 2 : Nat) : Int) := by rw [wrap64 (by omega) (by omega)]; omega
  have i1 : ((n * 2 : Nat) : Int) ≤ ((n * 2 + 2 : Nat) : Int) := by omega
  have i2 : ((n * 2 + 2 : Nat) : Int) ≤ (sSmalls.size : Int) := by rw [sSmalls_size]; omega
  refine T.seq_k (fun K_h0 h0 => ?_)
  refine T.regi hm ?_
  simp only [↓reduceIte, namesOf, List.any, I.names, aopsI, astep, ev, setd, List.set, List.getD, List.getElem?_cons_zero, List.getElem?_cons_succ, then_normal, Option.getD_some, Bool.or_false, Bool.false_eq_true, up_zero, binv, ↓opt_def, eq_self, f1]
  refine h0 _ _ ?_
  try clear h0 K_h0
  refine T.cond rfl (fun h => by cases h) (fun _ => T.skip ?_)
  refine h1 _ _ ?_
  try clear h1 K_h1
  refine T.seq_k (fun K_h0 h0 => ?_)
  refine T.regi hm ?_
  simp only [↓reduceIte, namesOf, List.any, I.names, aopsI, astep, ev, setd, List.set, List.getD, List.getElem?_cons_zero, List.getElem?_cons_succ, then_normal, Option.getD_some, Bool.or_false, Bool.false_eq_true, up_zero, binv, ↓opt_def, Int.natCast_nonneg, Int.toNat_natCast, eq_self, w1, w2, idx, i1, i2, and_self, small2 n hn]
  refine h0 _ _ ?_
  try clear h0 K_h0
  exact T.ret (Fin.ret rfl ⟨⟨2, by omega, by omega, by omega, rfl⟩, rfl⟩)

set_option maxRecDepth 100000 in
theorem len8_get (n : Nat) (h : n < 256) : sLen8.data.toList[n]? = some (sLen8.data.toList.getD n 0) := by
  have hl : n < sLen8.data.toList.length := by rw [show sLen8.data.toList.length = 256 from rfl]; exact h
  rw [List.getD_eq_getElem?_getD, List.getElem?_eq_getElem hl]; rfl

def lenN (n : Nat) : Nat := if n < 256 then (sLen8.data.toList.getD n 0).toNat else 8 + (sLen8.data.toList.getD (n / 256) 0).toNat

theorem lenN_log : ∀ n : Nat, n < 1000 → 100 ≤ n → lenN n * 78913 / 262144 = if n < 512 then 2 else 3 := by decide +kernel

theorem lenN_le : ∀ n : Nat, n < 1000 → lenN n ≤ 64 := by decide +kernel

theorem len64_ok {n : Nat} {σ : St} (hn : n < 1000) : ACalls Tryd.prog n_len64 [.int .u64 (n : Int)] σ (fun v σ' => v = .int .i64 (lenN n : Int) ∧ σ' = σ) := by
  refine s_len64 (fun wf => ?_)
  unfold c_len64
  have f1 : decide ((n : Int) ≥ 4294967296) = false := decide_eq_false (by omega)
  have f2 : decide ((n : Int) ≥ 65536) = false := decide_eq_false (by omega)
  refine T.seq_k (fun K_h0 h0 => ?_)
  refine T.regi hm ?_
  simp only [↓reduceIte, namesOf, List.any, I.names, aopsI, astep, ev, setd, List.set, List.cons_append, List.nil_append, List.length_cons, List.length_nil, List.replicate, then_normal, Bool.or_false, Bool.false_eq_true, up_zero, Nat.reduceAdd, Nat.reduceSub]
  refine h0 _ _ ?_
  try clear h0 K_h0
  refine T.seq_k (fun K_h1 h1 => ?_)
  refine T.seq_k (fun K_h0 h0 => ?_)
  refine T.regi hm ?_
  simp only [↓reduceIte, namesOf, List.any, I.names, aopsI, astep, ev, setd, List.set, List.getD, List.getElem?_cons_zero, List.getElem?_cons_succ, then_normal, Option.getD_some, Bool.or_false, Bool.false_eq_true, up_zero, binv, ↓opt_def, eq_self, f1]
  refine h0 _ _ ?_
  try clear h0 K_h0
  refine T.cond rfl (fun h => by cases h) (fun _ => T.skip ?_)
  refine h1 _ _ ?_
  try clear h1 K_h1
  refine T.seq_k (fun K_h1 h1 => ?_)
  refine T.seq_k (fun K_h0 h0 => ?_)
  refine T.regi hm ?_
  simp only [↓reduceIte, namesOf, List.any, I.names, aopsI, astep, ev, setd, List.set, List.getD, List.getElem?_cons_zero, List.getElem?_cons_succ, then_normal, Option.getD_some, Bool.or_false, Bool.false_eq_true, up_zero, binv, ↓opt_def, eq_self, f2]
  refine h0 _ _ ?_
  try clear h0 K_h0
  refine T.cond rfl (fun h => by cases h) (fun _ => T.skip ?_)
  refine h1 _ _ ?_
  try clear h1 K_h1
  refine T.seq_k (fun K_h1 h1 => ?_)
  have key : ∀ (q b : Nat) (ρ' : List AV), q < 256 → b + (sLen8.data.toList.getD q 0).toNat = lenN n → keep [0, 2] 0 ρ' = [.int .u64 (q : Int), .any, .int .i64 (b : Int)] ++ List.replicate 22 .any → K_h1 ρ' σ := by
    intro q b ρ' hq hb hk
    have hle := lenN_le n hn
    refine h1 _ _ ?_
    refine T.gh (Gh.keep [0, 2]) ?_
    rw [hk]
    have w1 : IntKind.u8.wrap (q : Int) = (q : Int) := by simp [IntKind.wrap, IntKind.bits, IntKind.signed]; omega
    have i1 : (q : Int) < (sLen8.size : Int) := by rw [sLen8_size]; omega
    have hg := len8_get q hq
    have hb8 := (sLen8.data.toList.getD q 0).toNat_lt
    generalize sLen8.data.toList.getD q 0 = x at hg hb hb8
    have w2 : IntKind.i64.wrap ((x.toNat : Nat) : Int) = ((x.toNat : Nat) : Int) := wrap64 (by omega) (by omega)
    have w3 : IntKind.i64.wrap ((b : Int) + ((x.toNat : Nat) : Int)) = (lenN n : Int) := by rw [wrap64 (by omega) (by omega)]; omega
    refine T.seq_k (fun K_h0 h0 => ?_)
    refine T.regi hm ?_
    simp only [↓reduceIte, namesOf, List.any, I.names, aopsI, astep, ev, setd, List.set, List.getD, List.getElem?_cons_zero, List.getElem?_cons_succ, List.cons_append, List.nil_append, List.replicate, then_normal, Option.getD_some, Bool.or_false, Bool.false_eq_true, up_zero, binv, ↓opt_def, Int.natCast_nonneg, Int.toNat_natCast, eq_self, w1, i1, hg, w2, w3, and_self]
    refine h0 _ _ ?_
    try clear h0 K_h0
    exact T.ret (Fin.ret rfl ⟨rfl, rfl⟩)
  by_cases h256 : n < 256
  · have f3 : decide ((n : Int) ≥ 256) = false := decide_eq_false (by omega)
    refine T.seq_k (fun K_h0 h0 => ?_)
    refine T.regi hm ?_
    simp only [↓reduceIte, namesOf, List.any, I.names, aopsI, astep, ev, setd, List.set, List.getD, List.getElem?_cons_zero, List.getElem?_cons_succ, then_normal, Option.getD_some, Bool.or_false, Bool.false_eq_true, up_zero, binv, ↓opt_def, eq_self, f3]
    refine h0 _ _ ?_
    try clear h0 K_h0
    refine T.cond rfl (fun h => by cases h) (fun _ => T.skip ?_)
    exact key n 0 _ h256 (by unfold lenN; rw [if_pos h256]; omega) rfl
  · have f3 : decide ((n : Int) ≥ 256) = true := decide_eq_true (by omega)
    have s8 : ¬ ((8 : Int) < 0) := by decide
    have e8 : Int.fdiv (n : Int) (2 ^ min (8 : Int).toNat IntKind.u64.bits) = ((n / 256 : Nat) : Int) := u64_shr n 8 (by omega)
    have w8 : IntKind.i64.wrap (0 + 8) = ((8 : Nat) : Int) := by decide
    refine T.seq_k (fun K_h0 h0 => ?_)
    refine T.regi hm ?_
    simp only [↓reduceIte, namesOf, List.any, I.names, aopsI, astep, ev, setd, List.set, List.getD, List.getElem?_cons_zero, List.getElem?_cons_succ, then_normal, Option.getD_some, Bool.or_false, Bool.false_eq_true, up_zero, binv, ↓opt_def, eq_self, f3]
    refine h0 _ _ ?_
    try clear h0 K_h0
    refine T.cond rfl (fun _ => ?_) (fun h => by cases h)
    refine T.seq_k (fun K_h0 h0 => ?_)
    refine T.regi hm ?_
    simp only [↓reduceIte, namesOf, List.any, I.names, aopsI, astep, ev, setd, List.set, List.getD, List.getElem?_cons_zero, List.getElem?_cons_succ, then_normal, Option.getD_some, Bool.or_false, Bool.false_eq_true, up_zero, binv, ↓opt_def, eq_self, s8, e8]
    refine h0 _ _ ?_
    try clear h0 K_h0
    refine T.regi hm ?_
    simp only [↓reduceIte, namesOf, List.any, I.names, aopsI, astep, ev, setd, List.set, List.getD, List.getElem?_cons_zero, List.getElem?_cons_succ, then_normal, Option.getD_some, Bool.or_false, Bool.false_eq_true, up_zero, binv, ↓opt_def, eq_self, w8]
    exact key (n / 256) 8 _ (by omega) (by unfold lenN; rw [if_neg h256]) rfl

theorem l10p2_ok {x : Nat} {σ : St} (hx : x ≤ 64) : ACalls Tryd.prog n_l10p2 [.int .i64 (x : Int)] σ (fun v σ' => v = .int .i64 ((x * 78913 / 262144 : Nat) : Int) ∧ σ' = σ) := by
  refine s_l10p2 (fun wf => ?_)
  unfold c_l10p2
  have w1 : IntKind.i64.wrap ((x : Int) * 78913) = ((x * 78913 : Nat) : Int) := by rw [wrap64 (by omega) (by omega)]; omega
  have s1 : ¬ ((18 : Int) < 0) := by decide
  have e1 : Int.fdiv ((x * 78913 : Nat) : Int) (2 ^ min (18 : Int).toNat IntKind.i64.bits) = ((x * 78913 / 262144 : Nat) : Int) := u64_shr (x * 78913) 18 (by omega)
  refine T.seq_k (fun K_h0 h0 => ?_)
  refine T.regi hm ?_
  simp only [↓reduceIte, namesOf, List.any, I.names, aopsI, astep, ev, setd, List.set, List.cons_append, List.nil_append, List.length_cons, List.length_nil, List.replicate, then_normal, Bool.or_false, Bool.false_eq_true, up_zero, Nat.reduceAdd, Nat.reduceSub]
  refine h0 _ _ ?_
  try clear h0 K_h0
  refine T.seq_k (fun K_h0 h0 => ?_)
  refine T.regi hm ?_
  simp only [↓reduceIte, namesOf, List.any, I.names, aopsI, astep, ev, setd, List.set, List.getD, List.getElem?_cons_zero, List.getElem?_cons_succ, then_normal, Option.getD_some, Bool.or_false, Bool.false_eq_true, up_zero, binv, ↓opt_def, eq_self, w1, s1, e1]
  refine h0 _ _ ?_
  try clear h0 K_h0
  exact T.ret (Fin.ret rfl ⟨rfl, rfl⟩)

theorem bool2i_ok {b : Bool} {σ : St} : ACalls Tryd.prog n_bool2i [.bool b] σ (fun v σ' => v = .int .i64 (if b then 1 else 0) ∧ σ' = σ) := by
  refine s_bool2i (fun wf => ?_)
  unfold c_bool2i
  refine T.seq_k (fun K_h0 h0 => ?_)
  refine T.regi hm ?_
  simp only [↓reduceIte, namesOf, List.any, I.names, aopsI, astep, ev, setd, List.set, List.cons_append, List.nil_append, List.length_cons, List.length_nil, List.replicate, then_normal, Bool.or_false, Bool.false_eq_true, up_zero, Nat.reduceAdd, Nat.reduceSub]
  refine h0 _ _ ?_
  try clear h0 K_h0
  refine T.seq_k (fun K_h1 h1 => ?_)
  cases b with
  | true =>
    refine T.seq_k (fun K_h0 h0 => ?_)
    refine T.regi hm ?_
    simp only [↓reduceIte, namesOf, List.any, I.names, aopsI, astep, ev, setd, List.set, List.getD, List.getElem?_cons_zero, then_normal, Option.getD_some, Bool.or_false, Bool.false_eq_true, up_zero, eq_self]
    refine h0 _ _ ?_
    try clear h0 K_h0
    refine T.cond rfl (fun _ => ?_) (fun h => by cases h)
    refine T.seq_k (fun K_h0 h0 => ?_)
    refine T.regi hm ?_
    simp only [↓reduceIte, namesOf, List.any, I.names, aopsI, astep, ev, setd, List.set, then_normal, Bool.or_false, Bool.false_eq_true, up_zero, eq_self]
    refine h0 _ _ ?_
    try clear h0 K_h0
    exact T.ret (Fin.ret rfl ⟨rfl, rfl⟩)
  | false =>
    refine T.seq_k (fun K_h0 h0 => ?_)
    refine T.regi hm ?_
    simp only [↓reduceIte, namesOf, List.any, I.names, aopsI, astep, ev, setd, List.set, List.getD, List.getElem?_cons_zero, then_normal, Option.getD_some, Bool.or_false, Bool.false_eq_true, up_zero]
    refine h0 _ _ ?_
    try clear h0 K_h0
    refine T.cond rfl (fun h => by cases h) (fun _ => T.skip ?_)
    refine h1 _ _ ?_
    try clear h1 K_h1
    refine T.seq_k (fun K_h0 h0 => ?_)
    refine T.regi hm ?_
    simp only [↓reduceIte, namesOf, List.any, I.names, aopsI, astep, ev, setd, List.set, then_normal, Bool.or_false, Bool.false_eq_true, up_zero]
    refine h0 _ _ ?_
    try clear h0 K_h0
    exact T.ret (Fin.ret rfl ⟨rfl, rfl⟩)

theorem numd_ok {n : Nat} {σ : St} (hT : Tabs σ) (hge : 100 ≤ n) (hn : n < 1000) : ACalls Tryd.prog n_numd [.int .u64 (n : Int)] σ (fun v σ' => v = .int .i64 3 ∧ σ' = σ) := by
  refine s_numd (fun wf => ?_)
  unfold c_numd
  refine T.seq_k (fun K_h0 h0 => ?_)
  refine T.regi hm ?_
  simp only [↓reduceIte, namesOf, List.any, I.names, aopsI, astep, ev, setd, List.set, List.cons_append, List.nil_append, List.length_cons, List.length_nil, List.replicate, then_normal, Bool.or_false, Bool.false_eq_true, up_zero, Nat.reduceAdd, Nat.reduceSub]
  refine h0 _ _ ?_
  try clear h0 K_h0
  refine T.seq_k (fun K_h1 h1 => ?_)
  refine T.regi hm ?_
  simp only [↓reduceIte, namesOf, List.any, I.names, aopsI, astep, ev, setd, List.set, List.getD, List.getElem?_cons_zero, List.getElem?_cons_succ, then_normal, Option.getD_some, Bool.or_false, Bool.false_eq_true, up_zero, List.map_cons, List.map_nil]
  refine (len64_ok hn).mono ?_
  rintro v σ1 ⟨rfl, rfl⟩
  try simp only [↓reduceIte, namesOf, List.any, I.names, aops, aopsI, aopsT, qstep, CPt, qget, Tbl.get, astep, ev, setd, List.set, List.getD, List.getElem?_cons_zero, List.getElem?_cons_succ, List.getElem?_nil, List.cons_append, List.nil_append, List.length_cons, List.length_nil, List.replicate, then_normal, inBlock_normal, Option.getD_some, Option.getD_none, Bool.or_false, Bool.or_true, Bool.true_or, Bool.false_or, Bool.false_eq_true, if_false, if_true, up_zero, Nat.reduceAdd, Nat.reduceSub, binv, ↓opt_def, AV.isAny, AV.cells, ldc, List.map_cons, List.map_nil, St.set_next, St.set_same, St.up_next, Int.natCast_nonneg, lt_len, le_len, Int.toNat_natCast, true_and, and_true, eq_self, reduceCtorEq, decide_true, List.length_singleton, er_int, er_bool, er_str, srcR, up_zero]
  refine (l10p2_ok (lenN_le n hn)).mono ?_
  rintro v σ1 ⟨rfl, rfl⟩
  rw [lenN_log n hn hge]
  have hp := hT.p10
  obtain ⟨q, hq, hq2⟩ : ∃ q : Nat, (if n < 512 then 2 else 3) = q ∧ (q = 2 ∨ q = 3 ∧ 512 ≤ n) := ⟨_, rfl, by split; exact .inl rfl; exact .inr ⟨rfl, by omega⟩⟩
  rw [hq]
  clear hq
  have g1 : (q : Int) < ((20 : Nat) : Int) := by omega
  have g3 : q * 1 ≤ pow10L.length := by rw [show pow10L.length = 20 from rfl]; omega
  have g4 : (List.drop (q * 1) pow10L)[0]? = some (.int .u64 ((10 ^ q : Nat) : Int)) := by rcases hq2 with rfl | ⟨rfl, _⟩ <;> rfl
  have w1 : IntKind.i64.wrap ((q : Int) + (if decide ((n : Int) ≥ ((10 ^ q : Nat) : Int)) = true then 1 else 0)) = 3 := by
    rcases hq2 with rfl | ⟨rfl, _⟩
    · have : decide ((n : Int) ≥ ((10 ^ 2 : Nat) : Int)) = true := decide_eq_true (by omega)
      rw [this]; rfl
    · have : decide ((n : Int) ≥ ((10 ^ 3 : Nat) : Int)) = false := decide_eq_false (by omega)
      rw [this]; rfl
  try simp only [↓reduceIte, namesOf, List.any, I.names, aops, aopsI, aopsT, qstep, CPt, qget, Tbl.get, astep, ev, setd, List.set, List.getD, List.getElem?_cons_zero, List.getElem?_cons_succ, List.getElem?_nil, List.cons_append, List.nil_append, List.length_cons, List.length_nil, List.replicate, then_normal, inBlock_normal, Option.getD_some, Option.getD_none, Bool.or_false, Bool.or_true, Bool.true_or, Bool.false_or, Bool.false_eq_true, if_false, if_true, up_zero, Nat.reduceAdd, Nat.reduceSub, binv, ↓opt_def, AV.isAny, AV.cells, ldc, List.map_cons, List.map_nil, St.set_next, St.set_same, St.up_next, Int.natCast_nonneg, lt_len, le_len, Int.toNat_natCast, true_and, and_true, eq_self, reduceCtorEq, decide_true, List.length_singleton, er_int, er_bool, er_str, srcR, up_zero]
  refine h1 _ _ ?_
  try clear h1 K_h1
  refine T.seq_k (fun K_h1 h1 => ?_)
  refine T.regi hm ?_
  simp only [↓reduceIte, namesOf, List.any, I.names, aopsI, astep, ev, setd, List.set, List.getD, List.getElem?_cons_zero, List.getElem?_cons_succ, then_normal, Option.getD_some, Bool.or_false, Bool.false_eq_true, up_zero, binv, ↓opt_def, ldc, List.map_cons, List.map_nil, Int.natCast_nonneg, Int.toNat_natCast, eq_self, hp, g1, g3, g4, and_self]
  refine bool2i_ok.mono ?_
  rintro v σ1 ⟨rfl, rfl⟩
  try simp only [↓reduceIte, eq_self, w1]
  refine h1 _ _ ?_
  try clear h1 K_h1
  exact T.ret (Fin.ret rfl ⟨rfl, rfl⟩)

theorem sm_get (r : Nat) (h : r < 100) : sSmalls.data.toList[r * 2]? = some (dgc (r / 10)) ∧ sSmalls.data.toList[r * 2 + 1]? = some (dgc (r % 10)) := by
  have : ∀ r : Nat, r < 100 → sSmalls.data.toList[r * 2]? = some (dgc (r / 10)) ∧ sSmalls.data.toList[r * 2 + 1]? = some (dgc (r % 10)) := by decide +kernel
  exact this r h

theorem dg3 (n : Nat) (h : n < 1000) : dg 10 3 n = [dgc (n / 100), dgc (n % 100 / 10), dgc (n % 100 % 10)] := by
  have e1 : n / 10 % 10 = n % 100 / 10 := by omega
  have e2 : n % 10 = n % 100 % 10 := by omega
  have e3 : n / 10 / 10 % 10 = n / 100 := by omega
  show [] ++ [dgc (n / 10 / 10 % 10)] ++ [dgc (n / 10 % 10)] ++ [dgc (n % 10)] = _
  rw [e1, e2, e3]; rfl

theorem dgc10 (d : Nat) (h : d < 10) : ((dgc d).toNat : Int) = ((48 + d : Nat) : Int) := by
  have : ∀ d : Nat, d < 10 → (dgc d).toNat = 48 + d := by decide
  rw [this d h]

theorem u32w {n : Nat} (h : n < 4294967296) : IntKind.u32.wrap (n : Int) = (n : Int) := by
  simp [IntKind.wrap, IntKind.bits, IntKind.signed]; omega

set_option maxRecDepth 10000 in
set_option maxHeartbeats 1000000 in
theorem fb10_ok {m n : Nat} {σ : St} (hn : n < 1000) (hob : σ.res m = some (.obj (zeros 24 (.int .u8 0)))) :
    ACalls Tryd.prog n_fb10 [.ref m 0 3, .int .u64 (n : Int)] σ (fun v σ' => v = .tup [] ∧ σ' = σ.set m (.obj (bytesAV (dg 10 3 n) ++ zeros 21 (.int .u8 0)))) := by
  refine s_fb10 (fun wf => ?_)
  unfold c_fb10
  refine T.seq_k (fun K_h0 h0 => ?_)
  refine T.regi hm ?_
  simp only [↓reduceIte, namesOf, List.any, I.names, aopsI, astep, ev, setd, List.set, List.getD, List.getElem?_cons_zero, List.getElem?_cons_succ, List.cons_append, List.nil_append, List.length_cons, List.length_nil, List.replicate, then_normal, Option.getD_some, Bool.or_false, Bool.false_eq_true, up_zero, Nat.reduceAdd, Nat.reduceSub]
  refine h0 _ _ ?_
  try clear h0 K_h0
  refine T.seq_k (fun K_h1 h1 => ?_)
  refine T.block ?_
  refine T.gh (Gh.keep [0, 1, 4]) ?_
  refine T.loopi (fun j ρ t => t = σ ∧ ρ = [.ref m 0 3, .int .u64 (n : Int), .any, .any, .int .i64 ((3 : Nat) : Int)] ++ List.replicate 162 .any) 0 0 (Nat.le_refl _) ⟨rfl, rfl⟩ ?_
  rintro j ρ t hj ⟨rfl, rfl⟩
  refine T.seq_k (fun K_h2 h2 => ?_)
  have f1 : decide (((3 : Nat) : Int) ≥ 8) = false := rfl
  refine T.seq_k (fun K_h0 h0 => ?_)
  refine T.regi hm ?_
  simp only [↓reduceIte, namesOf, List.any, I.names, aopsI, astep, ev, setd, List.set, List.getD, List.getElem?_cons_zero, List.getElem?_cons_succ, List.cons_append, List.nil_append, List.replicate, then_normal, Option.getD_some, Bool.or_false, Bool.false_eq_true, up_zero, binv, ↓opt_def, eq_self, f1]
  refine h0 _ _ ?_
  try clear h0 K_h0
  refine T.cond rfl (fun h => by cases h) (fun _ => T.exit ?_)
  try simp only [List.cons_append, List.nil_append, List.replicate, then_normal, inBlock_exit, then_exit]
  refine h1 _ _ ?_
  try clear h1 K_h1
  have w1 : IntKind.u32.wrap (n : Int) = (n : Int) := u32w (by omega)
  refine T.seq_k (fun K_h0 h0 => ?_)
  refine T.regi hm ?_
  simp only [↓reduceIte, namesOf, List.any, I.names, aopsI, astep, ev, setd, List.set, List.getD, List.getElem?_cons_zero, List.getElem?_cons_succ, then_normal, Option.getD_some, Bool.or_false, Bool.false_eq_true, up_zero, w1]
  refine h0 _ _ ?_
  try clear h0 K_h0
  refine T.seq_k (fun K_h1 h1 => ?_)
  have f2 : decide (((3 : Nat) : Int) ≥ 4) = false := rfl
  refine T.seq_k (fun K_h0 h0 => ?_)
  refine T.regi hm ?_
  simp only [↓reduceIte, namesOf, List.any, I.names, aopsI, astep, ev, setd, List.set, List.getD, List.getElem?_cons_zero, List.getElem?_cons_succ, then_normal, Option.getD_some, Bool.or_false, Bool.false_eq_true, up_zero, binv, ↓opt_def, eq_self, f2]
  refine h0 _ _ ?_
  try clear h0 K_h0
  refine T.cond rfl (fun h => by cases h) (fun _ => T.skip ?_)
  refine h1 _ _ ?_
  try clear h1 K_h1
  refine T.seq_k (fun K_h1 h1 => ?_)
  have f3 : decide (((3 : Nat) : Int) ≥ 2) = true := rfl
  refine T.seq_k (fun K_h0 h0 => ?_)
  refine T.regi hm ?_
  simp only [↓reduceIte, namesOf, List.any, I.names, aopsI, astep, ev, setd, List.set, List.getD, List.getElem?_cons_zero, List.getElem?_cons_succ, then_normal, Option.getD_some, Bool.or_false, Bool.false_eq_true, up_zero, binv, ↓opt_def, eq_self, f3]
  refine h0 _ _ ?_
  try clear h0 K_h0
  refine T.cond rfl (fun _ => ?_) (fun h => by cases h)
  have z1 : ((100 : Int) = 0) = False := eq_false (by decide)
  have w2 : IntKind.u32.wrap (((n % 100 : Nat) : Int) * 2) = ((n % 100 * 2 : Nat) : Int) := by
    rw [show ((n % 100 : Nat) : Int) * 2 = ((n % 100 * 2 : Nat) : Int) by omega]; exact u32w (by omega)
  have m1 : (n : Int).tmod 100 = ((n % 100 : Nat) : Int) := tmodN n 100
  have m2 : (n : Int).tdiv 100 = ((n / 100 : Nat) : Int) := tdivN n 100
  have w3 : IntKind.u32.wrap ((n / 100 : Nat) : Int) = ((n / 100 : Nat) : Int) := u32w (by omega)
  refine T.seq_k (fun K_h0 h0 => ?_)
  refine T.regi hm ?_
  simp only [↓reduceIte, namesOf, List.any, I.names, aopsI, astep, ev, setd, List.set, List.getD, List.getElem?_cons_zero, List.getElem?_cons_succ, then_normal, Option.getD_some, Bool.or_false, Bool.false_eq_true, up_zero, binv, ↓opt_def, eq_self, z1, m1, w2]
  refine h0 _ _ ?_
  try clear h0 K_h0
  refine T.seq_k (fun K_h0 h0 => ?_)
  refine T.regi hm ?_
  simp only [↓reduceIte, namesOf, List.any, I.names, aopsI, astep, ev, setd, List.set, List.getD, List.getElem?_cons_zero, List.getElem?_cons_succ, then_normal, Option.getD_some, Bool.or_false, Bool.false_eq_true, up_zero, binv, ↓opt_def, eq_self, z1, m2, w3]
  refine h0 _ _ ?_
  try clear h0 K_h0
  have hr100 : n % 100 < 100 := Nat.mod_lt _ (by omega)
  obtain ⟨g1, g2⟩ := sm_get (n % 100) hr100
  have w4 : IntKind.u32.wrap (((n % 100 * 2 : Nat) : Int) + 1) = ((n % 100 * 2 + 1 : Nat) : Int) := by
    rw [show ((n % 100 * 2 : Nat) : Int) + 1 = ((n % 100 * 2 + 1 : Nat) : Int) by omega]; exact u32w (by omega)
  have i1 : ((n % 100 * 2 : Nat) : Int) < (sSmalls.size : Int) := by rw [sSmalls_size]; omega
  have i2 : ((n % 100 * 2 + 1 : Nat) : Int) < (sSmalls.size : Int) := by rw [sSmalls_size]; omega
  have v1 : IntKind.i64.wrap (((3 : Nat) : Int) - 1) = ((2 : Nat) : Int) := by decide
  have v2 : IntKind.i64.wrap (((3 : Nat) : Int) - 2) = ((1 : Nat) : Int) := by decide
  have k1 : ((2 : Nat) : Int) < ((3 : Nat) : Int) := by decide
  have k2 : ((1 : Nat) : Int) < ((3 : Nat) : Int) := by decide
  have k3 : (0 : Int) < ((3 : Nat) : Int) := by decide
  generalize hd1 : dgc (n % 100 / 10) = d1 at g1
  generalize hd0 : dgc (n % 100 % 10) = d0 at g2
  generalize hr : n % 100 * 2 = r at g1 g2 i1 i2 w2 w4 ⊢
  have z24 : (zeros 24 (AV.int .u8 0)).length = 24 := rfl
  have z21 : (zeros 21 (AV.int .u8 0)).length = 21 := rfl
  have p1 : splice (zeros 24 (AV.int .u8 0)) 2 [.int .u8 (d0.toNat : Int)] = .int .u8 0 :: .int .u8 0 :: .int .u8 (d0.toNat : Int) :: zeros 21 (.int .u8 0) := rfl
  have p2 : splice (AV.int .u8 0 :: .int .u8 0 :: .int .u8 (d0.toNat : Int) :: zeros 21 (.int .u8 0)) 1 [.int .u8 (d1.toNat : Int)] = .int .u8 0 :: .int .u8 (d1.toNat : Int) :: .int .u8 (d0.toNat : Int) :: zeros 21 (.int .u8 0) := rfl
  have p3 : ∀ y : AV, splice (AV.int .u8 0 :: .int .u8 (d1.toNat : Int) :: .int .u8 (d0.toNat : Int) :: zeros 21 (.int .u8 0)) 0 [y] = y :: .int .u8 (d1.toNat : Int) :: .int .u8 (d0.toNat : Int) :: zeros 21 (.int .u8 0) := fun _ => rfl
  refine T.seq_k (fun K_h0 h0 => ?_)
  refine T.regi hm ?_
  simp only [↓reduceIte, namesOf, List.any, I.names, aopsI, astep, ev, setd, List.set, List.getD, List.getElem?_cons_zero, List.getElem?_cons_succ, List.length_cons, List.length_nil, then_normal, Option.getD_some, Bool.or_false, Bool.false_eq_true, up_zero, Nat.reduceAdd, binv, ↓opt_def, AV.isAny, AV.cells, St.set_same, Int.natCast_nonneg, Int.toNat_natCast, eq_self, decide_true, w4, i1, i2, g1, g2, v1, v2, k1, k2, hob, z24, z21, p1, p2, AV.fits, AV.one, List.all_cons, List.all_nil, Nat.reduceBEq, Bool.not_false, Bool.and_self, Nat.zero_add, Nat.mul_one, Nat.reduceLeDiff, and_self, St.set_set]
  refine h0 _ _ ?_
  try clear h0 K_h0
  refine T.regi hm ?_
  simp only [↓reduceIte, namesOf, List.any, I.names, aopsI, astep, ev, setd, List.set, List.getD, List.getElem?_cons_zero, List.getElem?_cons_succ, then_normal, Option.getD_some, Bool.or_false, Bool.false_eq_true, up_zero, binv, ↓opt_def, eq_self, v2]
  refine h1 _ _ ?_
  try clear h1 K_h1
  refine T.seq_k (fun K_h1 h1 => ?_)
  have f4 : decide (((1 : Nat) : Int) > 0) = true := rfl
  have w5 : IntKind.u32.wrap (48 + ((n / 100 : Nat) : Int)) = ((48 + n / 100 : Nat) : Int) := by
    rw [show 48 + ((n / 100 : Nat) : Int) = ((48 + n / 100 : Nat) : Int) by omega]; exact u32w (by omega)
  have w6 : IntKind.u8.wrap ((48 + n / 100 : Nat) : Int) = ((48 + n / 100 : Nat) : Int) := by
    simp [IntKind.wrap, IntKind.bits, IntKind.signed]; omega
  refine T.regi hm ?_
  simp only [↓reduceIte, namesOf, List.any, I.names, aopsI, astep, ev, setd, List.set, List.getD, List.getElem?_cons_zero, List.getElem?_cons_succ, then_normal, Option.getD_some, Bool.or_false, Bool.false_eq_true, up_zero, binv, ↓opt_def, eq_self, f4]
  refine h1 _ _ ?_
  try clear h1 K_h1
  refine T.cond rfl (fun _ => ?_) (fun h => by cases h)
  refine T.regi hm ?_
  simp only [↓reduceIte, namesOf, List.any, I.names, aopsI, astep, ev, setd, List.set, List.getD, List.getElem?_cons_zero, List.getElem?_cons_succ, List.length_cons, List.length_nil, Option.getD_some, Bool.or_false, Bool.false_eq_true, up_zero, Nat.reduceAdd, binv, ↓opt_def, AV.isAny, AV.cells, St.set_same, eq_self, decide_true, w5, w6, k3, z21, p3, AV.fits, AV.one, List.all_cons, List.all_nil, Nat.reduceBEq, Bool.not_false, Bool.and_self, Nat.zero_add, Nat.mul_one, Nat.reduceLeDiff, and_self, St.set_set, Int.le_refl, Int.toNat_zero]
  refine Fin.retn rfl ⟨rfl, ?_⟩
  rw [dg3 n hn, hd1, hd0]
  have e3 := dgc10 (n / 100) (by omega)
  simp only [bytesAV, List.map_cons, List.map_nil, List.cons_append, List.nil_append, e3]

end Go.VL

namespace Go.VL

open Go.Proofs

theorem sz_mk (l : List UInt8) : (⟨l.toArray⟩ : ByteArray).size = l.length := by simp [ByteArray.size]

theorem sb_add {a b : List UInt8} (h : a.length + b.length ≤ 4000000000) : sbinv .add ⟨a.toArray⟩ ⟨b.toArray⟩ = some (.str ⟨(a ++ b).toArray⟩) := by
  have e : (⟨a.toArray⟩ : ByteArray) ++ ⟨b.toArray⟩ = ⟨(a ++ b).toArray⟩ := by
    apply ByteArray.ext
    simp [ByteArray.data_append]
  simp only [sbinv, sz_mk, e]
  have hm : ¬ ((a.length + b.length : Nat) : Int) > IntKind.i64.max := by
    have : IntKind.i64.max = 9223372036854775807 := by decide
    omega
  rw [if_neg hm]

theorem ifmtU16_ok {n : Nat} {σ : St} (hT : Tabs σ) (hn : n < 18446744073709551616) : ACalls Tryd.prog n_ifmtU [.int .u64 (n : Int), .int .i64 16] σ (fun v σ' => Writ 16 n 16 v ∧ σ' = σ) := by
  refine s_ifmtU (fun wf => ?_)
  unfold c_ifmtU
  have e1 : ((16 : Int) == 10) = false := rfl
  refine T.seq_k (fun K_h0 h0 => ?_)
  refine T.regi hm ?_
  simp only [↓reduceIte, namesOf, List.any, I.names, aopsI, astep, ev, setd, List.set, List.cons_append, List.nil_append, List.length_cons, List.length_nil, List.replicate, then_normal, Bool.or_false, Bool.false_eq_true, up_zero, Nat.reduceAdd, Nat.reduceSub]
  refine h0 _ _ ?_
  try clear h0 K_h0
  refine T.seq_k (fun K_h1 h1 => ?_)
  refine T.seq_k (fun K_h0 h0 => ?_)
  refine T.regi hm ?_
  simp only [↓reduceIte, namesOf, List.any, I.names, aopsI, astep, ev, setd, List.set, List.getD, List.getElem?_cons_zero, List.getElem?_cons_succ, then_normal, Option.getD_some, Bool.or_false, Bool.false_eq_true, up_zero, binv, ↓opt_def, eq_self, e1]
  refine h0 _ _ ?_
  try clear h0 K_h0
  refine T.cond rfl (fun h => by cases h) (fun _ => T.skip ?_)
  refine h1 _ _ ?_
  try clear h1 K_h1
  refine T.seq_k (fun K_h1 h1 => ?_)
  refine T.regi hm ?_
  simp only [↓reduceIte, namesOf, List.any, I.names, aopsI, astep, ev, setd, List.set, List.getD, List.getElem?_cons_zero, List.getElem?_cons_succ, then_normal, Option.getD_some, Bool.or_false, Bool.false_eq_true, up_zero, ↓opt_def, List.map_cons, List.map_nil]
  refine (fbits_ok hT hn).mono ?_
  rintro v σ1 ⟨⟨k, k1, k2, k3, rfl⟩, rfl⟩
  try simp only [List.getElem?_cons_zero, List.getElem?_cons_succ]
  refine h1 _ _ ?_
  try clear h1 K_h1
  refine T.seq_k (fun K_h0 h0 => ?_)
  refine T.regi hm ?_
  simp only [↓reduceIte, namesOf, List.any, I.names, aopsI, astep, ev, setd, List.set, List.getD, List.getElem?_cons_zero, List.getElem?_cons_succ, then_normal, Option.getD_some, Bool.or_false, Bool.false_eq_true, up_zero]
  refine h0 _ _ ?_
  try clear h0 K_h0
  exact T.ret (Fin.ret rfl ⟨⟨k, k1, k2, k3, rfl⟩, rfl⟩)

set_option maxRecDepth 10000 in
theorem ifmtU10_ok {n : Nat} {σ : St} (hT : Tabs σ) (hn : n < 1000) : ACalls Tryd.prog n_ifmtU [.int .u64 (n : Int), .int .i64 10] σ (fun v σ' => Writ 10 n 3 v ∧ σ' = σ) := by
  refine s_ifmtU (fun wf => ?_)
  unfold c_ifmtU
  have e1 : ((10 : Int) == 10) = true := rfl
  refine T.seq_k (fun K_h0 h0 => ?_)
  refine T.regi hm ?_
  simp only [↓reduceIte, namesOf, List.any, I.names, aopsI, astep, ev, setd, List.set, List.cons_append, List.nil_append, List.length_cons, List.length_nil, List.replicate, then_normal, Bool.or_false, Bool.false_eq_true, up_zero, Nat.reduceAdd, Nat.reduceSub]
  refine h0 _ _ ?_
  try clear h0 K_h0
  refine T.seq_k (fun K_h1 h1 => ?_)
  refine T.seq_k (fun K_h0 h0 => ?_)
  refine T.regi hm ?_
  simp only [↓reduceIte, namesOf, List.any, I.names, aopsI, astep, ev, setd, List.set, List.getD, List.getElem?_cons_zero, List.getElem?_cons_succ, then_normal, Option.getD_some, Bool.or_false, Bool.false_eq_true, up_zero, binv, ↓opt_def, eq_self, e1]
  refine h0 _ _ ?_
  try clear h0 K_h0
  refine T.cond rfl (fun _ => ?_) (fun h => by cases h)
  refine T.seq_k (fun K_h1 h1 => ?_)
  by_cases h100 : n < 100
  · have f1 : decide ((n : Int) < 100) = true := decide_eq_true (by omega)
    have w1 : IntKind.i64.wrap (n : Int) = (n : Int) := wrap64 (by omega) (by omega)
    refine T.seq_k (fun K_h0 h0 => ?_)
    refine T.regi hm ?_
    simp only [↓reduceIte, namesOf, List.any, I.names, aopsI, astep, ev, setd, List.set, List.getD, List.getElem?_cons_zero, List.getElem?_cons_succ, then_normal, Option.getD_some, Bool.or_false, Bool.false_eq_true, up_zero, binv, ↓opt_def, eq_self, f1]
    refine h0 _ _ ?_
    try clear h0 K_h0
    refine T.cond rfl (fun _ => ?_) (fun h => by cases h)
    refine T.seq_k (fun K_h2 h2 => ?_)
    refine T.regi hm ?_
    simp only [↓reduceIte, namesOf, List.any, I.names, aopsI, astep, ev, setd, List.set, List.getD, List.getElem?_cons_zero, List.getElem?_cons_succ, then_normal, Option.getD_some, Bool.or_false, Bool.false_eq_true, up_zero, List.map_cons, List.map_nil, w1]
    refine (ismall_ok h100).mono ?_
    rintro v σ1 ⟨hv, rfl⟩
    try simp only [↓reduceIte, namesOf, List.any, I.names, aops, aopsI, aopsT, qstep, CPt, qget, Tbl.get, astep, ev, setd, List.set, List.getD, List.getElem?_cons_zero, List.getElem?_cons_succ, List.getElem?_nil, List.cons_append, List.nil_append, List.length_cons, List.length_nil, List.replicate, then_normal, inBlock_normal, Option.getD_some, Option.getD_none, Bool.or_false, Bool.or_true, Bool.true_or, Bool.false_or, Bool.false_eq_true, if_false, if_true, up_zero, Nat.reduceAdd, Nat.reduceSub, binv, ↓opt_def, AV.isAny, AV.cells, ldc, List.map_cons, List.map_nil, St.set_next, St.set_same, St.up_next, Int.natCast_nonneg, lt_len, le_len, Int.toNat_natCast, true_and, and_true, eq_self, reduceCtorEq, decide_true, List.length_singleton, er_int, er_bool, er_str, srcR, up_zero]
    refine h2 _ _ ?_
    try clear h2 K_h2
    exact T.ret (Fin.ret rfl ⟨hv, rfl⟩)
  have f1 : decide ((n : Int) < 100) = false := decide_eq_false (by omega)
  refine T.seq_k (fun K_h0 h0 => ?_)
  refine T.regi hm ?_
  simp only [↓reduceIte, namesOf, List.any, I.names, aopsI, astep, ev, setd, List.set, List.getD, List.getElem?_cons_zero, List.getElem?_cons_succ, then_normal, Option.getD_some, Bool.or_false, Bool.false_eq_true, up_zero, binv, ↓opt_def, eq_self, f1]
  refine h0 _ _ ?_
  try clear h0 K_h0
  refine T.cond rfl (fun h => by cases h) (fun _ => T.skip ?_)
  refine h1 _ _ ?_
  try clear h1 K_h1
  refine T.seq_k (fun K_h0 h0 => ?_)
  refine T.regi hm ?_
  simp only [↓reduceIte, namesOf, List.any, I.names, aopsI, astep, setd, List.set, List.length_cons, List.length_nil, then_normal, Bool.or_false, Nat.reduceAdd, eq_self]
  refine h0 _ _ ?_
  try clear h0 K_h0
  have hm0 : ((σ.up 1).set (σ.next + 0) (.obj (zeros 24 (.int .u8 0)))).res (σ.next + 0) = some (.obj (zeros 24 (.int .u8 0))) := St.set_same _ _ _
  have hL0 : Like σ ((σ.up 1).set (σ.next + 0) (.obj (zeros 24 (.int .u8 0)))) := (Like.refl σ).box (n := 1) (i := 0) _
  generalize ((σ.up 1).set (σ.next + 0) (.obj (zeros 24 (.int .u8 0)))) = t0 at hm0 hL0 ⊢
  have hlo : σ.next ≤ σ.next + 0 := by omega
  generalize σ.next + 0 = m at hm0 hlo ⊢
  refine T.seq_k (fun K_h1 h1 => ?_)
  refine T.regi hm ?_
  simp only [↓reduceIte, namesOf, List.any, I.names, aopsI, astep, ev, setd, List.set, List.getD, List.getElem?_cons_zero, List.getElem?_cons_succ, then_normal, Option.getD_some, Bool.or_false, Bool.false_eq_true, up_zero, List.map_cons, List.map_nil]
  refine (numd_ok (hT.like wf hL0) (by omega) hn).mono ?_
  rintro v σ1 ⟨rfl, rfl⟩
  try simp only [↓reduceIte, namesOf, List.any, I.names, aops, aopsI, aopsT, qstep, CPt, qget, Tbl.get, astep, ev, setd, List.set, List.getD, List.getElem?_cons_zero, List.getElem?_cons_succ, List.getElem?_nil, List.cons_append, List.nil_append, List.length_cons, List.length_nil, List.replicate, then_normal, inBlock_normal, Option.getD_some, Option.getD_none, Bool.or_false, Bool.or_true, Bool.true_or, Bool.false_or, Bool.false_eq_true, if_false, if_true, up_zero, Nat.reduceAdd, Nat.reduceSub, binv, ↓opt_def, AV.isAny, AV.cells, ldc, List.map_cons, List.map_nil, St.set_next, St.set_same, St.up_next, Int.natCast_nonneg, lt_len, le_len, Int.toNat_natCast, true_and, and_true, eq_self, reduceCtorEq, decide_true, List.length_singleton, er_int, er_bool, er_str, srcR, up_zero]
  refine h1 _ _ ?_
  try clear h1 K_h1
  have i1 : (0 : Int) < 3 := by decide
  have i2 : (3 : Int) ≤ ((24 : Nat) : Int) := by decide
  have i3 : ((3 : Int) - 0).toNat = 3 := rfl
  refine T.seq_k (fun K_h1 h1 => ?_)
  refine T.regi hm ?_
  simp only [↓reduceIte, namesOf, List.any, I.names, aopsI, astep, ev, setd, List.set, List.getD, List.getElem?_cons_zero, List.getElem?_cons_succ, then_normal, Option.getD_some, Bool.or_false, Bool.false_eq_true, up_zero, List.map_cons, List.map_nil, idx, i1, i2, i3, Int.le_refl, and_self, Int.toNat_zero, Nat.zero_mul, Nat.add_zero]
  refine (fb10_ok hn hm0).mono ?_
  rintro v σ2 ⟨rfl, rfl⟩
  try simp only [↓reduceIte, namesOf, List.any, I.names, aops, aopsI, aopsT, qstep, CPt, qget, Tbl.get, astep, ev, setd, List.set, List.getD, List.getElem?_cons_zero, List.getElem?_cons_succ, List.getElem?_nil, List.cons_append, List.nil_append, List.length_cons, List.length_nil, List.replicate, then_normal, inBlock_normal, Option.getD_some, Option.getD_none, Bool.or_false, Bool.or_true, Bool.true_or, Bool.false_or, Bool.false_eq_true, if_false, if_true, up_zero, Nat.reduceAdd, Nat.reduceSub, binv, ↓opt_def, AV.isAny, AV.cells, ldc, List.map_cons, List.map_nil, St.set_next, St.set_same, St.up_next, Int.natCast_nonneg, lt_len, le_len, Int.toNat_natCast, true_and, and_true, eq_self, reduceCtorEq, decide_true, List.length_singleton, er_int, er_bool, er_str, srcR, up_zero]
  refine h1 _ _ ?_
  try clear h1 K_h1
  have hm1 : (σ1.set m (.obj (bytesAV (dg 10 3 n) ++ zeros 21 (.int .u8 0)))).res m = some (.obj (bytesAV (dg 10 3 n) ++ zeros 21 (.int .u8 0))) := St.set_same _ _ _
  have hl3 : (bytesAV (dg 10 3 n)).length = 3 := by rw [bytesAV_len, dg_len]
  have j2 : 0 + 3 ≤ (bytesAV (dg 10 3 n) ++ zeros 21 (AV.int .u8 0)).length := by rw [List.length_append, hl3]; omega
  have j3 : ((bytesAV (dg 10 3 n) ++ zeros 21 (AV.int .u8 0)).drop 0).take 3 = bytesAV (dg 10 3 n) := by
    rw [List.drop_zero, List.take_append_of_le_length (by omega), List.take_of_length_le (by omega)]
  refine T.seq_k (fun K_h0 h0 => ?_)
  refine T.regi hm ?_
  simp only [↓reduceIte, namesOf, List.any, I.names, aopsI, astep, ev, setd, List.set, List.getD, List.getElem?_cons_zero, List.getElem?_cons_succ, then_normal, Option.getD_some, Bool.or_false, Bool.false_eq_true, up_zero, Nat.reduceAdd, ↓opt_def, St.set_same, idx, i1, i2, i3, j2, j3, Int.le_refl, and_self, Int.toNat_zero, Nat.zero_mul, Nat.add_zero, toBytes_bytes]
  refine h0 _ _ ?_
  try clear h0 K_h0
  exact T.ret (Fin.quiet rfl trivial ((hL0.set _ hlo).quiet wf) ⟨⟨3, by omega, by omega, by omega, rfl⟩, rfl⟩)

theorem fmtU_ok {b n most : Nat} {σ : St} (hT : Tabs σ) (hb : (b = 16 ∧ most = 16 ∧ n < 18446744073709551616) ∨ (b = 10 ∧ most = 3 ∧ n < 1000)) :
    ACalls Tryd.prog n_fmtU [.int .u64 (n : Int), .int .i64 (b : Int)] σ (fun v σ' => Writ b n most v ∧ σ' = σ) := by
  refine s_fmtU (fun wf => ?_)
  unfold c_fmtU
  refine T.seq_k (fun K_h0 h0 => ?_)
  refine T.regi hm ?_
  simp only [↓reduceIte, namesOf, List.any, I.names, aopsI, astep, ev, setd, List.set, List.cons_append, List.nil_append, List.length_cons, List.length_nil, List.replicate, then_normal, Bool.or_false, Bool.false_eq_true, up_zero, Nat.reduceAdd, Nat.reduceSub]
  refine h0 _ _ ?_
  try clear h0 K_h0
  refine T.seq_k (fun K_h1 h1 => ?_)
  refine T.regi hm ?_
  simp only [↓reduceIte, namesOf, List.any, I.names, aopsI, astep, ev, setd, List.set, List.getD, List.getElem?_cons_zero, List.getElem?_cons_succ, then_normal, Option.getD_some, Bool.or_false, Bool.false_eq_true, up_zero, List.map_cons, List.map_nil]
  have key : ACalls Tryd.prog n_ifmtU [.int .u64 (n : Int), .int .i64 (b : Int)] σ (fun v σ' => Writ b n most v ∧ σ' = σ) := by
    rcases hb with ⟨rfl, rfl, hn⟩ | ⟨rfl, rfl, hn⟩
    · exact ifmtU16_ok hT hn
    · exact ifmtU10_ok hT hn
  refine key.mono ?_
  rintro v σ1 ⟨hv, rfl⟩
  try simp only [↓reduceIte, namesOf, List.any, I.names, aops, aopsI, aopsT, qstep, CPt, qget, Tbl.get, astep, ev, setd, List.set, List.getD, List.getElem?_cons_zero, List.getElem?_cons_succ, List.getElem?_nil, List.cons_append, List.nil_append, List.length_cons, List.length_nil, List.replicate, then_normal, inBlock_normal, Option.getD_some, Option.getD_none, Bool.or_false, Bool.or_true, Bool.true_or, Bool.false_or, Bool.false_eq_true, if_false, if_true, up_zero, Nat.reduceAdd, Nat.reduceSub, binv, ↓opt_def, AV.isAny, AV.cells, ldc, List.map_cons, List.map_nil, St.set_next, St.set_same, St.up_next, Int.natCast_nonneg, lt_len, le_len, Int.toNat_natCast, true_and, and_true, eq_self, reduceCtorEq, decide_true, List.length_singleton, er_int, er_bool, er_str, srcR, up_zero]
  refine h1 _ _ ?_
  try clear h1 K_h1
  exact T.ret (Fin.ret rfl ⟨hv, rfl⟩)

theorem slHasPre_ok {s p : ByteArray} {σ : St} : ACalls Tryd.prog n_slHasPre [.str s, .str p] σ (fun v σ' => v = .bool (decide (p.size ≤ s.size ∧ s.extract 0 p.size = p)) ∧ σ' = σ) := by
  refine s_slHasPre (fun wf => ?_)
  unfold c_slHasPre
  refine T.seq_k (fun K_h0 h0 => ?_)
  refine T.regi hm ?_
  simp only [↓reduceIte, namesOf, List.any, I.names, aopsI, astep, ev, setd, List.set, List.cons_append, List.nil_append, List.length_cons, List.length_nil, List.replicate, then_normal, Bool.or_false, Bool.false_eq_true, up_zero, Nat.reduceAdd, Nat.reduceSub]
  refine h0 _ _ ?_
  try clear h0 K_h0
  refine T.seq_k (fun K_h1 h1 => ?_)
  by_cases hl : p.size ≤ s.size
  · have f1 : decide ((s.size : Int) ≥ (p.size : Int)) = true := decide_eq_true (by omega)
    have i1 : (p.size : Int) ≤ (s.size : Int) := by omega
    have e : decide (p.size ≤ s.size ∧ s.extract 0 p.size = p) = decide (s.extract 0 p.size = p) := by simp [hl]
    refine T.regi hm ?_
    simp only [↓reduceIte, namesOf, List.any, I.names, aopsI, astep, ev, setd, List.set, List.getD, List.getElem?_cons_zero, List.getElem?_cons_succ, then_normal, Option.getD_some, Bool.or_false, Bool.false_eq_true, up_zero, binv, ↓opt_def, Int.natCast_nonneg, Int.toNat_natCast, eq_self, decide_true, idx, i1, Int.le_refl, and_self, Int.toNat_zero, sbinv]
    refine h1 _ _ ?_
    try clear h1 K_h1
    exact T.ret (Fin.ret rfl ⟨by rw [e]; rfl, rfl⟩)
  · have f1 : decide ((s.size : Int) ≥ (p.size : Int)) = false := decide_eq_false (by omega)
    have e : decide (p.size ≤ s.size ∧ s.extract 0 p.size = p) = false := decide_eq_false (fun h => hl h.1)
    refine T.regi hm ?_
    simp only [↓reduceIte, namesOf, List.any, I.names, aopsI, astep, ev, setd, List.set, List.getD, List.getElem?_cons_zero, List.getElem?_cons_succ, then_normal, Option.getD_some, Bool.or_false, Bool.false_eq_true, up_zero, binv, ↓opt_def, eq_self, f1]
    refine h1 _ _ ?_
    try clear h1 K_h1
    exact T.ret (Fin.ret rfl ⟨by rw [e]; rfl, rfl⟩)

theorem hasPre_ok {s p : ByteArray} {σ : St} : ACalls Tryd.prog n_hasPre [.str s, .str p] σ (fun v σ' => v = .bool (decide (p.size ≤ s.size ∧ s.extract 0 p.size = p)) ∧ σ' = σ) := by
  refine s_hasPre (fun wf => ?_)
  unfold c_hasPre
  refine T.seq_k (fun K_h0 h0 => ?_)
  refine T.regi hm ?_
  simp only [↓reduceIte, namesOf, List.any, I.names, aopsI, astep, ev, setd, List.set, List.cons_append, List.nil_append, List.length_cons, List.length_nil, List.replicate, then_normal, Bool.or_false, Bool.false_eq_true, up_zero, Nat.reduceAdd, Nat.reduceSub]
  refine h0 _ _ ?_
  try clear h0 K_h0
  refine T.seq_k (fun K_h1 h1 => ?_)
  refine T.regi hm ?_
  simp only [↓reduceIte, namesOf, List.any, I.names, aopsI, astep, ev, setd, List.set, List.getD, List.getElem?_cons_zero, List.getElem?_cons_succ, then_normal, Option.getD_some, Bool.or_false, Bool.false_eq_true, up_zero, List.map_cons, List.map_nil]
  refine slHasPre_ok.mono ?_
  rintro v σ1 ⟨rfl, rfl⟩
  try simp only [↓reduceIte, namesOf, List.any, I.names, aops, aopsI, aopsT, qstep, CPt, qget, Tbl.get, astep, ev, setd, List.set, List.getD, List.getElem?_cons_zero, List.getElem?_cons_succ, List.getElem?_nil, List.cons_append, List.nil_append, List.length_cons, List.length_nil, List.replicate, then_normal, inBlock_normal, Option.getD_some, Option.getD_none, Bool.or_false, Bool.or_true, Bool.true_or, Bool.false_or, Bool.false_eq_true, if_false, if_true, up_zero, Nat.reduceAdd, Nat.reduceSub, binv, ↓opt_def, AV.isAny, AV.cells, ldc, List.map_cons, List.map_nil, St.set_next, St.set_same, St.up_next, Int.natCast_nonneg, lt_len, le_len, Int.toNat_natCast, true_and, and_true, eq_self, reduceCtorEq, decide_true, List.length_singleton, er_int, er_bool, er_str, srcR, up_zero]
  refine h1 _ _ ?_
  try clear h1 K_h1
  exact T.ret (Fin.ret rfl ⟨rfl, rfl⟩)

theorem bmul64_ok {c : Nat} {σ : St} (hc : c ≤ 1000) : ACalls Tryd.prog n_bmul64 [.int .u64 1, .int .u64 (c : Int)] σ (fun v σ' => v = .tup [.int .u64 0, .int .u64 (c : Int)] ∧ σ' = σ) := by
  refine s_bmul64 (fun wf => ?_)
  unfold c_bmul64
  have a1 : IntKind.u64.wrap ((BitVec.ofInt IntKind.u64.bits 1 &&& BitVec.ofInt IntKind.u64.bits 4294967295).toNat : Int) = 1 := by decide +kernel
  have a0 : IntKind.u64.wrap ((BitVec.ofInt IntKind.u64.bits 0 &&& BitVec.ofInt IntKind.u64.bits 4294967295).toNat : Int) = 0 := by decide +kernel
  have ac : IntKind.u64.wrap ((BitVec.ofInt IntKind.u64.bits (c : Int) &&& BitVec.ofInt IntKind.u64.bits 4294967295).toNat : Int) = (c : Int) := by
    rw [u64_and32 (by omega)]; congr 1; exact Nat.mod_eq_of_lt (by omega)
  have b1 : Int.fdiv 1 (2 ^ min (32 : Int).toNat IntKind.u64.bits) = 0 := by decide +kernel
  have b0 : Int.fdiv 0 (2 ^ min (32 : Int).toNat IntKind.u64.bits) = 0 := by decide +kernel
  have bc : Int.fdiv (c : Int) (2 ^ min (32 : Int).toNat IntKind.u64.bits) = 0 := by
    rw [u64_shr32, Nat.div_eq_of_lt (by omega)]; rfl
  have s32 : ¬ ((32 : Int) < 0) := by decide
  have m1 : IntKind.u64.wrap (1 * (c : Int)) = (c : Int) := by rw [Int.one_mul]; exact u64w (by omega)
  have m0 : IntKind.u64.wrap (0 * (c : Int)) = 0 := by rw [Int.zero_mul]; decide
  have z0 : IntKind.u64.wrap (0 + 0) = 0 := by decide
  have z1 : IntKind.u64.wrap (1 * 0) = 0 := by decide
  have z2 : IntKind.u64.wrap (0 * 0) = 0 := by decide
  refine T.seq_k (fun K_h0 h0 => ?_)
  refine T.regi hm ?_
  simp only [↓reduceIte, namesOf, List.any, I.names, aopsI, astep, ev, setd, List.set, List.cons_append, List.nil_append, List.length_cons, List.length_nil, List.replicate, then_normal, Bool.or_false, Bool.false_eq_true, up_zero, Nat.reduceAdd, Nat.reduceSub]
  refine h0 _ _ ?_
  try clear h0 K_h0
  refine T.seq_k (fun K_h0 h0 => ?_)
  refine T.regi hm ?_
  simp only [↓reduceIte, namesOf, List.any, I.names, aopsI, astep, ev, setd, List.set, List.getD, List.getElem?_cons_zero, List.getElem?_cons_succ, then_normal, Option.getD_some, Bool.or_false, Bool.false_eq_true, up_zero, binv, ↓opt_def, eq_self, a1]
  refine h0 _ _ ?_
  try clear h0 K_h0
  refine T.seq_k (fun K_h0 h0 => ?_)
  refine T.regi hm ?_
  simp only [↓reduceIte, namesOf, List.any, I.names, aopsI, astep, ev, setd, List.set, List.getD, List.getElem?_cons_zero, List.getElem?_cons_succ, then_normal, Option.getD_some, Bool.or_false, Bool.false_eq_true, up_zero, binv, ↓opt_def, eq_self, b1, s32]
  refine h0 _ _ ?_
  try clear h0 K_h0
  refine T.seq_k (fun K_h0 h0 => ?_)
  refine T.regi hm ?_
  simp only [↓reduceIte, namesOf, List.any, I.names, aopsI, astep, ev, setd, List.set, List.getD, List.getElem?_cons_zero, List.getElem?_cons_succ, then_normal, Option.getD_some, Bool.or_false, Bool.false_eq_true, up_zero, binv, ↓opt_def, eq_self, ac]
  refine h0 _ _ ?_
  try clear h0 K_h0
  refine T.seq_k (fun K_h0 h0 => ?_)
  refine T.regi hm ?_
  simp only [↓reduceIte, namesOf, List.any, I.names, aopsI, astep, ev, setd, List.set, List.getD, List.getElem?_cons_zero, List.getElem?_cons_succ, then_normal, Option.getD_some, Bool.or_false, Bool.false_eq_true, up_zero, binv, ↓opt_def, eq_self, bc, s32]
  refine h0 _ _ ?_
  try clear h0 K_h0
  refine T.seq_k (fun K_h0 h0 => ?_)
  refine T.regi hm ?_
  simp only [↓reduceIte, namesOf, List.any, I.names, aopsI, astep, ev, setd, List.set, List.getD, List.getElem?_cons_zero, List.getElem?_cons_succ, then_normal, Option.getD_some, Bool.or_false, Bool.false_eq_true, up_zero, binv, ↓opt_def, eq_self, m1]
  refine h0 _ _ ?_
  try clear h0 K_h0
  refine T.seq_k (fun K_h0 h0 => ?_)
  refine T.regi hm ?_
  simp only [↓reduceIte, namesOf, List.any, I.names, aopsI, astep, ev, setd, List.set, List.getD, List.getElem?_cons_zero, List.getElem?_cons_succ, then_normal, Option.getD_some, Bool.or_false, Bool.false_eq_true, up_zero, binv, ↓opt_def, eq_self, m0, bc, s32, z0]
  refine h0 _ _ ?_
  try clear h0 K_h0
  refine T.seq_k (fun K_h0 h0 => ?_)
  refine T.regi hm ?_
  simp only [↓reduceIte, namesOf, List.any, I.names, aopsI, astep, ev, setd, List.set, List.getD, List.getElem?_cons_zero, List.getElem?_cons_succ, then_normal, Option.getD_some, Bool.or_false, Bool.false_eq_true, up_zero, binv, ↓opt_def, eq_self, a0]
  refine h0 _ _ ?_
  try clear h0 K_h0
  refine T.seq_k (fun K_h0 h0 => ?_)
  refine T.regi hm ?_
  simp only [↓reduceIte, namesOf, List.any, I.names, aopsI, astep, ev, setd, List.set, List.getD, List.getElem?_cons_zero, List.getElem?_cons_succ, then_normal, Option.getD_some, Bool.or_false, Bool.false_eq_true, up_zero, binv, ↓opt_def, eq_self, b0, s32]
  refine h0 _ _ ?_
  try clear h0 K_h0
  refine T.seq_k (fun K_h0 h0 => ?_)
  refine T.regi hm ?_
  simp only [↓reduceIte, namesOf, List.any, I.names, aopsI, astep, ev, setd, List.set, List.getD, List.getElem?_cons_zero, List.getElem?_cons_succ, then_normal, Option.getD_some, Bool.or_false, Bool.false_eq_true, up_zero, binv, ↓opt_def, eq_self, z1, z0]
  refine h0 _ _ ?_
  try clear h0 K_h0
  refine T.seq_k (fun K_h0 h0 => ?_)
  refine T.regi hm ?_
  simp only [↓reduceIte, namesOf, List.any, I.names, aopsI, astep, ev, setd, List.set, List.getD, List.getElem?_cons_zero, List.getElem?_cons_succ, then_normal, Option.getD_some, Bool.or_false, Bool.false_eq_true, up_zero, binv, ↓opt_def, eq_self, z2, z0, b0, s32]
  refine h0 _ _ ?_
  try clear h0 K_h0
  refine T.seq_k (fun K_h0 h0 => ?_)
  refine T.regi hm ?_
  simp only [↓reduceIte, namesOf, List.any, I.names, aopsI, astep, ev, setd, List.set, List.getD, List.getElem?_cons_zero, List.getElem?_cons_succ, then_normal, Option.getD_some, Bool.or_false, Bool.false_eq_true, up_zero, binv, ↓opt_def, eq_self, m1]
  refine h0 _ _ ?_
  try clear h0 K_h0
  exact T.ret (Fin.ret rfl ⟨rfl, rfl⟩)

theorem bmul_ok {c : Nat} {σ : St} (hc : c ≤ 1000) : ACalls Tryd.prog n_bmul [.int .u64 1, .int .u64 (c : Int)] σ (fun v σ' => v = .tup [.int .u64 0, .int .u64 (c : Int)] ∧ σ' = σ) := by
  refine s_bmul (fun wf => ?_)
  unfold c_bmul
  refine T.seq_k (fun K_h0 h0 => ?_)
  refine T.regi hm ?_
  simp only [↓reduceIte, namesOf, List.any, I.names, aopsI, astep, ev, setd, List.set, List.cons_append, List.nil_append, List.length_cons, List.length_nil, List.replicate, then_normal, Bool.or_false, Bool.false_eq_true, up_zero, Nat.reduceAdd, Nat.reduceSub]
  refine h0 _ _ ?_
  try clear h0 K_h0
  refine T.seq_k (fun K_h1 h1 => ?_)
  refine T.cond rfl (fun h => by cases h) (fun _ => T.skip ?_)
  refine h1 _ _ ?_
  try clear h1 K_h1
  refine T.seq_k (fun K_h1 h1 => ?_)
  refine T.regi hm ?_
  simp only [↓reduceIte, namesOf, List.any, I.names, aopsI, astep, ev, setd, List.set, List.getD, List.getElem?_cons_zero, List.getElem?_cons_succ, then_normal, Option.getD_some, Bool.or_false, Bool.false_eq_true, up_zero, ↓opt_def, List.map_cons, List.map_nil]
  refine (bmul64_ok hc).mono ?_
  rintro v σ1 ⟨rfl, rfl⟩
  try simp only [List.getElem?_cons_zero, List.getElem?_cons_succ]
  refine h1 _ _ ?_
  try clear h1 K_h1
  refine T.seq_k (fun K_h0 h0 => ?_)
  refine T.regi hm ?_
  simp only [↓reduceIte, namesOf, List.any, I.names, aopsI, astep, ev, setd, List.set, List.getD, List.getElem?_cons_zero, List.getElem?_cons_succ, then_normal, Option.getD_some, Bool.or_false, Bool.false_eq_true, up_zero]
  refine h0 _ _ ?_
  try clear h0 K_h0
  exact T.ret (Fin.ret rfl ⟨rfl, rfl⟩)

theorem zeros_cut (c : Nat) (h : c ≤ 64) : sZe.extract 0 c = ⟨(List.replicate c 48).toArray⟩ := by
  have : ∀ c : Nat, c < 65 → sZe.extract 0 c = ⟨(List.replicate c 48).toArray⟩ := by decide +kernel
  exact this c (by omega)

set_option maxRecDepth 10000 in
theorem srep_ok {c : Nat} {σ : St} (hc : c ≤ 16) : ACalls Tryd.prog n_srep [.str ⟨#[48]⟩, .int .i64 (c : Int)] σ (fun v σ' => v = .str ⟨(List.replicate c 48).toArray⟩ ∧ σ' = σ) := by
  refine s_srep (fun wf => ?_)
  unfold c_srep
  refine T.seq_k (fun K_h0 h0 => ?_)
  refine T.regi hm ?_
  simp only [↓reduceIte, namesOf, List.any, I.names, aopsI, astep, ev, setd, List.set, List.cons_append, List.nil_append, List.length_cons, List.length_nil, List.replicate, then_normal, Bool.or_false, Bool.false_eq_true, up_zero, Nat.reduceAdd, Nat.reduceSub]
  refine h0 _ _ ?_
  try clear h0 K_h0
  refine T.seq_k (fun K_h1 h1 => ?_)
  refine T.seq_k (fun K_h0 h0 => ?_)
  refine T.regi hm ?_
  simp only [↓reduceIte, namesOf, List.any, I.names, aopsI, astep, ev, setd, List.set, List.getD, List.getElem?_cons_zero, List.getElem?_cons_succ, then_normal, Option.getD_some, Bool.or_false, Bool.false_eq_true, up_zero]
  refine h0 _ _ ?_
  try clear h0 K_h0
  refine T.block ?_
  by_cases h0 : c = 0
  · subst h0
    have f0 : (((0 : Nat) : Int) == 0) = true := rfl
    refine T.seq_k (fun K_h0 h0 => ?_)
    refine T.regi hm ?_
    simp only [↓reduceIte, namesOf, List.any, I.names, aopsI, astep, ev, setd, List.set, List.getD, List.getElem?_cons_zero, List.getElem?_cons_succ, List.replicate, then_normal, Option.getD_some, Bool.or_false, Bool.false_eq_true, up_zero, binv, ↓opt_def, eq_self, f0]
    refine h0 _ _ ?_
    try clear h0 K_h0
    refine T.cond rfl (fun _ => ?_) (fun h => by cases h)
    refine T.seq_k (fun K_h0 h0 => ?_)
    refine T.regi hm ?_
    simp only [↓reduceIte, namesOf, List.any, I.names, aopsI, astep, ev, setd, List.set, List.replicate, then_normal, Bool.or_false, Bool.false_eq_true, up_zero]
    refine h0 _ _ ?_
    try clear h0 K_h0
    exact T.ret (Fin.ret rfl ⟨rfl, rfl⟩)
  have f0 : ((c : Int) == 0) = false := by simpa using h0
  refine T.seq_k (fun K_h0 h0 => ?_)
  refine T.regi hm ?_
  simp only [↓reduceIte, namesOf, List.any, I.names, aopsI, astep, ev, setd, List.set, List.getD, List.getElem?_cons_zero, List.getElem?_cons_succ, then_normal, Option.getD_some, Bool.or_false, Bool.false_eq_true, up_zero, binv, ↓opt_def, eq_self, f0]
  refine h0 _ _ ?_
  try clear h0 K_h0
  refine T.cond rfl (fun h => by cases h) (fun _ => ?_)
  by_cases h1c : c = 1
  · subst h1c
    have f1 : (((1 : Nat) : Int) == 1) = true := rfl
    refine T.seq_k (fun K_h0 h0 => ?_)
    refine T.regi hm ?_
    simp only [↓reduceIte, namesOf, List.any, I.names, aopsI, astep, ev, setd, List.set, List.getD, List.getElem?_cons_zero, List.getElem?_cons_succ, List.replicate, then_normal, Option.getD_some, Bool.or_false, Bool.false_eq_true, up_zero, binv, ↓opt_def, eq_self, f1]
    refine h0 _ _ ?_
    try clear h0 K_h0
    refine T.cond rfl (fun _ => ?_) (fun h => by cases h)
    refine T.seq_k (fun K_h0 h0 => ?_)
    refine T.regi hm ?_
    simp only [↓reduceIte, namesOf, List.any, I.names, aopsI, astep, ev, setd, List.set, List.getD, List.getElem?_cons_zero, List.getElem?_cons_succ, List.replicate, then_normal, Option.getD_some, Bool.or_false, Bool.false_eq_true, up_zero]
    refine h0 _ _ ?_
    try clear h0 K_h0
    exact T.ret (Fin.ret rfl ⟨rfl, rfl⟩)
  have f1 : ((c : Int) == 1) = false := by simp; omega
  refine T.seq_k (fun K_h0 h0 => ?_)
  refine T.regi hm ?_
  simp only [↓reduceIte, namesOf, List.any, I.names, aopsI, astep, ev, setd, List.set, List.getD, List.getElem?_cons_zero, List.getElem?_cons_succ, then_normal, Option.getD_some, Bool.or_false, Bool.false_eq_true, up_zero, binv, ↓opt_def, eq_self, f1]
  refine h0 _ _ ?_
  try clear h0 K_h0
  refine T.cond rfl (fun h => by cases h) (fun _ => T.skip ?_)
  try simp only [then_normal, inBlock_normal, inBlock_normal]
  refine h1 _ _ ?_
  try clear h1 K_h1
  refine T.seq_k (fun K_h1 h1 => ?_)
  have f2 : decide ((c : Int) < 0) = false := decide_eq_false (by omega)
  refine T.seq_k (fun K_h0 h0 => ?_)
  refine T.regi hm ?_
  simp only [↓reduceIte, namesOf, List.any, I.names, aopsI, astep, ev, setd, List.set, List.getD, List.getElem?_cons_zero, List.getElem?_cons_succ, then_normal, Option.getD_some, Bool.or_false, Bool.false_eq_true, up_zero, binv, ↓opt_def, eq_self, f2]
  refine h0 _ _ ?_
  try clear h0 K_h0
  refine T.cond rfl (fun h => by cases h) (fun _ => T.skip ?_)
  refine h1 _ _ ?_
  try clear h1 K_h1
  refine T.seq_k (fun K_h1 h1 => ?_)
  have hs1 : ((⟨#[48]⟩ : ByteArray).size : Int) = 1 := rfl
  have w1 : IntKind.u64.wrap 1 = 1 := by decide
  have w2 : IntKind.u64.wrap (c : Int) = (c : Int) := u64w (by omega)
  refine T.regi hm ?_
  simp only [↓reduceIte, namesOf, List.any, I.names, aopsI, astep, ev, setd, List.set, List.getD, List.getElem?_cons_zero, List.getElem?_cons_succ, then_normal, Option.getD_some, Bool.or_false, Bool.false_eq_true, up_zero, ↓opt_def, List.map_cons, List.map_nil, hs1, w1, w2]
  refine (bmul_ok (by omega)).mono ?_
  rintro v σ1 ⟨rfl, rfl⟩
  try simp only [List.getElem?_cons_zero, List.getElem?_cons_succ]
  refine h1 _ _ ?_
  try clear h1 K_h1
  refine T.seq_k (fun K_h1 h1 => ?_)
  have f3 : decide ((0 : Int) > 0) = false := rfl
  have f4 : decide ((c : Int) > 9223372036854775807) = false := decide_eq_false (by omega)
  refine T.seq_k (fun K_h0 h0 => ?_)
  refine T.regi hm ?_
  simp only [↓reduceIte, namesOf, List.any, I.names, aopsI, astep, ev, setd, List.set, List.getD, List.getElem?_cons_zero, List.getElem?_cons_succ, then_normal, Option.getD_some, Bool.or_false, Bool.false_eq_true, up_zero, binv, ↓opt_def, eq_self, f3, f4]
  refine h0 _ _ ?_
  try clear h0 K_h0
  refine T.cond rfl (fun h => by cases h) (fun _ => T.skip ?_)
  refine h1 _ _ ?_
  try clear h1 K_h1
  have w3 : IntKind.i64.wrap (c : Int) = (c : Int) := wrap64 (by omega) (by omega)
  refine T.seq_k (fun K_h0 h0 => ?_)
  refine T.regi hm ?_
  simp only [↓reduceIte, namesOf, List.any, I.names, aopsI, astep, ev, setd, List.set, List.getD, List.getElem?_cons_zero, List.getElem?_cons_succ, then_normal, Option.getD_some, Bool.or_false, Bool.false_eq_true, up_zero, w3]
  refine h0 _ _ ?_
  try clear h0 K_h0
  refine T.seq_k (fun K_h1 h1 => ?_)
  have f5 : ((1 : Int) == 0) = false := rfl
  refine T.seq_k (fun K_h0 h0 => ?_)
  refine T.regi hm ?_
  simp only [↓reduceIte, namesOf, List.any, I.names, aopsI, astep, ev, setd, List.set, List.getD, List.getElem?_cons_zero, List.getElem?_cons_succ, then_normal, Option.getD_some, Bool.or_false, Bool.false_eq_true, up_zero, binv, ↓opt_def, eq_self, hs1, f5]
  refine h0 _ _ ?_
  try clear h0 K_h0
  refine T.cond rfl (fun h => by cases h) (fun _ => T.skip ?_)
  refine h1 _ _ ?_
  try clear h1 K_h1
  refine T.seq_k (fun K_h1 h1 => ?_)
  have i0 : (0 : Int) < 1 := by decide
  have g0 : (⟨#[48]⟩ : ByteArray).data.toList[(0 : Int).toNat]? = some 48 := rfl
  have n48 : (((48 : UInt8).toNat : Nat) : Int) = 48 := rfl
  refine T.seq_k (fun K_h0 h0 => ?_)
  refine T.regi hm ?_
  simp only [↓reduceIte, namesOf, List.any, I.names, aopsI, astep, ev, setd, List.set, List.getD, List.getElem?_cons_zero, List.getElem?_cons_succ, then_normal, Option.getD_some, Bool.or_false, Bool.false_eq_true, up_zero, hs1, i0, g0, n48, Int.le_refl, and_self]
  refine h0 _ _ ?_
  try clear h0 K_h0
  refine T.block ?_
  refine T.seq_k (fun K_h2 h2 => ?_)
  have k1 : ((48 : Int) == 32) = false := rfl
  have k2 : ((48 : Int) == 45) = false := rfl
  have k3 : ((48 : Int) == 48) = true := rfl
  refine T.seq_k (fun K_h0 h0 => ?_)
  refine T.regi hm ?_
  simp only [↓reduceIte, namesOf, List.any, I.names, aopsI, astep, ev, setd, List.set, List.getD, List.getElem?_cons_zero, List.getElem?_cons_succ, then_normal, Option.getD_some, Bool.or_false, Bool.false_eq_true, up_zero, binv, ↓opt_def, eq_self, k1]
  refine h0 _ _ ?_
  try clear h0 K_h0
  refine T.cond rfl (fun h => by cases h) (fun _ => ?_)
  refine T.seq_k (fun K_h0 h0 => ?_)
  refine T.regi hm ?_
  simp only [↓reduceIte, namesOf, List.any, I.names, aopsI, astep, ev, setd, List.set, List.getD, List.getElem?_cons_zero, List.getElem?_cons_succ, then_normal, Option.getD_some, Bool.or_false, Bool.false_eq_true, up_zero, binv, ↓opt_def, eq_self, k2]
  refine h0 _ _ ?_
  try clear h0 K_h0
  refine T.cond rfl (fun h => by cases h) (fun _ => ?_)
  refine T.seq_k (fun K_h0 h0 => ?_)
  refine T.regi hm ?_
  simp only [↓reduceIte, namesOf, List.any, I.names, aopsI, astep, ev, setd, List.set, List.getD, List.getElem?_cons_zero, List.getElem?_cons_succ, then_normal, Option.getD_some, Bool.or_false, Bool.false_eq_true, up_zero, binv, ↓opt_def, eq_self, k3]
  refine h0 _ _ ?_
  try clear h0 K_h0
  refine T.cond rfl (fun _ => T.skip ?_) (fun h => by cases h)
  refine h2 _ _ ?_
  try clear h2 K_h2
  refine T.cond rfl (fun _ => ?_) (fun h => by cases h)
  refine T.block ?_
  have q1 : decide ((⟨#[48]⟩ : ByteArray).size ≤ sSp.size ∧ sSp.extract 0 (⟨#[48]⟩ : ByteArray).size = ⟨#[48]⟩) = false := by decide +kernel
  have q2 : decide ((⟨#[48]⟩ : ByteArray).size ≤ sDa.size ∧ sDa.extract 0 (⟨#[48]⟩ : ByteArray).size = ⟨#[48]⟩) = false := by decide +kernel
  have q3 : decide ((⟨#[48]⟩ : ByteArray).size ≤ sZe.size ∧ sZe.extract 0 (⟨#[48]⟩ : ByteArray).size = ⟨#[48]⟩) = true := by decide +kernel
  have l1 : decide ((c : Int) ≤ 128) = true := decide_eq_true (by omega)
  have l2 : decide ((c : Int) ≤ 64) = true := decide_eq_true (by omega)
  refine T.seq_k (fun K_h2 h2 => ?_)
  refine T.regi hm ?_
  simp only [↓reduceIte, namesOf, List.any, I.names, aopsI, astep, ev, setd, List.set, List.getD, List.getElem?_cons_zero, List.getElem?_cons_succ, then_normal, Option.getD_some, Bool.or_false, Bool.false_eq_true, up_zero, binv, ↓opt_def, List.map_cons, List.map_nil, eq_self, l1]
  refine hasPre_ok.mono ?_
  rintro v σ1 ⟨rfl, rfl⟩
  try simp only [q1]
  refine h2 _ _ ?_
  try clear h2 K_h2
  refine T.cond rfl (fun h => by cases h) (fun _ => ?_)
  refine T.seq_k (fun K_h2 h2 => ?_)
  refine T.regi hm ?_
  simp only [↓reduceIte, namesOf, List.any, I.names, aopsI, astep, ev, setd, List.set, List.getD, List.getElem?_cons_zero, List.getElem?_cons_succ, then_normal, Option.getD_some, Bool.or_false, Bool.false_eq_true, up_zero, binv, ↓opt_def, List.map_cons, List.map_nil, eq_self, l1]
  refine hasPre_ok.mono ?_
  rintro v σ1 ⟨rfl, rfl⟩
  try simp only [q2]
  refine h2 _ _ ?_
  try clear h2 K_h2
  refine T.cond rfl (fun h => by cases h) (fun _ => ?_)
  refine T.seq_k (fun K_h2 h2 => ?_)
  refine T.regi hm ?_
  simp only [↓reduceIte, namesOf, List.any, I.names, aopsI, astep, ev, setd, List.set, List.getD, List.getElem?_cons_zero, List.getElem?_cons_succ, then_normal, Option.getD_some, Bool.or_false, Bool.false_eq_true, up_zero, binv, ↓opt_def, List.map_cons, List.map_nil, eq_self, l2]
  refine hasPre_ok.mono ?_
  rintro v σ1 ⟨rfl, rfl⟩
  try simp only [q3]
  refine h2 _ _ ?_
  try clear h2 K_h2
  refine T.cond rfl (fun _ => ?_) (fun h => by cases h)
  have i3 : (c : Int) ≤ (sZe.size : Int) := by rw [sZe_size]; omega
  refine T.seq_k (fun K_h0 h0 => ?_)
  refine T.regi hm ?_
  simp only [↓reduceIte, namesOf, List.any, I.names, aopsI, astep, ev, setd, List.set, List.getD, List.getElem?_cons_zero, List.getElem?_cons_succ, then_normal, Option.getD_some, Bool.or_false, Bool.false_eq_true, up_zero, Int.natCast_nonneg, Int.toNat_natCast, idx, i3, Int.le_refl, and_self, Int.toNat_zero, zeros_cut c (by omega)]
  refine h0 _ _ ?_
  try clear h0 K_h0
  exact T.ret (Fin.ret rfl ⟨rfl, rfl⟩)

/-- so many digits of a number, with leading zeros -/
theorem mDig_ok {b n most : Nat} {σ : St} (hT : Tabs σ) (hb : (b = 16 ∧ most = 16 ∧ n < 18446744073709551616) ∨ (b = 10 ∧ most = 3 ∧ n < 1000)) :
    ACalls Tryd.prog n_mDig [.int .u64 (n : Int), .int .i64 (b : Int), .int .i64 (most : Int)] σ (fun v σ' => v = .str ⟨(dg b most n).toArray⟩ ∧ σ' = σ) := by
  have hmost : most ≤ 16 := by rcases hb with ⟨_, rfl, _⟩ | ⟨_, rfl, _⟩ <;> omega
  refine s_mDig (fun wf => ?_)
  unfold c_mDig
  refine T.seq_k (fun K_h0 h0 => ?_)
  refine T.regi hm ?_
  simp only [↓reduceIte, namesOf, List.any, I.names, aopsI, astep, ev, setd, List.set, List.cons_append, List.nil_append, List.length_cons, List.length_nil, List.replicate, then_normal, Bool.or_false, Bool.false_eq_true, up_zero, Nat.reduceAdd, Nat.reduceSub]
  refine h0 _ _ ?_
  try clear h0 K_h0
  refine T.seq_k (fun K_h1 h1 => ?_)
  refine T.regi hm ?_
  simp only [↓reduceIte, namesOf, List.any, I.names, aopsI, astep, ev, setd, List.set, List.getD, List.getElem?_cons_zero, List.getElem?_cons_succ, then_normal, Option.getD_some, Bool.or_false, Bool.false_eq_true, up_zero, List.map_cons, List.map_nil]
  refine (fmtU_ok hT hb).mono ?_
  rintro v σ1 ⟨⟨k, k1, k2, k3, rfl⟩, rfl⟩
  try simp only [↓reduceIte, namesOf, List.any, I.names, aops, aopsI, aopsT, qstep, CPt, qget, Tbl.get, astep, ev, setd, List.set, List.getD, List.getElem?_cons_zero, List.getElem?_cons_succ, List.getElem?_nil, List.cons_append, List.nil_append, List.length_cons, List.length_nil, List.replicate, then_normal, inBlock_normal, Option.getD_some, Option.getD_none, Bool.or_false, Bool.or_true, Bool.true_or, Bool.false_or, Bool.false_eq_true, if_false, if_true, up_zero, Nat.reduceAdd, Nat.reduceSub, binv, ↓opt_def, AV.isAny, AV.cells, ldc, List.map_cons, List.map_nil, St.set_next, St.set_same, St.up_next, Int.natCast_nonneg, lt_len, le_len, Int.toNat_natCast, true_and, and_true, eq_self, reduceCtorEq, decide_true, List.length_singleton, er_int, er_bool, er_str, srcR, up_zero]
  refine h1 _ _ ?_
  try clear h1 K_h1
  have hsz : ((⟨(dg b k n).toArray⟩ : ByteArray).size : Int) = (k : Int) := by rw [sz_mk, dg_len]
  have w1 : IntKind.i64.wrap ((most : Int) - (k : Int)) = ((most - k : Nat) : Int) := by rw [wrap64 (by omega) (by omega)]; omega
  have w2 : ((0 : Int) > ((most - k : Nat) : Int)) = False := eq_false (by omega)
  have hadd : sbinv .add ⟨(List.replicate (most - k) (48 : UInt8)).toArray⟩ ⟨(dg b k n).toArray⟩ = some (.str ⟨(dg b most n).toArray⟩) := by
    rw [sb_add (by rw [List.length_replicate, dg_len]; omega), ← dg_pad k3, show most - k + k = most by omega]
  refine T.seq_k (fun K_h1 h1 => ?_)
  refine T.regi hm ?_
  simp only [↓reduceIte, namesOf, List.any, I.names, aopsI, astep, ev, setd, List.set, List.getD, List.getElem?_cons_zero, List.getElem?_cons_succ, then_normal, Option.getD_some, Bool.or_false, Bool.false_eq_true, up_zero, binv, ↓opt_def, List.map_cons, List.map_nil, eq_self, hsz, w1, w2, mx2, List.foldlM, bind, Option.bind, pure]
  refine (srep_ok (by omega)).mono ?_
  rintro v σ1 ⟨rfl, rfl⟩
  try simp only [hadd]
  refine h1 _ _ ?_
  try clear h1 K_h1
  exact T.ret (Fin.ret rfl ⟨rfl, rfl⟩)

theorem dig16_cut (d : Nat) (h : d < 16) : sDig16.extract d (d + 1) = ⟨[dgc d].toArray⟩ := by
  have : ∀ d : Nat, d < 16 → sDig16.extract d (d + 1) = ⟨[dgc d].toArray⟩ := by decide +kernel
  exact this d h

theorem rDig_ok {b : Nat} (hb : b = 16 ∨ b = 10) : ∀ {k n : Nat} {σ : St}, n < 18446744073709551616 → k ≤ 16 →
    ACalls Tryd.prog n_rDig [.int .u64 (n : Int), .int .u64 (b : Int), .int .i64 (k : Int)] σ (fun v σ' => v = .str ⟨(dg b k n).toArray⟩ ∧ σ' = σ)
  | 0, n, σ, hn, hk => by
    refine s_rDig (fun wf => ?_)
    unfold c_rDig
    have f1 : (((0 : Nat) : Int) == 0) = true := rfl
    refine T.seq_k (fun K_h0 h0 => ?_)
    refine T.regi hm ?_
    simp only [↓reduceIte, namesOf, List.any, I.names, aopsI, astep, ev, setd, List.set, List.cons_append, List.nil_append, List.length_cons, List.length_nil, List.replicate, then_normal, Bool.or_false, Bool.false_eq_true, up_zero, Nat.reduceAdd, Nat.reduceSub]
    refine h0 _ _ ?_
    try clear h0 K_h0
    refine T.seq_k (fun K_h1 h1 => ?_)
    refine T.seq_k (fun K_h0 h0 => ?_)
    refine T.regi hm ?_
    simp only [↓reduceIte, namesOf, List.any, I.names, aopsI, astep, ev, setd, List.set, List.getD, List.getElem?_cons_zero, List.getElem?_cons_succ, then_normal, Option.getD_some, Bool.or_false, Bool.false_eq_true, up_zero, binv, ↓opt_def, eq_self, f1]
    refine h0 _ _ ?_
    try clear h0 K_h0
    refine T.cond rfl (fun _ => ?_) (fun h => by cases h)
    refine T.seq_k (fun K_h0 h0 => ?_)
    refine T.regi hm ?_
    simp only [↓reduceIte, namesOf, List.any, I.names, aopsI, astep, ev, setd, List.set, then_normal, Bool.or_false, Bool.false_eq_true, up_zero]
    refine h0 _ _ ?_
    try clear h0 K_h0
    exact T.ret (Fin.ret rfl ⟨rfl, rfl⟩)
  | k + 1, n, σ, hn, hk => by
    refine s_rDig (fun wf => ?_)
    unfold c_rDig
    have f1 : (((k + 1 : Nat) : Int) == 0) = false := by simp; omega
    have z1 : ((b : Int) = 0) = False := eq_false (by omega)
    have m1 : (n : Int).tmod (b : Int) = ((n % b : Nat) : Int) := tmodN n b
    have m2 : (n : Int).tdiv (b : Int) = ((n / b : Nat) : Int) := tdivN n b
    have hd : n / b < 18446744073709551616 := Nat.lt_of_le_of_lt (Nat.div_le_self _ _) hn
    have hr : n % b < b := Nat.mod_lt _ (by omega)
    have w1 : IntKind.u64.wrap ((n / b : Nat) : Int) = ((n / b : Nat) : Int) := u64w hd
    have w2 : IntKind.i64.wrap (((k + 1 : Nat) : Int) - 1) = (k : Int) := by rw [wrap64 (by omega) (by omega)]; omega
    have w3 : IntKind.u64.wrap (((n % b : Nat) : Int) + 1) = ((n % b + 1 : Nat) : Int) := by
      rw [show ((n % b : Nat) : Int) + 1 = ((n % b + 1 : Nat) : Int) by omega]; exact u64w (by omega)
    have i1 : ((n % b : Nat) : Int) ≤ ((n % b + 1 : Nat) : Int) := by omega
    have i2 : ((n % b + 1 : Nat) : Int) ≤ (sDig16.size : Int) := by rw [sDig16_size]; omega
    have hc := dig16_cut (n % b) (by omega)
    have hadd : sbinv .add ⟨(dg b k (n / b)).toArray⟩ ⟨[dgc (n % b)].toArray⟩ = some (.str ⟨(dg b (k + 1) n).toArray⟩) := sb_add (by rw [dg_len]; simp; omega)
    refine T.seq_k (fun K_h0 h0 => ?_)
    refine T.regi hm ?_
    simp only [↓reduceIte, namesOf, List.any, I.names, aopsI, astep, ev, setd, List.set, List.cons_append, List.nil_append, List.length_cons, List.length_nil, List.replicate, then_normal, Bool.or_false, Bool.false_eq_true, up_zero, Nat.reduceAdd, Nat.reduceSub]
    refine h0 _ _ ?_
    try clear h0 K_h0
    refine T.seq_k (fun K_h1 h1 => ?_)
    refine T.seq_k (fun K_h0 h0 => ?_)
    refine T.regi hm ?_
    simp only [↓reduceIte, namesOf, List.any, I.names, aopsI, astep, ev, setd, List.set, List.getD, List.getElem?_cons_zero, List.getElem?_cons_succ, then_normal, Option.getD_some, Bool.or_false, Bool.false_eq_true, up_zero, binv, ↓opt_def, eq_self, f1]
    refine h0 _ _ ?_
    try clear h0 K_h0
    refine T.cond rfl (fun h => by cases h) (fun _ => T.skip ?_)
    refine h1 _ _ ?_
    try clear h1 K_h1
    refine T.seq_k (fun K_h0 h0 => ?_)
    refine T.regi hm ?_
    simp only [↓reduceIte, namesOf, List.any, I.names, aopsI, astep, ev, setd, List.set, then_normal, Bool.or_false, Bool.false_eq_true, up_zero]
    refine h0 _ _ ?_
    try clear h0 K_h0
    refine T.seq_k (fun K_h0 h0 => ?_)
    refine T.regi hm ?_
    simp only [↓reduceIte, namesOf, List.any, I.names, aopsI, astep, ev, setd, List.set, List.getD, List.getElem?_cons_zero, List.getElem?_cons_succ, then_normal, Option.getD_some, Bool.or_false, Bool.false_eq_true, up_zero, binv, ↓opt_def, eq_self, z1, m1]
    refine h0 _ _ ?_
    try clear h0 K_h0
    refine T.seq_k (fun K_h1 h1 => ?_)
    refine T.regi hm ?_
    simp only [↓reduceIte, namesOf, List.any, I.names, aopsI, astep, ev, setd, List.set, List.getD, List.getElem?_cons_zero, List.getElem?_cons_succ, then_normal, Option.getD_some, Bool.or_false, Bool.false_eq_true, up_zero, binv, ↓opt_def, List.map_cons, List.map_nil, eq_self, z1, m2, w1, w2]
    refine ⟨_, rDig_ok hb hd (by omega), ?_⟩
    try simp only [↓reduceIte, ev, List.getD, List.getElem?_cons_zero, List.getElem?_cons_succ, Option.getD_some, Int.natCast_nonneg, Int.toNat_natCast, w3, idx, i1, i2, and_self, hc, hadd]
    refine h1 _ _ ?_
    try clear h1 K_h1
    exact T.ret (Fin.ret rfl ⟨rfl, rfl⟩)

end Go.VL

namespace Go.VL

open Go.Proofs

theorem slIdxB_ok {s : ByteArray} {c : UInt8} {σ : St} : ACalls Tryd.prog n_slIdxB [.str s, .int .u8 (c.toNat : Int)] σ (fun v σ' => v = .int .i64 (Lib.indexByte s.data.toList c) ∧ σ' = σ) := by
  refine s_slIdxB (fun wf => ?_)
  unfold c_slIdxB
  have hc : c.toNat.toUInt8 = c := by simp
  refine T.seq_k (fun K_h0 h0 => ?_)
  refine T.regi hm ?_
  simp only [↓reduceIte, namesOf, List.any, I.names, aopsI, astep, ev, setd, List.set, List.cons_append, List.nil_append, List.length_cons, List.length_nil, List.replicate, then_normal, Bool.or_false, Bool.false_eq_true, up_zero, Nat.reduceAdd, Nat.reduceSub]
  refine h0 _ _ ?_
  try clear h0 K_h0
  refine T.seq_k (fun K_h0 h0 => ?_)
  refine T.regi hm ?_
  simp only [↓reduceIte, namesOf, List.any, I.names, aopsI, astep, ev, setd, List.set, List.getD, List.getElem?_cons_zero, List.getElem?_cons_succ, then_normal, Option.getD_some, Bool.or_false, Bool.false_eq_true, up_zero, Int.toNat_natCast, hc]
  refine h0 _ _ ?_
  try clear h0 K_h0
  exact T.ret (Fin.ret rfl ⟨rfl, rfl⟩)

set_option maxRecDepth 10000 in
theorem slIndex_ok {l : List UInt8} {c : UInt8} {σ : St} : ACalls Tryd.prog n_slIndex [.str ⟨l.toArray⟩, .str ⟨[c].toArray⟩] σ (fun v σ' => v = .int .i64 (Lib.indexByte l c) ∧ σ' = σ) := by
  refine s_slIndex (fun wf => ?_)
  unfold c_slIndex
  have h1s : ((⟨[c].toArray⟩ : ByteArray).size : Int) = 1 := rfl
  have e0 : ((1 : Int) == 0) = false := rfl
  have e1 : ((1 : Int) == 1) = true := rfl
  refine T.seq_k (fun K_h0 h0 => ?_)
  refine T.regi hm ?_
  simp only [↓reduceIte, namesOf, List.any, I.names, aopsI, astep, ev, setd, List.set, List.cons_append, List.nil_append, List.length_cons, List.length_nil, List.replicate, then_normal, Bool.or_false, Bool.false_eq_true, up_zero, Nat.reduceAdd, Nat.reduceSub]
  refine h0 _ _ ?_
  try clear h0 K_h0
  refine T.seq_k (fun K_h0 h0 => ?_)
  refine T.regi hm ?_
  simp only [↓reduceIte, namesOf, List.any, I.names, aopsI, astep, ev, setd, List.set, List.getD, List.getElem?_cons_zero, List.getElem?_cons_succ, then_normal, Option.getD_some, Bool.or_false, Bool.false_eq_true, up_zero, h1s]
  refine h0 _ _ ?_
  try clear h0 K_h0
  refine T.seq_k (fun K_h1 h1 => ?_)
  refine T.block ?_
  by_cases hl : [c] = l
  · have f1 : decide ([c] = l) = true := decide_eq_true hl
    have hi : Lib.indexByte l c = 0 := by rw [← hl]; simp [Lib.indexByte]
    refine T.seq_k (fun K_h0 h0 => ?_)
    refine T.regi hm ?_
    simp only [↓reduceIte, namesOf, List.any, I.names, aopsI, astep, ev, setd, List.set, List.getD, List.getElem?_cons_zero, List.getElem?_cons_succ, then_normal, Option.getD_some, Bool.or_false, Bool.false_eq_true, up_zero, binv, ↓opt_def, eq_self, e0, sbinv, ba_eq, f1]
    refine h0 _ _ ?_
    try clear h0 K_h0
    refine T.cond rfl (fun _ => ?_) (fun h => by cases h)
    refine T.seq_k (fun K_h0 h0 => ?_)
    refine T.regi hm ?_
    simp only [↓reduceIte, namesOf, List.any, I.names, aopsI, astep, ev, setd, List.set, then_normal, Bool.or_false, Bool.false_eq_true, up_zero]
    refine h0 _ _ ?_
    try clear h0 K_h0
    exact T.ret (Fin.ret rfl ⟨by rw [hi]; rfl, rfl⟩)
  · have f1 : decide ([c] = l) = false := decide_eq_false hl
    refine T.seq_k (fun K_h0 h0 => ?_)
    refine T.regi hm ?_
    simp only [↓reduceIte, namesOf, List.any, I.names, aopsI, astep, ev, setd, List.set, List.getD, List.getElem?_cons_zero, List.getElem?_cons_succ, then_normal, Option.getD_some, Bool.or_false, Bool.false_eq_true, up_zero, binv, ↓opt_def, eq_self, e0, sbinv, ba_eq, f1]
    refine h0 _ _ ?_
    try clear h0 K_h0
    refine T.cond rfl (fun h => by cases h) (fun _ => ?_)
    refine T.seq_k (fun K_h0 h0 => ?_)
    refine T.regi hm ?_
    simp only [↓reduceIte, namesOf, List.any, I.names, aopsI, astep, ev, setd, List.set, List.getD, List.getElem?_cons_zero, List.getElem?_cons_succ, then_normal, Option.getD_some, Bool.or_false, Bool.false_eq_true, up_zero, binv, ↓opt_def, eq_self, e1]
    refine h0 _ _ ?_
    try clear h0 K_h0
    refine T.cond rfl (fun _ => ?_) (fun h => by cases h)
    have i0 : (0 : Int) < 1 := by decide
    have g0 : (⟨[c].toArray⟩ : ByteArray).data.toList[(0 : Int).toNat]? = some c := rfl
    refine T.seq_k (fun K_h2 h2 => ?_)
    refine T.regi hm ?_
    simp only [↓reduceIte, namesOf, List.any, I.names, aopsI, astep, ev, setd, List.set, List.getD, List.getElem?_cons_zero, List.getElem?_cons_succ, then_normal, Option.getD_some, Bool.or_false, Bool.false_eq_true, up_zero, List.map_cons, List.map_nil, h1s, i0, g0, Int.le_refl, and_self]
    refine slIdxB_ok.mono ?_
    rintro v σ1 ⟨rfl, rfl⟩
    try simp only []
    refine h2 _ _ ?_
    try clear h2 K_h2
    exact T.ret (Fin.ret rfl ⟨rfl, rfl⟩)

theorem sindex_ok {l : List UInt8} {c : UInt8} {σ : St} : ACalls Tryd.prog n_sindex [.str ⟨l.toArray⟩, .str ⟨[c].toArray⟩] σ (fun v σ' => v = .int .i64 (Lib.indexByte l c) ∧ σ' = σ) := by
  refine s_sindex (fun wf => ?_)
  unfold c_sindex
  refine T.seq_k (fun K_h0 h0 => ?_)
  refine T.regi hm ?_
  simp only [↓reduceIte, namesOf, List.any, I.names, aopsI, astep, ev, setd, List.set, List.cons_append, List.nil_append, List.length_cons, List.length_nil, List.replicate, then_normal, Bool.or_false, Bool.false_eq_true, up_zero, Nat.reduceAdd, Nat.reduceSub]
  refine h0 _ _ ?_
  try clear h0 K_h0
  refine T.seq_k (fun K_h1 h1 => ?_)
  refine T.regi hm ?_
  simp only [↓reduceIte, namesOf, List.any, I.names, aopsI, astep, ev, setd, List.set, List.getD, List.getElem?_cons_zero, List.getElem?_cons_succ, then_normal, Option.getD_some, Bool.or_false, Bool.false_eq_true, up_zero, List.map_cons, List.map_nil]
  refine slIndex_ok.mono ?_
  rintro v σ1 ⟨rfl, rfl⟩
  try simp only [↓reduceIte, namesOf, List.any, I.names, aops, aopsI, aopsT, qstep, CPt, qget, Tbl.get, astep, ev, setd, List.set, List.getD, List.getElem?_cons_zero, List.getElem?_cons_succ, List.getElem?_nil, List.cons_append, List.nil_append, List.length_cons, List.length_nil, List.replicate, then_normal, inBlock_normal, Option.getD_some, Option.getD_none, Bool.or_false, Bool.or_true, Bool.true_or, Bool.false_or, Bool.false_eq_true, if_false, if_true, up_zero, Nat.reduceAdd, Nat.reduceSub, binv, ↓opt_def, AV.isAny, AV.cells, ldc, List.map_cons, List.map_nil, St.set_next, St.set_same, St.up_next, Int.natCast_nonneg, lt_len, le_len, Int.toNat_natCast, true_and, and_true, eq_self, reduceCtorEq, decide_true, List.length_singleton, er_int, er_bool, er_str, srcR, up_zero]
  refine h1 _ _ ?_
  try clear h1 K_h1
  exact T.ret (Fin.ret rfl ⟨rfl, rfl⟩)

theorem scont_ok {l : List UInt8} {c : UInt8} {σ : St} : ACalls Tryd.prog n_scont [.str ⟨l.toArray⟩, .str ⟨[c].toArray⟩] σ (fun v σ' => v = .bool (decide (Lib.indexByte l c ≥ 0)) ∧ σ' = σ) := by
  refine s_scont (fun wf => ?_)
  unfold c_scont
  refine T.seq_k (fun K_h0 h0 => ?_)
  refine T.regi hm ?_
  simp only [↓reduceIte, namesOf, List.any, I.names, aopsI, astep, ev, setd, List.set, List.cons_append, List.nil_append, List.length_cons, List.length_nil, List.replicate, then_normal, Bool.or_false, Bool.false_eq_true, up_zero, Nat.reduceAdd, Nat.reduceSub]
  refine h0 _ _ ?_
  try clear h0 K_h0
  refine T.seq_k (fun K_h1 h1 => ?_)
  refine T.regi hm ?_
  simp only [↓reduceIte, namesOf, List.any, I.names, aopsI, astep, ev, setd, List.set, List.getD, List.getElem?_cons_zero, List.getElem?_cons_succ, then_normal, Option.getD_some, Bool.or_false, Bool.false_eq_true, up_zero, binv, ↓opt_def, List.map_cons, List.map_nil]
  refine sindex_ok.mono ?_
  rintro v σ1 ⟨rfl, rfl⟩
  try simp only [↓reduceIte, eq_self]
  refine h1 _ _ ?_
  try clear h1 K_h1
  exact T.ret (Fin.ret rfl ⟨rfl, rfl⟩)

theorem idx_mifx (c : UInt8) : decide (Lib.indexByte [109, 105, 102, 120] c ≥ 0) = decide ([c] = [109] ∨ [c] = [105] ∨ [c] = [102] ∨ [c] = [120]) := by
  have : ∀ n : _root_.Fin 256, decide (Lib.indexByte [109, 105, 102, 120] (UInt8.ofNat n.val) ≥ 0) = decide ([UInt8.ofNat n.val] = [109] ∨ [UInt8.ofNat n.val] = [105] ∨ [UInt8.ofNat n.val] = [102] ∨ [UInt8.ofNat n.val] = [120]) := by decide +kernel
  have h := this ⟨c.toNat, c.toNat_lt⟩
  simpa using h

theorem mx_page (page : Int) : (if (0 : Int) > page then (0 : Int) else page) = ((page.toNat : Nat) : Int) := by split <;> omega

theorem rem_page (n : Nat) : ((n : Nat) : Int).tmod 1000 = ((n % 1000 : Nat) : Int) := tmodN n 1000

def nmTop (id : Nat) : List UInt8 := [98, 47] ++ dg 16 16 id

theorem head_len (id : Nat) : (nmHead id).length = 19 := by simp [nmHead, dg_len]

set_option maxRecDepth 10000 in
set_option maxHeartbeats 1000000 in
theorem mName_ok {id : Nat} {what : List UInt8} {page : Int} {σ : St} (hT : Tabs σ) (hid : id < 18446744073709551616) (hp : -9223372036854775808 ≤ page ∧ page ≤ 9223372036854775807) (hw : what.length ≤ 1000000000) :
    ACalls Tryd.prog n_mName [.int .u64 (id : Int), .str ⟨what.toArray⟩, .int .i64 page] σ (fun v σ' => v = .str ⟨(nmF id what page).toArray⟩ ∧ σ' = σ) := by
  refine s_mName (fun wf => ?_)
  unfold c_mName
  have a1 : sbinv .add ⟨#[98, 47]⟩ ⟨(dg 16 16 id).toArray⟩ = some (.str ⟨(nmTop id).toArray⟩) := sb_add (a := [98, 47]) (by rw [dg_len]; simp)
  have a2 : sbinv .add ⟨(nmTop id).toArray⟩ ⟨#[47, 112]⟩ = some (.str ⟨(nmHead id ++ [112]).toArray⟩) := by
    rw [sb_add (a := nmTop id) (b := [47, 112]) (by simp [nmTop, dg_len])]; simp [nmHead, nmTop]
  have a3 : sbinv .add ⟨(nmTop id).toArray⟩ ⟨#[47]⟩ = some (.str ⟨(nmHead id).toArray⟩) := sb_add (a := nmTop id) (b := [47]) (by simp [nmTop, dg_len])
  refine T.seq_k (fun K_h0 h0 => ?_)
  refine T.regi hm ?_
  simp only [↓reduceIte, namesOf, List.any, I.names, aopsI, astep, ev, setd, List.set, List.cons_append, List.nil_append, List.length_cons, List.length_nil, List.replicate, then_normal, Bool.or_false, Bool.false_eq_true, up_zero, Nat.reduceAdd, Nat.reduceSub]
  refine h0 _ _ ?_
  try clear h0 K_h0
  refine T.seq_k (fun K_h1 h1 => ?_)
  refine T.block ?_
  by_cases hwp : what = [112]
  · have f1 : sbinv .eql ⟨what.toArray⟩ ⟨#[112]⟩ = some (.bool true) := by
      simp only [sbinv, ba_eq what [112]]; rw [decide_eq_true hwp]
    have hmx := mx_page page
    have hrem := rem_page page.toNat
    have z1 : ((1000 : Int) = 0) = False := eq_false (by decide)
    have hlt : page.toNat % 1000 < 1000 := Nat.mod_lt _ (by omega)
    have w1 : IntKind.u64.wrap ((page.toNat % 1000 : Nat) : Int) = ((page.toNat % 1000 : Nat) : Int) := u64w (by omega)
    have a4 : sbinv .add ⟨(nmHead id ++ [112]).toArray⟩ ⟨(dg 10 3 (page.toNat % 1000)).toArray⟩ = some (.str ⟨(nmF id what page).toArray⟩) := by
      rw [sb_add (by simp [head_len, dg_len])]; unfold nmF; rw [if_pos hwp]
    refine T.seq_k (fun K_h0 h0 => ?_)
    refine T.regi hm ?_
    simp only [↓reduceIte, namesOf, List.any, I.names, aopsI, astep, ev, setd, List.set, List.getD, List.getElem?_cons_zero, List.getElem?_cons_succ, then_normal, Option.getD_some, Bool.or_false, Bool.false_eq_true, up_zero, ↓opt_def, f1]
    refine h0 _ _ ?_
    try clear h0 K_h0
    refine T.cond rfl (fun _ => ?_) (fun h => by cases h)
    refine T.seq_k (fun K_h2 h2 => ?_)
    refine T.regi hm ?_
    simp only [↓reduceIte, namesOf, List.any, I.names, aopsI, astep, ev, setd, List.set, List.getD, List.getElem?_cons_zero, List.getElem?_cons_succ, then_normal, Option.getD_some, Bool.or_false, Bool.false_eq_true, up_zero, binv, ↓opt_def, List.map_cons, List.map_nil]
    refine (mDig_ok (b := 16) (most := 16) hT (.inl ⟨rfl, rfl, hid⟩)).mono ?_
    rintro v σ1 ⟨rfl, rfl⟩
    try simp only [↓reduceIte, eq_self, a1, a2, mx2, List.foldlM, bind, Option.bind, pure, hmx, hrem, z1, w1]
    refine (mDig_ok (b := 10) (most := 3) (n := page.toNat % 1000) hT (.inr ⟨rfl, rfl, hlt⟩)).mono ?_
    rintro v σ2 ⟨rfl, rfl⟩
    try simp only [a4]
    refine h2 _ _ ?_
    try clear h2 K_h2
    exact T.ret (Fin.ret rfl ⟨rfl, rfl⟩)
  have f1 : sbinv .eql ⟨what.toArray⟩ ⟨#[112]⟩ = some (.bool false) := by
    simp only [sbinv, ba_eq what [112]]; rw [decide_eq_false hwp]
  refine T.seq_k (fun K_h0 h0 => ?_)
  refine T.regi hm ?_
  simp only [↓reduceIte, namesOf, List.any, I.names, aopsI, astep, ev, setd, List.set, List.getD, List.getElem?_cons_zero, List.getElem?_cons_succ, then_normal, Option.getD_some, Bool.or_false, Bool.false_eq_true, up_zero, ↓opt_def, f1]
  refine h0 _ _ ?_
  try clear h0 K_h0
  refine T.cond rfl (fun h => by cases h) (fun _ => ?_)
  have hsz : ((⟨what.toArray⟩ : ByteArray).size : Int) = (what.length : Int) := by rw [sz_mk]
  by_cases hone : ∃ c, what = [c]
  · obtain ⟨c, rfl⟩ := hone
    have e1 : ((⟨[c].toArray⟩ : ByteArray).size : Int) = 1 := rfl
    have e2 : ((1 : Int) == 1) = true := rfl
    refine T.seq_k (fun K_h2 h2 => ?_)
    refine T.regi hm ?_
    simp only [↓reduceIte, namesOf, List.any, I.names, aopsI, astep, ev, setd, List.set, List.getD, List.getElem?_cons_zero, List.getElem?_cons_succ, then_normal, Option.getD_some, Bool.or_false, Bool.false_eq_true, up_zero, binv, ↓opt_def, List.map_cons, List.map_nil, eq_self, e1, e2]
    refine (scont_ok (l := [109, 105, 102, 120])).mono ?_
    rintro v σ1 ⟨rfl, rfl⟩
    rw [idx_mifx]
    try simp only [↓reduceIte, namesOf, List.any, I.names, aops, aopsI, aopsT, qstep, CPt, qget, Tbl.get, astep, ev, setd, List.set, List.getD, List.getElem?_cons_zero, List.getElem?_cons_succ, List.getElem?_nil, List.cons_append, List.nil_append, List.length_cons, List.length_nil, List.replicate, then_normal, inBlock_normal, Option.getD_some, Option.getD_none, Bool.or_false, Bool.or_true, Bool.true_or, Bool.false_or, Bool.false_eq_true, if_false, if_true, up_zero, Nat.reduceAdd, Nat.reduceSub, binv, ↓opt_def, AV.isAny, AV.cells, ldc, List.map_cons, List.map_nil, St.set_next, St.set_same, St.up_next, Int.natCast_nonneg, lt_len, le_len, Int.toNat_natCast, true_and, and_true, eq_self, reduceCtorEq, decide_true, List.length_singleton, er_int, er_bool, er_str, srcR, up_zero]
    refine h2 _ _ ?_
    try clear h2 K_h2
    by_cases hin : [c] = [109] ∨ [c] = [105] ∨ [c] = [102] ∨ [c] = [120]
    · rw [decide_eq_true hin]
      refine T.cond rfl (fun _ => ?_) (fun h => by cases h)
      have a4 : sbinv .add ⟨(nmHead id).toArray⟩ ⟨[c].toArray⟩ = some (.str ⟨(nmF id [c] page).toArray⟩) := by
        rw [sb_add (by simp [head_len])]; unfold nmF; rw [if_neg hwp, if_pos hin]
      refine T.seq_k (fun K_h2 h2 => ?_)
      refine T.regi hm ?_
      simp only [↓reduceIte, namesOf, List.any, I.names, aopsI, astep, ev, setd, List.set, List.getD, List.getElem?_cons_zero, List.getElem?_cons_succ, then_normal, Option.getD_some, Bool.or_false, Bool.false_eq_true, up_zero, ↓opt_def, List.map_cons, List.map_nil]
      refine (mDig_ok (b := 16) (most := 16) hT (.inl ⟨rfl, rfl, hid⟩)).mono ?_
      rintro v σ1 ⟨rfl, rfl⟩
      try simp only [a1, a3, a4]
      refine h2 _ _ ?_
      try clear h2 K_h2
      exact T.ret (Fin.ret rfl ⟨rfl, rfl⟩)
    · rw [decide_eq_false hin]
      refine T.cond rfl (fun h => by cases h) (fun _ => T.skip ?_)
      try simp only [then_normal, inBlock_normal, inBlock_normal]
      refine h1 _ _ ?_
      try clear h1 K_h1
      refine T.seq_k (fun K_h0 h0 => ?_)
      refine T.regi hm ?_
      simp only [↓reduceIte, namesOf, List.any, I.names, aopsI, astep, ev, setd, List.set, then_normal, Bool.or_false, Bool.false_eq_true, up_zero]
      refine h0 _ _ ?_
      try clear h0 K_h0
      exact T.ret (Fin.ret rfl ⟨by unfold nmF; rw [if_neg hwp, if_neg hin]; rfl, rfl⟩)
  · have hl1 : what.length ≠ 1 := fun h => hone (List.length_eq_one_iff.1 h)
    have e2 : ((what.length : Int) == 1) = false := by simp; omega
    have hin : ¬ (what = [109] ∨ what = [105] ∨ what = [102] ∨ what = [120]) := fun h => by
      rcases h with rfl | rfl | rfl | rfl <;> simp at hl1
    refine T.seq_k (fun K_h0 h0 => ?_)
    refine T.regi hm ?_
    simp only [↓reduceIte, namesOf, List.any, I.names, aopsI, astep, ev, setd, List.set, List.getD, List.getElem?_cons_zero, List.getElem?_cons_succ, then_normal, Option.getD_some, Bool.or_false, Bool.false_eq_true, up_zero, binv, ↓opt_def, eq_self, hsz, e2]
    refine h0 _ _ ?_
    try clear h0 K_h0
    refine T.cond rfl (fun h => by cases h) (fun _ => T.skip ?_)
    try simp only [then_normal, inBlock_normal, inBlock_normal]
    refine h1 _ _ ?_
    try clear h1 K_h1
    refine T.seq_k (fun K_h0 h0 => ?_)
    refine T.regi hm ?_
    simp only [↓reduceIte, namesOf, List.any, I.names, aopsI, astep, ev, setd, List.set, then_normal, Bool.or_false, Bool.false_eq_true, up_zero]
    refine h0 _ _ ?_
    try clear h0 K_h0
    exact T.ret (Fin.ret rfl ⟨by unfold nmF; rw [if_neg hwp, if_neg hin]; rfl, rfl⟩)

set_option maxRecDepth 10000 in
set_option maxHeartbeats 1000000 in
theorem rName_ok {id : Nat} {what : List UInt8} {page : Int} {σ : St} (hid : id < 18446744073709551616) (hp : -9223372036854775808 ≤ page ∧ page ≤ 9223372036854775807) (hw : what.length ≤ 1000000000) :
    ACalls Tryd.prog n_rName [.int .u64 (id : Int), .str ⟨what.toArray⟩, .int .i64 page] σ (fun v σ' => v = .str ⟨(nmF id what page).toArray⟩ ∧ σ' = σ) := by
  refine s_rName (fun wf => ?_)
  unfold c_rName
  have a1 : sbinv .add ⟨#[98, 47]⟩ ⟨(dg 16 16 id).toArray⟩ = some (.str ⟨(nmTop id).toArray⟩) := sb_add (a := [98, 47]) (by rw [dg_len]; simp)
  have a3 : sbinv .add ⟨(nmTop id).toArray⟩ ⟨#[47]⟩ = some (.str ⟨(nmHead id).toArray⟩) := sb_add (a := nmTop id) (b := [47]) (by simp [nmTop, dg_len])
  have q1 : ∀ c : List UInt8, sbinv .eql ⟨what.toArray⟩ ⟨c.toArray⟩ = some (.bool (decide (what = c))) := fun c => by simp only [sbinv, ba_eq]
  refine T.seq_k (fun K_h0 h0 => ?_)
  refine T.regi hm ?_
  simp only [↓reduceIte, namesOf, List.any, I.names, aopsI, astep, ev, setd, List.set, List.cons_append, List.nil_append, List.length_cons, List.length_nil, List.replicate, then_normal, Bool.or_false, Bool.false_eq_true, up_zero, Nat.reduceAdd, Nat.reduceSub]
  refine h0 _ _ ?_
  try clear h0 K_h0
  refine T.seq_k (fun K_h1 h1 => ?_)
  refine T.regi hm ?_
  simp only [↓reduceIte, namesOf, List.any, I.names, aopsI, astep, ev, setd, List.set, List.getD, List.getElem?_cons_zero, List.getElem?_cons_succ, then_normal, Option.getD_some, Bool.or_false, Bool.false_eq_true, up_zero, ↓opt_def, List.map_cons, List.map_nil]
  refine (rDig_ok (b := 16) (k := 16) (.inl rfl) hid (by omega)).mono ?_
  rintro v σ1 ⟨rfl, rfl⟩
  try simp only [a1, a3]
  refine h1 _ _ ?_
  try clear h1 K_h1
  refine T.seq_k (fun K_h1 h1 => ?_)
  by_cases hwp : what = [112]
  · have f1 : sbinv .eql ⟨what.toArray⟩ ⟨#[112]⟩ = some (.bool true) := by rw [q1 [112], decide_eq_true hwp]
    refine T.seq_k (fun K_h0 h0 => ?_)
    refine T.regi hm ?_
    simp only [↓reduceIte, namesOf, List.any, I.names, aopsI, astep, ev, setd, List.set, List.getD, List.getElem?_cons_zero, List.getElem?_cons_succ, then_normal, Option.getD_some, Bool.or_false, Bool.false_eq_true, up_zero, ↓opt_def, f1]
    refine h0 _ _ ?_
    try clear h0 K_h0
    refine T.cond rfl (fun _ => ?_) (fun h => by cases h)
    have a2 : sbinv .add ⟨(nmHead id).toArray⟩ ⟨#[112]⟩ = some (.str ⟨(nmHead id ++ [112]).toArray⟩) := sb_add (b := [112]) (by simp [head_len])
    have z1 : ((1000 : Int) = 0) = False := eq_false (by decide)
    have hlt : page.toNat % 1000 < 1000 := Nat.mod_lt _ (by omega)
    have w1 : IntKind.u64.wrap ((page.toNat % 1000 : Nat) : Int) = ((page.toNat % 1000 : Nat) : Int) := u64w (by omega)
    have a4 : sbinv .add ⟨(nmHead id ++ [112]).toArray⟩ ⟨(dg 10 3 (page.toNat % 1000)).toArray⟩ = some (.str ⟨(nmF id what page).toArray⟩) := by
      rw [sb_add (by simp [head_len, dg_len])]; unfold nmF; rw [if_pos hwp]
    have hrem := rem_page page.toNat
    refine T.seq_k (fun K_h2 h2 => ?_)
    -- behind the look at the page
    have key : ∀ ρ', keep [2, 7] 0 ρ' = [.any, .any, .int .i64 ((page.toNat : Nat) : Int), .any, .any, .any, .any, .str ⟨(nmHead id).toArray⟩] ++ List.replicate 32 .any → K_h2 ρ' σ1 := by
      intro ρ' hk
      refine h2 _ _ ?_
      refine T.gh (Gh.keep [2, 7]) ?_
      rw [hk]
      refine T.seq_k (fun K_h3 h3 => ?_)
      refine T.regi hm ?_
      simp only [↓reduceIte, namesOf, List.any, I.names, aopsI, astep, ev, setd, List.set, List.getD, List.getElem?_cons_zero, List.getElem?_cons_succ, List.cons_append, List.nil_append, List.replicate, then_normal, Option.getD_some, Bool.or_false, Bool.false_eq_true, up_zero, binv, ↓opt_def, List.map_cons, List.map_nil, eq_self, a2, hrem, z1, w1]
      refine (rDig_ok (b := 10) (k := 3) (n := page.toNat % 1000) (.inr rfl) (by omega) (by omega)).mono ?_
      rintro v σ2 ⟨rfl, rfl⟩
      try simp only [a4]
      refine h3 _ _ ?_
      try clear h3 K_h3
      exact T.ret (Fin.ret rfl ⟨rfl, rfl⟩)
    by_cases hpn : page < 0
    · have f2 : decide (page < 0) = true := decide_eq_true hpn
      have hp0 : page.toNat = 0 := by omega
      rw [hp0] at key
      refine T.seq_k (fun K_h0 h0 => ?_)
      refine T.regi hm ?_
      simp only [↓reduceIte, namesOf, List.any, I.names, aopsI, astep, ev, setd, List.set, List.getD, List.getElem?_cons_zero, List.getElem?_cons_succ, then_normal, Option.getD_some, Bool.or_false, Bool.false_eq_true, up_zero, binv, ↓opt_def, eq_self, f2]
      refine h0 _ _ ?_
      try clear h0 K_h0
      refine T.cond rfl (fun _ => ?_) (fun h => by cases h)
      refine T.regi hm ?_
      simp only [↓reduceIte, namesOf, List.any, I.names, aopsI, astep, ev, setd, List.set, then_normal, Bool.or_false, Bool.false_eq_true, up_zero]
      exact key _ rfl
    · have f2 : decide (page < 0) = false := decide_eq_false hpn
      have hp0 : ((page.toNat : Nat) : Int) = page := by omega
      rw [hp0] at key
      refine T.seq_k (fun K_h0 h0 => ?_)
      refine T.regi hm ?_
      simp only [↓reduceIte, namesOf, List.any, I.names, aopsI, astep, ev, setd, List.set, List.getD, List.getElem?_cons_zero, List.getElem?_cons_succ, then_normal, Option.getD_some, Bool.or_false, Bool.false_eq_true, up_zero, binv, ↓opt_def, eq_self, f2]
      refine h0 _ _ ?_
      try clear h0 K_h0
      refine T.cond rfl (fun h => by cases h) (fun _ => T.skip ?_)
      exact key _ rfl
  have f1 : sbinv .eql ⟨what.toArray⟩ ⟨#[112]⟩ = some (.bool false) := by rw [q1 [112], decide_eq_false hwp]
  refine T.seq_k (fun K_h0 h0 => ?_)
  refine T.regi hm ?_
  simp only [↓reduceIte, namesOf, List.any, I.names, aopsI, astep, ev, setd, List.set, List.getD, List.getElem?_cons_zero, List.getElem?_cons_succ, then_normal, Option.getD_some, Bool.or_false, Bool.false_eq_true, up_zero, ↓opt_def, f1]
  refine h0 _ _ ?_
  try clear h0 K_h0
  refine T.cond rfl (fun h => by cases h) (fun _ => T.skip ?_)
  refine h1 _ _ ?_
  try clear h1 K_h1
  refine T.seq_k (fun K_h1 h1 => ?_)
  have done : (what = [109] ∨ what = [105] ∨ what = [102] ∨ what = [120]) → sbinv .add ⟨(nmHead id).toArray⟩ ⟨what.toArray⟩ = some (.str ⟨(nmF id what page).toArray⟩) := by
    intro hin
    have hl : what.length = 1 := by rcases hin with rfl | rfl | rfl | rfl <;> rfl
    rw [sb_add (by rw [head_len, hl]; omega)]; unfold nmF; rw [if_neg hwp, if_pos hin]
  have r1 := q1 [109]
  have r2 := q1 [105]
  have r3 := q1 [102]
  have r4 := q1 [120]
  by_cases c1 : what = [109]
  · rw [decide_eq_true c1] at r1
    have a4 := done (.inl c1)
    refine T.seq_k (fun K_h0 h0 => ?_)
    refine T.regi hm ?_
    simp only [↓reduceIte, namesOf, List.any, I.names, aopsI, astep, ev, setd, List.set, List.getD, List.getElem?_cons_zero, List.getElem?_cons_succ, then_normal, Option.getD_some, Bool.or_false, Bool.false_eq_true, up_zero, ↓opt_def, eq_self, reduceCtorEq, r1]
    refine h0 _ _ ?_
    try clear h0 K_h0
    refine T.cond rfl (fun _ => ?_) (fun h => by cases h)
    refine T.seq_k (fun K_h0 h0 => ?_)
    refine T.regi hm ?_
    simp only [↓reduceIte, namesOf, List.any, I.names, aopsI, astep, ev, setd, List.set, List.getD, List.getElem?_cons_zero, List.getElem?_cons_succ, then_normal, Option.getD_some, Bool.or_false, Bool.false_eq_true, up_zero, ↓opt_def, a4]
    refine h0 _ _ ?_
    try clear h0 K_h0
    exact T.ret (Fin.ret rfl ⟨rfl, rfl⟩)
  rw [decide_eq_false c1] at r1
  by_cases c2 : what = [105]
  · rw [decide_eq_true c2] at r2
    have a4 := done (.inr (.inl c2))
    refine T.seq_k (fun K_h0 h0 => ?_)
    refine T.regi hm ?_
    simp only [↓reduceIte, namesOf, List.any, I.names, aopsI, astep, ev, setd, List.set, List.getD, List.getElem?_cons_zero, List.getElem?_cons_succ, then_normal, Option.getD_some, Bool.or_false, Bool.false_eq_true, up_zero, ↓opt_def, eq_self, reduceCtorEq, r1, r2]
    refine h0 _ _ ?_
    try clear h0 K_h0
    refine T.cond rfl (fun _ => ?_) (fun h => by cases h)
    refine T.seq_k (fun K_h0 h0 => ?_)
    refine T.regi hm ?_
    simp only [↓reduceIte, namesOf, List.any, I.names, aopsI, astep, ev, setd, List.set, List.getD, List.getElem?_cons_zero, List.getElem?_cons_succ, then_normal, Option.getD_some, Bool.or_false, Bool.false_eq_true, up_zero, ↓opt_def, a4]
    refine h0 _ _ ?_
    try clear h0 K_h0
    exact T.ret (Fin.ret rfl ⟨rfl, rfl⟩)
  rw [decide_eq_false c2] at r2
  by_cases c3 : what = [102]
  · rw [decide_eq_true c3] at r3
    have a4 := done (.inr (.inr (.inl c3)))
    refine T.seq_k (fun K_h0 h0 => ?_)
    refine T.regi hm ?_
    simp only [↓reduceIte, namesOf, List.any, I.names, aopsI, astep, ev, setd, List.set, List.getD, List.getElem?_cons_zero, List.getElem?_cons_succ, then_normal, Option.getD_some, Bool.or_false, Bool.false_eq_true, up_zero, ↓opt_def, eq_self, reduceCtorEq, r1, r2, r3]
    refine h0 _ _ ?_
    try clear h0 K_h0
    refine T.cond rfl (fun _ => ?_) (fun h => by cases h)
    refine T.seq_k (fun K_h0 h0 => ?_)
    refine T.regi hm ?_
    simp only [↓reduceIte, namesOf, List.any, I.names, aopsI, astep, ev, setd, List.set, List.getD, List.getElem?_cons_zero, List.getElem?_cons_succ, then_normal, Option.getD_some, Bool.or_false, Bool.false_eq_true, up_zero, ↓opt_def, a4]
    refine h0 _ _ ?_
    try clear h0 K_h0
    exact T.ret (Fin.ret rfl ⟨rfl, rfl⟩)
  rw [decide_eq_false c3] at r3
  by_cases c4 : what = [120]
  · rw [decide_eq_true c4] at r4
    have a4 := done (.inr (.inr (.inr c4)))
    refine T.seq_k (fun K_h0 h0 => ?_)
    refine T.regi hm ?_
    simp only [↓reduceIte, namesOf, List.any, I.names, aopsI, astep, ev, setd, List.set, List.getD, List.getElem?_cons_zero, List.getElem?_cons_succ, then_normal, Option.getD_some, Bool.or_false, Bool.false_eq_true, up_zero, ↓opt_def, eq_self, r1, r2, r3, r4]
    refine h0 _ _ ?_
    try clear h0 K_h0
    refine T.cond rfl (fun _ => ?_) (fun h => by cases h)
    refine T.seq_k (fun K_h0 h0 => ?_)
    refine T.regi hm ?_
    simp only [↓reduceIte, namesOf, List.any, I.names, aopsI, astep, ev, setd, List.set, List.getD, List.getElem?_cons_zero, List.getElem?_cons_succ, then_normal, Option.getD_some, Bool.or_false, Bool.false_eq_true, up_zero, ↓opt_def, a4]
    refine h0 _ _ ?_
    try clear h0 K_h0
    exact T.ret (Fin.ret rfl ⟨rfl, rfl⟩)
  rw [decide_eq_false c4] at r4
  refine T.seq_k (fun K_h0 h0 => ?_)
  refine T.regi hm ?_
  simp only [↓reduceIte, namesOf, List.any, I.names, aopsI, astep, ev, setd, List.set, List.getD, List.getElem?_cons_zero, List.getElem?_cons_succ, then_normal, Option.getD_some, Bool.or_false, Bool.false_eq_true, up_zero, ↓opt_def, eq_self, r1, r2, r3, r4]
  refine h0 _ _ ?_
  try clear h0 K_h0
  refine T.cond rfl (fun h => by cases h) (fun _ => T.skip ?_)
  refine h1 _ _ ?_
  try clear h1 K_h1
  refine T.seq_k (fun K_h0 h0 => ?_)
  refine T.regi hm ?_
  simp only [↓reduceIte, namesOf, List.any, I.names, aopsI, astep, ev, setd, List.set, then_normal, Bool.or_false, Bool.false_eq_true, up_zero]
  refine h0 _ _ ?_
  try clear h0 K_h0
  exact T.ret (Fin.ret rfl ⟨by unfold nmF; rw [if_neg hwp, if_neg (by rintro (h | h | h | h); exact c1 h; exact c2 h; exact c3 h; exact c4 h)]; rfl, rfl⟩)

end Go.VL

namespace Go.VL

open Go.Proofs

def metAV (l : List Nat) : List (AV × AV) := l.map fun n : Nat => (.int .u64 (n : Int), .bool true)

theorem met_put (l : List Nat) (n : Nat) (h : l.contains n = false) : mput (.int .u64 (n : Int)) (.bool true) (metAV l) = metAV (l ++ [n]) := by
  induction l with
  | nil => rfl
  | cons a r ih =>
    unfold metAV at ih ⊢
    simp only [List.contains_cons, Bool.or_eq_false_iff] at h
    have h1 : ((n : Int) == (a : Int)) = false := by have := h.1; simp at this ⊢; omega
    simp only [List.map_cons, mput, keq, if_true, h1, ih h.2, List.cons_append]

structure OneSt (σ σ' : St) (a m : Nat) (t : Tc) (l : List Nat) : Prop where
  a0 : σ.next ≤ a
  m0 : σ.next ≤ m
  a1 : a < σ'.next
  m1 : m < σ'.next
  obj : σ'.res a = some (.obj t.av.cells)
  map : σ'.res m = some (.map (metAV l) (List.range l.length) l.length)
  old : ∀ n r, σ.res n = some r → σ'.res n = some r

theorem OneSt.other {σ σ' : St} {a m : Nat} {t : Tc} {l : List Nat} (wf : WF σ) (h : OneSt σ σ' a m t l) {k b : Nat} (r : Res) (hb : σ'.next ≤ b) : OneSt σ ((σ'.up k).set b r) a m t l where
  a0 := h.a0
  m0 := h.m0
  a1 := Nat.lt_of_lt_of_le h.a1 (Nat.le_add_right _ _)
  m1 := Nat.lt_of_lt_of_le h.m1 (Nat.le_add_right _ _)
  obj := by rw [St.set_other _ _ (by have := h.a1; omega)]; exact h.obj
  map := by rw [St.set_other _ _ (by have := h.m1; omega)]; exact h.map
  old := fun n r' hr => by
    have hn : n < σ.next := by
      rcases Nat.lt_or_ge n σ.next with h' | h'
      · exact h'
      · rw [wf n h'] at hr; cases hr
    rw [St.set_other _ _ (by have := h.a0; have := h.a1; omega)]; exact h.old n r' hr

theorem OneSt.put {σ σ' : St} {a m : Nat} {t : Tc} {l : List Nat} {n : Nat} (wf : WF σ) (ham : a ≠ m) (h : OneSt σ σ' a m t l) (hn : l.contains n = false) : OneSt σ (σ'.set m (.map (mput (.int .u64 (n : Int)) (.bool true) (metAV l)) (List.range l.length ++ [l.length]) (l.length + 1))) a m t (l ++ [n]) where
  a0 := h.a0
  m0 := h.m0
  a1 := h.a1
  m1 := h.m1
  obj := by rw [St.set_other _ _ ham]; exact h.obj
  map := by rw [St.set_same, met_put l n hn, List.length_append, List.length_singleton, List.range_succ]
  old := fun n r' hr => by
    have hn : n < σ.next := by
      rcases Nat.lt_or_ge n σ.next with h' | h'
      · exact h'
      · rw [wf n h'] at hr; cases hr
    rw [St.set_other _ _ (by have := h.m0; omega)]; exact h.old n r' hr

end Go.VL

namespace Go.VL

open Go.Proofs

/-- an end that is owned, and what was owned ahead of it -/
structure Tp (σ σ' : St) (g k : Nat) : Prop where
  lo : σ.next ≤ g
  hi : g < σ'.next
  at_ : σ'.res g = some (.tip k)
  old : ∀ n x, σ.res n = some x → σ'.res n = some x

theorem Tp.new {σ σ' : St} {k n i : Nat} (wf : WF σ) (hn : σ.next ≤ σ'.next) (ho : ∀ n x, σ.res n = some x → σ'.res n = some x) (hi : i < n) : Tp σ ((σ'.up n).set (σ'.next + i) (.tip k)) (σ'.next + i) k :=
  ⟨by omega, by simp; omega, by simp, set_quiet wf hn ho _ (by omega)⟩

theorem Tp.mv {σ σ' : St} {g g2 k : Nat} (wf : WF σ) (h : Tp σ σ' g k) (hlo : σ.next ≤ g2) (hhi : g2 < σ'.next) : Tp σ ((σ'.del g).set g2 (.tip k)) g2 k :=
  ⟨hlo, by simpa using hhi, by simp, fun n x hr => by
    have hn : n < σ.next := by
      rcases Nat.lt_or_ge n σ.next with h' | h'
      · exact h'
      · rw [wf n h'] at hr; cases hr
    have h1 := h.lo
    rw [St.set_other _ _ (by omega)]
    simp only [St.del]
    rw [if_neg (by omega)]; exact h.old n x hr⟩

theorem Tp.up {σ σ' : St} {g k : Nat} (h : Tp σ σ' g k) (n : Nat) : Tp σ (σ'.up n) g k := ⟨h.lo, Nat.lt_of_lt_of_le h.hi (Nat.le_add_right _ _), h.at_, h.old⟩

end Go.VL

namespace Go.VL

open Go.Proofs

/-- a reader (an owned thing nm), a row that grows, and names that nobody knows -/
structure Rk (σ t : St) (nm : Nat) (r : Res) (k : Nat) (v : Ver) : Prop where
  like : Like σ t
  lo : σ.next ≤ nm
  hi : nm < t.next
  at_ : t.res nm = some r
  ver : v = .nil ∨ ∃ g, v = .tip g ∧ g ≠ nm ∧ σ.next ≤ g ∧ g < t.next ∧ t.res g = some (.tip k)

theorem Rk.set {σ t : St} {nm k : Nat} {r : Res} {v : Ver} (h : Rk σ t nm r k v) (r' : Res) : Rk σ (t.set nm r') nm r' k v :=
  ⟨h.like.set _ h.lo, h.lo, h.hi, by simp, h.ver.imp id fun ⟨g, a1, a2, a3, a4, a5⟩ => ⟨g, a1, a2, a3, a4, by rw [St.set_other _ _ a2]; exact a5⟩⟩

theorem Rk.up {σ t : St} {nm k : Nat} {r : Res} {v : Ver} (h : Rk σ t nm r k v) (n : Nat) : Rk σ (t.up n) nm r k v :=
  ⟨h.like.up n, h.lo, Nat.lt_of_lt_of_le h.hi (Nat.le_add_right _ _), h.at_, h.ver.imp id fun ⟨g, a1, a2, a3, a4, a5⟩ => ⟨g, a1, a2, a3, Nat.lt_of_lt_of_le a4 (Nat.le_add_right _ _), a5⟩⟩

theorem Rk.new {σ t : St} {nm k : Nat} {r : Res} {v : Ver} (h : Rk σ t nm r k v) {a : Nat} (r' : Res) (ha : σ.next ≤ a) (hn : a ≠ nm) (hv : ∀ g, v = .tip g → a ≠ g) : Rk σ (t.set a r') nm r k v :=
  ⟨h.like.set _ ha, h.lo, h.hi, by rw [St.set_other _ _ (Ne.symm hn)]; exact h.at_, h.ver.imp id fun ⟨g, a1, a2, a3, a4, a5⟩ => ⟨g, a1, a2, a3, a4, by rw [St.set_other _ _ (Ne.symm (hv g a1))]; exact a5⟩⟩

theorem Rk.lt {σ t : St} {nm k : Nat} {r : Res} {v : Ver} (h : Rk σ t nm r k v) {g : Nat} (hv : v = .tip g) : g < t.next := by
  rcases h.ver with e | ⟨g', e, _, _, h4, _⟩
  · rw [hv] at e; cases e
  · rw [hv] at e; cases e; exact h4

end Go.VL

namespace Go.VL

open Go.Proofs

/-- the reader's place in what is left of the bytes -/
def sh (k : Nat) (s : Rs) : Rs := ⟨s.at_ - k, if s.bad = -1 then -1 else s.bad - k⟩

structure SH (k : Nat) (b : List UInt8) (s : Rs) : Prop where
  ok : s.ok b
  len : k ≤ b.length
  lo : (k : Int) ≤ s.at_
  bad : s.bad = -1 ∨ (k : Int) ≤ s.bad

theorem SH.neg {k : Nat} {b : List UInt8} {s : Rs} (h : SH k b s) : (sh k s).bad = -1 ↔ s.bad = -1 := by
  unfold sh; have := h.bad
  split <;> simp_all <;> omega

theorem SH.pos {k : Nat} {b : List UInt8} {s : Rs} (h : SH k b s) : 0 ≤ (sh k s).bad ↔ 0 ≤ s.bad := by
  unfold sh; have := h.bad
  split <;> simp_all <;> omega

theorem SH.rt {k : Nat} {b : List UInt8} {s : Rs} (h : SH k b s) (w : Int) : rT (b.drop k) (sh k s) w = rT b s w := by
  have e := h.neg
  have := h.len
  unfold rT
  rw [Bool.eq_iff_iff, decide_eq_true_eq, decide_eq_true_eq, e, List.length_drop]
  unfold sh
  constructor <;> rintro ⟨h1, h2⟩ <;> refine ⟨h1, ?_⟩ <;> simp only [] at * <;> omega

theorem SH.rw {k : Nat} {b : List UInt8} {s : Rs} (h : SH k b s) (w : Nat) : rW (b.drop k) (sh k s) w = rW b s w := by
  unfold rW
  rw [h.rt]
  have : (b.drop k).drop (sh k s).at_.toNat = b.drop s.at_.toNat := by
    rw [List.drop_drop]; unfold sh; have := h.lo; congr 1; simp only []; omega
  rw [this]

end Go.VL

namespace Go.VL

open Go.Proofs

structure Mt where
  id : Nat
  level : Int
  st : Int
  en : Int
  pages : Int
  traces : Int
  deriving DecidableEq

abbrev mtC (m : Mt) : List AV := [.int .u64 (m.id : Int), .int .i64 m.level, .int .i64 m.st, .int .i64 m.en, .int .i64 m.pages, .int .i64 m.traces]

def mtsAV (l : List Mt) : List AV := l.map fun m => .agg [.int .u64 (m.id : Int), .int .i64 m.level, .int .i64 m.st, .int .i64 m.en, .int .i64 m.pages, .int .i64 m.traces]

theorem mts_len (l : List Mt) : (mtsAV l).length = l.length := by simp [mtsAV]

theorem mts_get {l : List Mt} {i : Nat} {m : Mt} (h : l[i]? = some m) : (mtsAV l)[i]? = some (.agg [.int .u64 (m.id : Int), .int .i64 m.level, .int .i64 m.st, .int .i64 m.en, .int .i64 m.pages, .int .i64 m.traces]) := by simp [mtsAV, h]

theorem mts_fits (l : List Mt) : (mtsAV l).all (AV.fits 6) = true := by
  simp [mtsAV, AV.fits, AV.isAny, AV.cells, AV.one]

theorem mts_nb (m : Nat) (l : List Mt) : nbs m (mtsAV l) := by
  rw [nbs_iff]
  intro y hy
  obtain ⟨t, _, rfl⟩ := List.mem_map.1 hy
  exact ⟨trivial, trivial, trivial, trivial, trivial, trivial, trivial⟩

/-- do metas rise by Id? -/
abbrev RisM (l : List Mt) : Prop := l.Pairwise fun x y => x.id < y.id

theorem RisM.bad {l : List Mt} {i : Nat} {x y : Mt} (hi : 0 < i) (hx : l[i - 1]? = some x) (hy : l[i]? = some y) (hlt : ¬ x.id < y.id) : ¬ RisM l := fun h => by
  obtain ⟨hil, rfl⟩ := List.getElem?_eq_some_iff.1 hy
  obtain ⟨hil2, rfl⟩ := List.getElem?_eq_some_iff.1 hx
  exact hlt (List.pairwise_iff_getElem.1 h _ _ hil2 hil (by omega))

end Go.VL

namespace Go.VL

open Go.Proofs

abbrev mayM (m : Mt) : Prop := (m.id : Int) ≥ 1 ∧ m.level ≥ 0 ∧ m.level ≤ 10 ∧ m.st ≥ 0 ∧ m.st ≤ m.en ∧ m.en ≤ 1099511627776 ∧ m.pages ≥ 1 ∧ m.pages ≤ 200 ∧ m.traces ≥ m.pages ∧ m.traces ≤ m.pages * 64

set_option maxRecDepth 10000 in
set_option maxHeartbeats 1000000 in
theorem mMay_ok {m : Mt} {σ : St} : ACalls Tryd.prog n_mMay [.agg [.int .u64 (m.id : Int), .int .i64 m.level, .int .i64 m.st, .int .i64 m.en, .int .i64 m.pages, .int .i64 m.traces]] σ (fun v σ' => v = .bool (decide (mayM m)) ∧ σ' = σ) := by
  refine s_mMay (fun wf => ?_)
  unfold c_mMay
  refine T.seq_k (fun K_h0 h0 => ?_)
  refine T.regi hm ?_
  simp only [↓reduceIte, namesOf, List.any, I.names, aopsI, astep, ev, setd, List.set, List.getD, List.getElem?_cons_zero, List.cons_append, List.nil_append, List.length_cons, List.length_nil, List.replicate, then_normal, Option.getD_some, Bool.or_false, Bool.false_eq_true, Nat.reduceAdd, Nat.reduceSub, AV.isAny, AV.cells, eq_self]
  refine h0 _ _ ?_
  try clear h0 K_h0
  have hb : ((σ.up 2).set (σ.next + 0) (.obj [.int .u64 (m.id : Int), .int .i64 m.level, .int .i64 m.st, .int .i64 m.en, .int .i64 m.pages, .int .i64 m.traces])).res (σ.next + 0) = some (.obj [.int .u64 (m.id : Int), .int .i64 m.level, .int .i64 m.st, .int .i64 m.en, .int .i64 m.pages, .int .i64 m.traces]) := St.set_same _ _ _
  have hL : Like σ ((σ.up 2).set (σ.next + 0) (.obj [.int .u64 (m.id : Int), .int .i64 m.level, .int .i64 m.st, .int .i64 m.en, .int .i64 m.pages, .int .i64 m.traces])) := (Like.refl σ).box (n := 2) (i := 0) _
  generalize ((σ.up 2).set (σ.next + 0) (.obj [.int .u64 (m.id : Int), .int .i64 m.level, .int .i64 m.st, .int .i64 m.en, .int .i64 m.pages, .int .i64 m.traces])) = t at hb hL ⊢
  generalize σ.next + 0 = b at hb ⊢
  by_cases c1 : (m.id : Int) ≥ 1
  case neg =>
    have f1 : decide ((m.id : Int) ≥ 1) = false := decide_eq_false c1
    have hm0 : decide (mayM m) = false := decide_eq_false (fun h => c1 h.1)
    refine T.seq_k (fun K_h0 h0 => ?_)
    refine T.regi hm ?_
    simp only [↓reduceIte, namesOf, List.any, I.names, aopsI, astep, ev, setd, List.set, List.getD, List.getElem?_cons_zero, List.getElem?_cons_succ, then_normal, Option.getD_some, Bool.or_false, Bool.false_eq_true, up_zero, binv, ↓opt_def, ldc, eq_self, hb, Nat.zero_add, f1]
    refine h0 _ _ ?_
    try clear h0 K_h0
    exact T.ret (Fin.quiet rfl trivial (hL.quiet wf) ⟨by rw [hm0]; rfl, rfl⟩)
  have f1 : decide ((m.id : Int) ≥ 1) = true := decide_eq_true c1
  by_cases c2 : m.level ≥ 0
  case neg =>
    have f2 : decide (m.level ≥ 0) = false := decide_eq_false c2
    have hm0 : decide (mayM m) = false := decide_eq_false (fun h => c2 h.2.1)
    refine T.seq_k (fun K_h0 h0 => ?_)
    refine T.regi hm ?_
    simp only [↓reduceIte, namesOf, List.any, I.names, aopsI, astep, ev, setd, List.set, List.getD, List.getElem?_cons_zero, List.getElem?_cons_succ, then_normal, Option.getD_some, Bool.or_false, Bool.false_eq_true, up_zero, binv, ↓opt_def, ldc, eq_self, hb, Nat.zero_add, f1, f2]
    refine h0 _ _ ?_
    try clear h0 K_h0
    exact T.ret (Fin.quiet rfl trivial (hL.quiet wf) ⟨by rw [hm0]; rfl, rfl⟩)
  have f2 : decide (m.level ≥ 0) = true := decide_eq_true c2
  by_cases c3 : m.level ≤ 10
  case neg =>
    have f3 : decide (m.level ≤ 10) = false := decide_eq_false c3
    have hm0 : decide (mayM m) = false := decide_eq_false (fun h => c3 h.2.2.1)
    refine T.seq_k (fun K_h0 h0 => ?_)
    refine T.regi hm ?_
    simp only [↓reduceIte, namesOf, List.any, I.names, aopsI, astep, ev, setd, List.set, List.getD, List.getElem?_cons_zero, List.getElem?_cons_succ, then_normal, Option.getD_some, Bool.or_false, Bool.false_eq_true, up_zero, binv, ↓opt_def, ldc, eq_self, hb, Nat.zero_add, f1, f2, f3]
    refine h0 _ _ ?_
    try clear h0 K_h0
    exact T.ret (Fin.quiet rfl trivial (hL.quiet wf) ⟨by rw [hm0]; rfl, rfl⟩)
  have f3 : decide (m.level ≤ 10) = true := decide_eq_true c3
  by_cases c4 : m.st ≥ 0
  case neg =>
    have f4 : decide (m.st ≥ 0) = false := decide_eq_false c4
    have hm0 : decide (mayM m) = false := decide_eq_false (fun h => c4 h.2.2.2.1)
    refine T.seq_k (fun K_h0 h0 => ?_)
    refine T.regi hm ?_
    simp only [↓reduceIte, namesOf, List.any, I.names, aopsI, astep, ev, setd, List.set, List.getD, List.getElem?_cons_zero, List.getElem?_cons_succ, then_normal, Option.getD_some, Bool.or_false, Bool.false_eq_true, up_zero, binv, ↓opt_def, ldc, eq_self, hb, Nat.zero_add, f1, f2, f3, f4]
    refine h0 _ _ ?_
    try clear h0 K_h0
    exact T.ret (Fin.quiet rfl trivial (hL.quiet wf) ⟨by rw [hm0]; rfl, rfl⟩)
  have f4 : decide (m.st ≥ 0) = true := decide_eq_true c4
  by_cases c5 : m.st ≤ m.en
  case neg =>
    have f5 : decide (m.st ≤ m.en) = false := decide_eq_false c5
    have hm0 : decide (mayM m) = false := decide_eq_false (fun h => c5 h.2.2.2.2.1)
    refine T.seq_k (fun K_h0 h0 => ?_)
    refine T.regi hm ?_
    simp only [↓reduceIte, namesOf, List.any, I.names, aopsI, astep, ev, setd, List.set, List.getD, List.getElem?_cons_zero, List.getElem?_cons_succ, then_normal, Option.getD_some, Bool.or_false, Bool.false_eq_true, up_zero, binv, ↓opt_def, ldc, eq_self, hb, Nat.zero_add, f1, f2, f3, f4, f5]
    refine h0 _ _ ?_
    try clear h0 K_h0
    exact T.ret (Fin.quiet rfl trivial (hL.quiet wf) ⟨by rw [hm0]; rfl, rfl⟩)
  have f5 : decide (m.st ≤ m.en) = true := decide_eq_true c5
  by_cases c6 : m.en ≤ 1099511627776
  case neg =>
    have f6 : decide (m.en ≤ 1099511627776) = false := decide_eq_false c6
    have hm0 : decide (mayM m) = false := decide_eq_false (fun h => c6 h.2.2.2.2.2.1)
    refine T.seq_k (fun K_h0 h0 => ?_)
    refine T.regi hm ?_
    simp only [↓reduceIte, namesOf, List.any, I.names, aopsI, astep, ev, setd, List.set, List.getD, List.getElem?_cons_zero, List.getElem?_cons_succ, then_normal, Option.getD_some, Bool.or_false, Bool.false_eq_true, up_zero, binv, ↓opt_def, ldc, eq_self, hb, Nat.zero_add, f1, f2, f3, f4, f5, f6]
    refine h0 _ _ ?_
    try clear h0 K_h0
    exact T.ret (Fin.quiet rfl trivial (hL.quiet wf) ⟨by rw [hm0]; rfl, rfl⟩)
  have f6 : decide (m.en ≤ 1099511627776) = true := decide_eq_true c6
  by_cases c7 : m.pages ≥ 1
  case neg =>
    have f7 : decide (m.pages ≥ 1) = false := decide_eq_false c7
    have hm0 : decide (mayM m) = false := decide_eq_false (fun h => c7 h.2.2.2.2.2.2.1)
    refine T.seq_k (fun K_h0 h0 => ?_)
    refine T.regi hm ?_
    simp only [↓reduceIte, namesOf, List.any, I.names, aopsI, astep, ev, setd, List.set, List.getD, List.getElem?_cons_zero, List.getElem?_cons_succ, then_normal, Option.getD_some, Bool.or_false, Bool.false_eq_true, up_zero, binv, ↓opt_def, ldc, eq_self, hb, Nat.zero_add, f1, f2, f3, f4, f5, f6, f7]
    refine h0 _ _ ?_
    try clear h0 K_h0
    exact T.ret (Fin.quiet rfl trivial (hL.quiet wf) ⟨by rw [hm0]; rfl, rfl⟩)
  have f7 : decide (m.pages ≥ 1) = true := decide_eq_true c7
  by_cases c8 : m.pages ≤ 200
  case neg =>
    have f8 : decide (m.pages ≤ 200) = false := decide_eq_false c8
    have hm0 : decide (mayM m) = false := decide_eq_false (fun h => c8 h.2.2.2.2.2.2.2.1)
    refine T.seq_k (fun K_h0 h0 => ?_)
    refine T.regi hm ?_
    simp only [↓reduceIte, namesOf, List.any, I.names, aopsI, astep, ev, setd, List.set, List.getD, List.getElem?_cons_zero, List.getElem?_cons_succ, then_normal, Option.getD_some, Bool.or_false, Bool.false_eq_true, up_zero, binv, ↓opt_def, ldc, eq_self, hb, Nat.zero_add, f1, f2, f3, f4, f5, f6, f7, f8]
    refine h0 _ _ ?_
    try clear h0 K_h0
    exact T.ret (Fin.quiet rfl trivial (hL.quiet wf) ⟨by rw [hm0]; rfl, rfl⟩)
  have f8 : decide (m.pages ≤ 200) = true := decide_eq_true c8
  by_cases c9 : m.traces ≥ m.pages
  case neg =>
    have f9 : decide (m.traces ≥ m.pages) = false := decide_eq_false c9
    have hm0 : decide (mayM m) = false := decide_eq_false (fun h => c9 h.2.2.2.2.2.2.2.2.1)
    refine T.seq_k (fun K_h0 h0 => ?_)
    refine T.regi hm ?_
    simp only [↓reduceIte, namesOf, List.any, I.names, aopsI, astep, ev, setd, List.set, List.getD, List.getElem?_cons_zero, List.getElem?_cons_succ, then_normal, Option.getD_some, Bool.or_false, Bool.false_eq_true, up_zero, binv, ↓opt_def, ldc, eq_self, hb, Nat.zero_add, f1, f2, f3, f4, f5, f6, f7, f8, f9]
    refine h0 _ _ ?_
    try clear h0 K_h0
    exact T.ret (Fin.quiet rfl trivial (hL.quiet wf) ⟨by rw [hm0]; rfl, rfl⟩)
  have f9 : decide (m.traces ≥ m.pages) = true := decide_eq_true c9
  have hw : IntKind.i64.wrap (m.pages * 64) = m.pages * 64 := wrap64 (by omega) (by omega)
  by_cases c10 : m.traces ≤ m.pages * 64
  case neg =>
    have f10 : decide (m.traces ≤ m.pages * 64) = false := decide_eq_false c10
    have hm0 : decide (mayM m) = false := decide_eq_false (fun h => c10 h.2.2.2.2.2.2.2.2.2)
    refine T.seq_k (fun K_h0 h0 => ?_)
    refine T.regi hm ?_
    simp only [↓reduceIte, namesOf, List.any, I.names, aopsI, astep, ev, setd, List.set, List.getD, List.getElem?_cons_zero, List.getElem?_cons_succ, then_normal, Option.getD_some, Bool.or_false, Bool.false_eq_true, up_zero, binv, ↓opt_def, ldc, eq_self, hb, Nat.zero_add, f1, f2, f3, f4, f5, f6, f7, f8, f9, f10, hw]
    refine h0 _ _ ?_
    try clear h0 K_h0
    exact T.ret (Fin.quiet rfl trivial (hL.quiet wf) ⟨by rw [hm0]; rfl, rfl⟩)
  have f10 : decide (m.traces ≤ m.pages * 64) = true := decide_eq_true c10
  have hm0 : decide (mayM m) = true := decide_eq_true ⟨c1, c2, c3, c4, c5, c6, c7, c8, c9, c10⟩
  refine T.seq_k (fun K_h0 h0 => ?_)
  refine T.regi hm ?_
  simp only [↓reduceIte, namesOf, List.any, I.names, aopsI, astep, ev, setd, List.set, List.getD, List.getElem?_cons_zero, List.getElem?_cons_succ, then_normal, Option.getD_some, Bool.or_false, Bool.false_eq_true, up_zero, binv, ↓opt_def, ldc, eq_self, hb, Nat.zero_add, f1, f2, f3, f4, f5, f6, f7, f8, f9, f10, hw]
  refine h0 _ _ ?_
  try clear h0 K_h0
  exact T.ret (Fin.quiet rfl trivial (hL.quiet wf) ⟨by rw [hm0]; rfl, rfl⟩)

structure Mk where
  id : Nat
  at_ : Int
  by_ : Nat

abbrev fairM (k : Mk) : Prop := (k.id : Int) ≥ 1 ∧ k.at_ ≥ 0 ∧ k.at_ ≤ 1099511627776 ∧ k.by_ ≠ k.id

abbrev mkC (k : Mk) : List AV := [.int .u64 (k.id : Int), .int .i64 k.at_, .int .u64 (k.by_ : Int)]

set_option maxRecDepth 10000 in
theorem mFair_ok {k : Mk} {σ : St} : ACalls Tryd.prog n_mFair [.agg [.int .u64 (k.id : Int), .int .i64 k.at_, .int .u64 (k.by_ : Int)]] σ (fun v σ' => v = .bool (decide (fairM k)) ∧ σ' = σ) := by
  refine s_mFair (fun wf => ?_)
  unfold c_mFair
  refine T.seq_k (fun K_h0 h0 => ?_)
  refine T.regi hm ?_
  simp only [↓reduceIte, namesOf, List.any, I.names, aopsI, astep, ev, setd, List.set, List.getD, List.getElem?_cons_zero, List.cons_append, List.nil_append, List.length_cons, List.length_nil, List.replicate, then_normal, Option.getD_some, Bool.or_false, Bool.false_eq_true, Nat.reduceAdd, Nat.reduceSub, AV.isAny, AV.cells, eq_self]
  refine h0 _ _ ?_
  try clear h0 K_h0
  have hb : ((σ.up 2).set (σ.next + 0) (.obj [.int .u64 (k.id : Int), .int .i64 k.at_, .int .u64 (k.by_ : Int)])).res (σ.next + 0) = some (.obj [.int .u64 (k.id : Int), .int .i64 k.at_, .int .u64 (k.by_ : Int)]) := St.set_same _ _ _
  have hL : Like σ ((σ.up 2).set (σ.next + 0) (.obj [.int .u64 (k.id : Int), .int .i64 k.at_, .int .u64 (k.by_ : Int)])) := (Like.refl σ).box (n := 2) (i := 0) _
  generalize ((σ.up 2).set (σ.next + 0) (.obj [.int .u64 (k.id : Int), .int .i64 k.at_, .int .u64 (k.by_ : Int)])) = t at hb hL ⊢
  generalize σ.next + 0 = b at hb ⊢
  by_cases c1 : (k.id : Int) ≥ 1
  case neg =>
    have f1 : decide ((k.id : Int) ≥ 1) = false := decide_eq_false c1
    have hm0 : decide (fairM k) = false := decide_eq_false (fun h => c1 (by have := h.1; omega))
    refine T.seq_k (fun K_h0 h0 => ?_)
    refine T.regi hm ?_
    simp only [↓reduceIte, namesOf, List.any, I.names, aopsI, astep, ev, setd, List.set, List.getD, List.getElem?_cons_zero, List.getElem?_cons_succ, then_normal, Option.getD_some, Bool.or_false, Bool.false_eq_true, up_zero, binv, ↓opt_def, ldc, eq_self, hb, Nat.zero_add, f1]
    refine h0 _ _ ?_
    try clear h0 K_h0
    exact T.ret (Fin.quiet rfl trivial (hL.quiet wf) ⟨by rw [hm0]; rfl, rfl⟩)
  have f1 : decide ((k.id : Int) ≥ 1) = true := decide_eq_true c1
  by_cases c2 : k.at_ ≥ 0
  case neg =>
    have f2 : decide (k.at_ ≥ 0) = false := decide_eq_false c2
    have hm0 : decide (fairM k) = false := decide_eq_false (fun h => c2 (by have := h.2.1; omega))
    refine T.seq_k (fun K_h0 h0 => ?_)
    refine T.regi hm ?_
    simp only [↓reduceIte, namesOf, List.any, I.names, aopsI, astep, ev, setd, List.set, List.getD, List.getElem?_cons_zero, List.getElem?_cons_succ, then_normal, Option.getD_some, Bool.or_false, Bool.false_eq_true, up_zero, binv, ↓opt_def, ldc, eq_self, hb, Nat.zero_add, f1, f2]
    refine h0 _ _ ?_
    try clear h0 K_h0
    exact T.ret (Fin.quiet rfl trivial (hL.quiet wf) ⟨by rw [hm0]; rfl, rfl⟩)
  have f2 : decide (k.at_ ≥ 0) = true := decide_eq_true c2
  by_cases c3 : k.at_ ≤ 1099511627776
  case neg =>
    have f3 : decide (k.at_ ≤ 1099511627776) = false := decide_eq_false c3
    have hm0 : decide (fairM k) = false := decide_eq_false (fun h => c3 (by have := h.2.2.1; omega))
    refine T.seq_k (fun K_h0 h0 => ?_)
    refine T.regi hm ?_
    simp only [↓reduceIte, namesOf, List.any, I.names, aopsI, astep, ev, setd, List.set, List.getD, List.getElem?_cons_zero, List.getElem?_cons_succ, then_normal, Option.getD_some, Bool.or_false, Bool.false_eq_true, up_zero, binv, ↓opt_def, ldc, eq_self, hb, Nat.zero_add, f1, f2, f3]
    refine h0 _ _ ?_
    try clear h0 K_h0
    exact T.ret (Fin.quiet rfl trivial (hL.quiet wf) ⟨by rw [hm0]; rfl, rfl⟩)
  have f3 : decide (k.at_ ≤ 1099511627776) = true := decide_eq_true c3
  have hm0 : decide (fairM k) = ((k.by_ : Int) != (k.id : Int)) := by
    by_cases h : k.by_ = k.id
    · rw [decide_eq_false (fun hf => hf.2.2.2 h), h]; simp
    · rw [decide_eq_true ⟨by omega, c2, c3, h⟩]; symm; simp; omega
  refine T.seq_k (fun K_h0 h0 => ?_)
  refine T.regi hm ?_
  simp only [↓reduceIte, namesOf, List.any, I.names, aopsI, astep, ev, setd, List.set, List.getD, List.getElem?_cons_zero, List.getElem?_cons_succ, then_normal, Option.getD_some, Bool.or_false, Bool.false_eq_true, up_zero, binv, ↓opt_def, ldc, eq_self, hb, Nat.zero_add, f1, f2, f3]
  refine h0 _ _ ?_
  try clear h0 K_h0
  exact T.ret (Fin.quiet rfl trivial (hL.quiet wf) ⟨by rw [hm0]; rfl, rfl⟩)

/-- numbers, each of eight bytes, one behind the other -/
def w8s (l : List Nat) : List UInt8 := l.flatMap (beB 8)

theorem w8s_len (l : List Nat) : (w8s l).length = l.length * 8 := by
  induction l with
  | nil => rfl
  | cons n l ih => simp only [w8s, List.flatMap_cons, List.length_append, List.length_cons, beB_len] at ih ⊢; omega

def f8AV (l : List Nat) : List AV := l.map fun (n : Nat) => .agg [.int .i64 8, .int .u64 (n : Int)]

theorem f8_len (l : List Nat) : (f8AV l).length = l.length := by simp [f8AV]

theorem f8_get {l : List Nat} {i n : Nat} (h : l[i]? = some n) : (f8AV l)[i]? = some (.agg [.int .i64 8, .int .u64 (n : Int)]) := by simp [f8AV, h]

set_option maxRecDepth 10000 in
theorem mput8_ok {l : List Nat} {g : Ver} {σ : St} (hl : l.length ≤ 1000) : ACalls Tryd.prog n_mput [.sl (f8AV l) g] σ (fun v σ' => v = .tup [.sl (bytesAV (sealB (w8s l))) .none, .nili] ∧ σ' = σ) := by
  refine s_mput (fun wf => ?_)
  unfold c_mput
  refine T.seq_k (fun K_h0 h0 => ?_)
  refine T.regi hm ?_
  simp only [↓reduceIte, namesOf, List.any, I.names, aopsI, astep, ev, setd, List.set, List.cons_append, List.nil_append, List.length_cons, List.length_nil, List.replicate, then_normal, Bool.or_false, Bool.false_eq_true, up_zero, Nat.reduceAdd, Nat.reduceSub]
  refine h0 _ _ ?_
  try clear h0 K_h0
  refine T.seq_k (fun K_h0 h0 => ?_)
  refine T.regi hm ?_
  simp only [↓reduceIte, namesOf, List.any, I.names, aopsI, astep, ev, setd, List.set, then_normal, Bool.or_false, Bool.false_eq_true, up_zero]
  refine h0 _ _ ?_
  try clear h0 K_h0
  refine T.seq_k (fun K_h1 h1 => ?_)
  refine T.seq_k (fun K_h0 h0 => ?_)
  refine T.regi hm ?_
  simp only [↓reduceIte, namesOf, List.any, I.names, aopsI, astep, ev, setd, List.set, List.getD, List.getElem?_cons_zero, List.getElem?_cons_succ, then_normal, Option.getD_some, Bool.or_false, Bool.false_eq_true, up_zero, f8_len]
  refine h0 _ _ ?_
  try clear h0 K_h0
  refine T.block ?_
  refine T.gh (Gh.keep [4, 9, 10, 11]) ?_
  refine T.loopi (fun i ρ t => ∃ g2, Like σ t ∧ ρ = [.any, .any, .any, .any, .sl (bytesAV (w8s (l.take i))) g2, .any, .any, .any, .any, .sl (f8AV l) g, .int .i64 (l.length : Int), .int .i64 (i : Int)] ++ List.replicate 19 .any)
    l.length 0 (Nat.zero_le _) ⟨.nil, .refl _, rfl⟩ ?_
  rintro i ρ t hi ⟨g2, hL, rfl⟩
  refine T.seq_k (fun K_h0 h0 => ?_)
  refine T.regi hm ?_
  simp only [↓reduceIte, namesOf, List.any, I.names, aopsI, astep, ev, setd, List.set, List.getD, List.getElem?_cons_zero, List.getElem?_cons_succ, List.cons_append, List.nil_append, List.replicate, then_normal, Option.getD_some, Bool.or_false, Bool.false_eq_true, up_zero, binv, ↓opt_def, lt_len, eq_self]
  refine h0 _ _ ?_
  try clear h0 K_h0
  refine T.seq_k (fun K_h2 h2 => ?_)
  by_cases hil : i < l.length
  case neg =>
    refine T.cond (b := false) (by simp [ev]; omega) (fun h => by cases h) (fun _ => T.exit ?_)
    have hie : i = l.length := by omega
    subst hie
    rw [List.take_length]
    try simp only [List.cons_append, List.nil_append, List.replicate, then_normal, inBlock_exit, then_exit]
    refine h1 _ _ ?_
    try clear h1 K_h1
    refine T.seq_k (fun K_h1 h1 => ?_)
    refine T.regi hm ?_
    simp only [↓reduceIte, namesOf, List.any, I.names, aopsI, astep, ev, setd, List.set, List.getD, List.getElem?_cons_zero, List.getElem?_cons_succ, then_normal, Option.getD_some, Bool.or_false, Bool.false_eq_true, up_zero, List.map_cons, List.map_nil]
    refine (cseal_q (by rw [w8s_len]; omega)).mono ?_
    rintro v σ1 ⟨rfl, rfl⟩
    try simp only [↓reduceIte, namesOf, List.any, I.names, aops, aopsI, aopsT, qstep, CPt, qget, Tbl.get, astep, ev, setd, List.set, List.getD, List.getElem?_cons_zero, List.getElem?_cons_succ, List.getElem?_nil, List.cons_append, List.nil_append, List.length_cons, List.length_nil, List.replicate, then_normal, inBlock_normal, Option.getD_some, Option.getD_none, Bool.or_false, Bool.or_true, Bool.true_or, Bool.false_or, Bool.false_eq_true, if_false, if_true, up_zero, Nat.reduceAdd, Nat.reduceSub, binv, ↓opt_def, AV.isAny, AV.cells, ldc, List.map_cons, List.map_nil, St.set_next, St.set_same, St.up_next, Int.natCast_nonneg, lt_len, le_len, Int.toNat_natCast, true_and, and_true, eq_self, reduceCtorEq, decide_true, List.length_singleton, er_int, er_bool, er_str, srcR, up_zero]
    refine h1 _ _ ?_
    try clear h1 K_h1
    exact T.ret (Fin.quiet rfl ⟨⟨nb_bytes _ _, trivial⟩, trivial, trivial⟩ (hL.quiet wf) ⟨rfl, rfl⟩)
  refine T.cond (b := true) (by simp [ev]; omega) (fun _ => T.skip ?_) (fun h => by cases h)
  refine h2 _ _ ?_
  try clear h2 K_h2
  obtain ⟨n, hn⟩ : ∃ n, l[i]? = some n := ⟨_, List.getElem?_eq_getElem hil⟩
  have hgn := f8_get hn
  have hts : w8s (l.take (i + 1)) = w8s (l.take i) ++ beB 8 n := by
    rw [List.take_succ_eq_append_getElem hil]
    rw [List.getElem?_eq_getElem hil] at hn
    cases hn
    simp only [w8s, List.flatMap_append, List.flatMap_cons, List.flatMap_nil, List.append_nil]
  have hw := inc64' hil (by omega)
  have hlen : (w8s (l.take i)).length ≤ 1099511627776 := by rw [w8s_len, List.length_take]; omega
  refine T.seq_k (fun K_h3 h3 => ?_)
  refine T.block ?_
  refine T.seq_k (fun K_h0 h0 => ?_)
  refine T.regi hm ?_
  simp only [↓reduceIte, namesOf, List.any, I.names, aopsI, astep, ev, setd, List.set, List.getD, List.getElem?_cons_zero, List.getElem?_cons_succ, List.cons_append, List.nil_append, List.length_cons, List.length_nil, List.replicate, then_normal, Option.getD_some, Bool.or_false, Bool.or_true, Nat.reduceAdd, ↓opt_def, AV.isAny, AV.cells, ldc, St.set_same, Int.natCast_nonneg, lt_len, Int.toNat_natCast, true_and, and_true, eq_self, decide_true, hil, f8_len, hgn, AV.fits, AV.one, List.all_cons, List.all_nil, Nat.reduceBEq, Bool.not_false, Bool.and_self, Nat.zero_add, splice, List.take, List.drop, Nat.reduceLeDiff, St.set_set]
  refine h0 _ _ ?_
  try clear h0 K_h0
  have hb : ((t.up 4).set (t.next + 2) (.obj [.int .i64 8, .int .u64 (n : Int)])).res (t.next + 2) = some (.obj [.int .i64 8, .int .u64 (n : Int)]) := St.set_same _ _ _
  have hL1 : Like σ ((t.up 4).set (t.next + 2) (.obj [.int .i64 8, .int .u64 (n : Int)])) := hL.box (n := 4) (i := 2) _
  generalize ((t.up 4).set (t.next + 2) (.obj [.int .i64 8, .int .u64 (n : Int)])) = u at hb hL1 ⊢
  generalize t.next + 2 = b at hb ⊢
  refine T.seq_k (fun K_h4 h4 => ?_)
  refine T.regi hm ?_
  simp only [↓reduceIte, namesOf, List.any, I.names, aopsI, astep, ev, setd, List.set, List.getD, List.getElem?_cons_zero, List.getElem?_cons_succ, List.cons_append, List.nil_append, List.replicate, then_normal, Option.getD_some, Bool.or_false, Bool.false_eq_true, up_zero, ↓opt_def, ldc, List.map_cons, List.map_nil, hb, Nat.zero_add]
  refine (wput_ok (w := 8) hlen (by rfl) (fun h => absurd h (by omega))).mono ?_
  rintro v σ1 ⟨h, o1, rfl⟩
  try simp only [List.getElem?_cons_zero, List.getElem?_cons_succ]
  refine h4 _ _ ?_
  try clear h4 K_h4
  have hL2 : Like σ σ1 := hL1.trans (Like.one o1)
  refine T.seq_k (fun K_h4 h4 => ?_)
  refine T.seq_k (fun K_h0 h0 => ?_)
  refine T.regi hm ?_
  simp only [↓reduceIte, namesOf, List.any, I.names, aopsI, astep, ev, setd, List.set, List.getD, List.getElem?_cons_zero, List.getElem?_cons_succ, List.cons_append, List.nil_append, List.replicate, then_normal, Option.getD_some, Bool.or_false, Bool.false_eq_true, up_zero, eq_self, eqIv, bne_self_eq_false]
  refine h0 _ _ ?_
  try clear h0 K_h0
  refine T.cond rfl (fun h => by cases h) (fun _ => T.skip ?_)
  refine h4 _ _ ?_
  try clear h4 K_h4
  refine T.regi hm ?_
  simp only [↓reduceIte, namesOf, List.any, I.names, aopsI, astep, ev, setd, List.set, List.getD, List.getElem?_cons_zero, List.getElem?_cons_succ, List.cons_append, List.nil_append, List.replicate, then_normal, inBlock_normal, Option.getD_some, Bool.or_false, Bool.false_eq_true, up_zero]
  try simp only [↓reduceIte, namesOf, List.any, I.names, aops, aopsI, aopsT, qstep, CPt, qget, Tbl.get, astep, ev, setd, List.set, List.getD, List.getElem?_cons_zero, List.getElem?_cons_succ, List.getElem?_nil, List.cons_append, List.nil_append, List.length_cons, List.length_nil, List.replicate, then_normal, inBlock_normal, Option.getD_some, Option.getD_none, Bool.or_false, Bool.or_true, Bool.true_or, Bool.false_or, Bool.false_eq_true, if_false, if_true, up_zero, Nat.reduceAdd, Nat.reduceSub, binv, ↓opt_def, AV.isAny, AV.cells, ldc, List.map_cons, List.map_nil, St.set_next, St.set_same, St.up_next, Int.natCast_nonneg, lt_len, le_len, Int.toNat_natCast, true_and, and_true, eq_self, reduceCtorEq, decide_true, List.length_singleton, er_int, er_bool, er_str, srcR, inBlock_normal]
  refine h3 _ _ ?_
  try clear h3 K_h3
  refine T.regi hm ?_
  simp only [↓reduceIte, namesOf, List.any, I.names, aopsI, astep, ev, setd, List.set, List.getD, List.getElem?_cons_zero, List.getElem?_cons_succ, List.cons_append, List.nil_append, List.replicate, then_normal, Option.getD_some, Bool.or_false, Bool.false_eq_true, up_zero, binv, ↓opt_def, eq_self, hw]
  exact ⟨hil, _, _, Gh.keep [4, 9, 10, 11], .tip h, hL2, by rw [hts]; rfl⟩

/-- a marker's bytes -/
def markB (k : Mk) : List UInt8 := sealB (w8s [k.id, k.at_.toNat, k.by_])

set_option maxRecDepth 10000 in
theorem mMark_ok {k : Mk} {σ : St} (hf : fairM k) : ACalls Tryd.prog n_mMark [.agg [.int .u64 (k.id : Int), .int .i64 k.at_, .int .u64 (k.by_ : Int)]] σ
    (fun v σ' => v = .tup [.sl (bytesAV (markB k)) .none, .nili] ∧ σ' = σ) := by
  refine s_mMark (fun wf => ?_)
  unfold c_mMark
  refine T.seq_k (fun K_h0 h0 => ?_)
  refine T.regi hm ?_
  simp only [↓reduceIte, namesOf, List.any, I.names, aopsI, astep, ev, setd, List.set, List.getD, List.getElem?_cons_zero, List.cons_append, List.nil_append, List.length_cons, List.length_nil, List.replicate, then_normal, Option.getD_some, Bool.or_false, Bool.false_eq_true, Nat.reduceAdd, Nat.reduceSub, AV.isAny, AV.cells, eq_self]
  refine h0 _ _ ?_
  try clear h0 K_h0
  have hb : ((σ.up 3).set (σ.next + 0) (.obj (mkC k))).res (σ.next + 0) = some (.obj (mkC k)) := St.set_same _ _ _
  have hL : Like σ ((σ.up 3).set (σ.next + 0) (.obj (mkC k))) := (Like.refl σ).box (n := 3) (i := 0) _
  generalize ((σ.up 3).set (σ.next + 0) (.obj (mkC k))) = t at hb hL ⊢
  generalize σ.next + 0 = b at hb ⊢
  refine T.seq_k (fun K_h1 h1 => ?_)
  refine T.seq_k (fun K_h2 h2 => ?_)
  refine T.regi hm ?_
  simp only [↓reduceIte, namesOf, List.any, I.names, aopsI, astep, ev, setd, List.set, List.getD, List.getElem?_cons_zero, List.getElem?_cons_succ, List.length_cons, List.length_nil, then_normal, Option.getD_some, Bool.or_false, Bool.false_eq_true, up_zero, Nat.reduceAdd, ↓opt_def, ldc, List.map_cons, List.map_nil, hb, Nat.zero_add, Nat.zero_add, List.take, List.drop, Nat.reduceLeDiff]
  refine mFair_ok.mono ?_
  rintro v σ1 ⟨rfl, rfl⟩
  try simp only [decide_eq_true hf, Bool.not_true]
  refine h2 _ _ ?_
  try clear h2 K_h2
  refine T.cond rfl (fun h => by cases h) (fun _ => T.skip ?_)
  refine h1 _ _ ?_
  try clear h1 K_h1
  have ha : ((k.at_.toNat : Nat) : Int) = k.at_ := by have := hf.2.1; omega
  have hw : IntKind.u64.wrap k.at_ = ((k.at_.toNat : Nat) : Int) := by
    rw [← ha]
    rw [Int.toNat_natCast]
    exact u64w (by have := hf.2.2.1; omega)
  have hfl : [AV.agg [.int .i64 8, .int .u64 (k.id : Int)], .agg [.int .i64 8, .int .u64 ((k.at_.toNat : Nat) : Int)], .agg [.int .i64 8, .int .u64 (k.by_ : Int)]] = f8AV [k.id, k.at_.toNat, k.by_] := rfl
  refine T.seq_k (fun K_h1 h1 => ?_)
  refine T.regi hm ?_
  simp only [↓reduceIte, namesOf, List.any, I.names, aopsI, astep, ev, setd, List.set, List.getD, List.getElem?_cons_zero, List.getElem?_cons_succ, List.cons_append, List.nil_append, List.length_cons, List.length_nil, then_normal, Option.getD_some, Bool.or_false, Bool.false_eq_true, up_zero, Nat.reduceAdd, ↓opt_def, AV.isAny, AV.cells, ldc, List.map_cons, List.map_nil, and_true, eq_self, hb, Nat.zero_add, hw, held, fillA, ↓Option.map_some, hfl, AV.fits, AV.one, List.all_cons, List.all_nil, Nat.reduceBEq, Bool.not_false, Bool.and_self, Nat.zero_add, splice, List.take, List.drop, Nat.reduceLeDiff]
  refine (mput8_ok (l := [k.id, k.at_.toNat, k.by_]) (by simp)).mono ?_
  rintro v σ2 ⟨rfl, rfl⟩
  try simp only [List.getElem?_cons_zero, List.getElem?_cons_succ]
  refine h1 _ _ ?_
  try clear h1 K_h1
  exact T.ret (Fin.quiet rfl ⟨⟨nb_bytes _ _, trivial⟩, trivial, trivial⟩ (hL.quiet wf) ⟨rfl, rfl⟩)

end Go.VL

namespace Go.VL

open Go.Proofs

/-- a slice that began as nil, and was appended to: nothing yet, or a named end; what was there ahead of it is as it was -/
def AccG (σ t : St) (k : Nat) (xs : List AV) (x : AV) : Option Nat → Prop
  | none => x = .sl [] .nil ∧ xs = [] ∧ Like σ t
  | some g => x = .sl xs (.tip g) ∧ Tq σ t g k

section

variable {σ t u : St} {k : Nat} {xs : List AV} {x : AV} {G : Option Nat}

theorem AccG.like (h : AccG σ t k xs x G) : Like σ t := by
  cases G with
  | none => exact h.2.2
  | some g => exact h.2.like

theorem AccG.nil (h : Like σ t) : AccG σ t k [] (.sl [] .nil) none := ⟨rfl, rfl, h⟩

theorem AccG.of_tip {g : Nat} (h : Tq σ t g k) : AccG σ t k xs (.sl xs (.tip g)) (some g) := ⟨rfl, h⟩

theorem AccG.ex (h : AccG σ t k xs x G) : ∃ v, x = .sl xs v := by
  cases G with
  | none => obtain ⟨h1, h2, _⟩ := h; subst h2; exact ⟨_, h1⟩
  | some g => exact ⟨_, h.1⟩

theorem AccG.up (h : AccG σ t k xs x G) (n : Nat) : AccG σ (t.up n) k xs x G := by
  cases G with
  | none => exact ⟨h.1, h.2.1, h.2.2.up n⟩
  | some g => exact ⟨h.1, h.2.up n⟩

theorem AccG.lt (h : AccG σ t k xs x G) : ∀ g, G = some g → σ.next ≤ g ∧ g < t.next := by
  rintro g rfl
  exact ⟨h.2.lo, h.2.hi⟩

theorem AccG.keep (h : AccG σ t k xs x G) (hn : t.next ≤ u.next) (hs : ∀ m, m < σ.next → u.res m = t.res m) (hg : ∀ g, G = some g → u.res g = t.res g) : AccG σ u k xs x G := by
  have hl : Like σ u := ⟨Nat.le_trans h.like.next hn, fun m hm => (hs m hm).trans (h.like.same m hm)⟩
  cases G with
  | none => exact ⟨h.1, h.2.1, hl⟩
  | some g => exact ⟨h.1, hl, by rw [hg g rfl]; exact h.2.at_, h.2.lo, Nat.lt_of_lt_of_le h.2.hi hn⟩

theorem AccG.set (h : AccG σ t k xs x G) {a : Nat} (r : Res) (ha : σ.next ≤ a) (hg : ∀ g, G = some g → a ≠ g) : AccG σ (t.set a r) k xs x G :=
  h.keep (Nat.le_refl _) (fun m hm => St.set_other _ _ (by omega)) (fun g e => St.set_other _ _ (Ne.symm (hg g e)))

theorem AccG.box (h : AccG σ t k xs x G) {n i : Nat} (hi : i < n) (r : Res) : AccG σ ((t.up n).set (t.next + i) r) k xs x G :=
  (h.up n).set r (by have := h.like.next; omega) (fun g e => by have := (h.lt g e).2; omega)

theorem AccG.quiet (wf : WF σ) (h : AccG σ t k xs x G) : ∀ n r, σ.res n = some r → t.res n = some r := h.like.quiet wf

theorem AccG.wk (h : AccG σ t k xs x G) : Wk x (.sl xs .none) := by
  obtain ⟨v, rfl⟩ := h.ex
  exact .sl _ _

end

end Go.VL

namespace Go.VL

open Go.Proofs

abbrev outBad (now ret : Int) : Prop := now < 0 ∨ now > 1099511627776 ∨ ret < 0 ∨ ret > 1099511627776

def outM (l : List Mt) (x : Int) : List Mt := l.filter fun m => decide (m.en ≤ x)

theorem out_len (l : List Mt) (x : Int) : (outM l x).length ≤ l.length := List.length_filter_le _ _

set_option maxRecDepth 10000 in
set_option maxHeartbeats 1000000 in
theorem plOut_ok {l : List Mt} {g : Ver} {now ret : Int} {σ : St} (hl : l.length ≤ 1000000) :
    ACalls Tryd.prog n_plOut [.sl (mtsAV l) g, .int .i64 now, .int .i64 ret] σ (fun v σ' => σ' = σ ∧ ((outBad now ret ∧ v = .tup [.sl [] .nil, .iface tCode (.int .i64 1)]) ∨ (¬ outBad now ret ∧ v = .tup [.sl (mtsAV (outM l (now - ret))) .none, .nili]))) := by
  refine s_plOut (fun wf => ?_)
  unfold c_plOut
  refine T.seq_k (fun K_h0 h0 => ?_)
  refine T.regi hm ?_
  simp only [↓reduceIte, namesOf, List.any, I.names, aopsI, astep, ev, setd, List.set, List.cons_append, List.nil_append, List.length_cons, List.length_nil, List.replicate, then_normal, Bool.or_false, Bool.false_eq_true, up_zero, Nat.reduceAdd, Nat.reduceSub]
  refine h0 _ _ ?_
  try clear h0 K_h0
  refine T.seq_k (fun K_h1 h1 => ?_)
  by_cases c1 : now < 0
  · have e1 : decide (now < 0) = true := decide_eq_true c1
    refine T.seq_k (fun K_h0 h0 => ?_)
    refine T.regi hm ?_
    simp only [↓reduceIte, namesOf, List.any, I.names, aopsI, astep, ev, setd, List.set, List.getD, List.getElem?_cons_zero, List.getElem?_cons_succ, then_normal, Option.getD_some, Bool.or_false, Bool.false_eq_true, up_zero, binv, ↓opt_def, eq_self, reduceCtorEq, e1]
    refine h0 _ _ ?_
    try clear h0 K_h0
    refine T.cond rfl (fun _ => ?_) (fun h => by cases h)
    refine T.seq_k (fun K_h0 h0 => ?_)
    refine T.regi hm ?_
    simp only [↓reduceIte, namesOf, List.any, I.names, aopsI, astep, ev, setd, List.set, List.getD, List.getElem?_cons_zero, List.getElem?_cons_succ, then_normal, Option.getD_some, Bool.or_false, Bool.false_eq_true, up_zero]
    refine h0 _ _ ?_
    try clear h0 K_h0
    exact T.ret (Fin.ret rfl ⟨rfl, .inl ⟨.inl c1, rfl⟩⟩)
  have e1 : decide (now < 0) = false := decide_eq_false c1
  by_cases c2 : now > 1099511627776
  · have e2 : decide (now > 1099511627776) = true := decide_eq_true c2
    refine T.seq_k (fun K_h0 h0 => ?_)
    refine T.regi hm ?_
    simp only [↓reduceIte, namesOf, List.any, I.names, aopsI, astep, ev, setd, List.set, List.getD, List.getElem?_cons_zero, List.getElem?_cons_succ, then_normal, Option.getD_some, Bool.or_false, Bool.false_eq_true, up_zero, binv, ↓opt_def, eq_self, reduceCtorEq, e1, e2]
    refine h0 _ _ ?_
    try clear h0 K_h0
    refine T.cond rfl (fun _ => ?_) (fun h => by cases h)
    refine T.seq_k (fun K_h0 h0 => ?_)
    refine T.regi hm ?_
    simp only [↓reduceIte, namesOf, List.any, I.names, aopsI, astep, ev, setd, List.set, List.getD, List.getElem?_cons_zero, List.getElem?_cons_succ, then_normal, Option.getD_some, Bool.or_false, Bool.false_eq_true, up_zero]
    refine h0 _ _ ?_
    try clear h0 K_h0
    exact T.ret (Fin.ret rfl ⟨rfl, .inl ⟨.inr (.inl c2), rfl⟩⟩)
  have e2 : decide (now > 1099511627776) = false := decide_eq_false c2
  by_cases c3 : ret < 0
  · have e3 : decide (ret < 0) = true := decide_eq_true c3
    refine T.seq_k (fun K_h0 h0 => ?_)
    refine T.regi hm ?_
    simp only [↓reduceIte, namesOf, List.any, I.names, aopsI, astep, ev, setd, List.set, List.getD, List.getElem?_cons_zero, List.getElem?_cons_succ, then_normal, Option.getD_some, Bool.or_false, Bool.false_eq_true, up_zero, binv, ↓opt_def, eq_self, reduceCtorEq, e1, e2, e3]
    refine h0 _ _ ?_
    try clear h0 K_h0
    refine T.cond rfl (fun _ => ?_) (fun h => by cases h)
    refine T.seq_k (fun K_h0 h0 => ?_)
    refine T.regi hm ?_
    simp only [↓reduceIte, namesOf, List.any, I.names, aopsI, astep, ev, setd, List.set, List.getD, List.getElem?_cons_zero, List.getElem?_cons_succ, then_normal, Option.getD_some, Bool.or_false, Bool.false_eq_true, up_zero]
    refine h0 _ _ ?_
    try clear h0 K_h0
    exact T.ret (Fin.ret rfl ⟨rfl, .inl ⟨.inr (.inr (.inl c3)), rfl⟩⟩)
  have e3 : decide (ret < 0) = false := decide_eq_false c3
  by_cases c4 : ret > 1099511627776
  · have e4 : decide (ret > 1099511627776) = true := decide_eq_true c4
    refine T.seq_k (fun K_h0 h0 => ?_)
    refine T.regi hm ?_
    simp only [↓reduceIte, namesOf, List.any, I.names, aopsI, astep, ev, setd, List.set, List.getD, List.getElem?_cons_zero, List.getElem?_cons_succ, then_normal, Option.getD_some, Bool.or_false, Bool.false_eq_true, up_zero, binv, ↓opt_def, eq_self, e1, e2, e3, e4]
    refine h0 _ _ ?_
    try clear h0 K_h0
    refine T.cond rfl (fun _ => ?_) (fun h => by cases h)
    refine T.seq_k (fun K_h0 h0 => ?_)
    refine T.regi hm ?_
    simp only [↓reduceIte, namesOf, List.any, I.names, aopsI, astep, ev, setd, List.set, List.getD, List.getElem?_cons_zero, List.getElem?_cons_succ, then_normal, Option.getD_some, Bool.or_false, Bool.false_eq_true, up_zero]
    refine h0 _ _ ?_
    try clear h0 K_h0
    exact T.ret (Fin.ret rfl ⟨rfl, .inl ⟨.inr (.inr (.inr c4)), rfl⟩⟩)
  have e4 : decide (ret > 1099511627776) = false := decide_eq_false c4
  have hbad : ¬ outBad now ret := by rintro (h | h | h | h) <;> omega
  refine T.seq_k (fun K_h0 h0 => ?_)
  refine T.regi hm ?_
  simp only [↓reduceIte, namesOf, List.any, I.names, aopsI, astep, ev, setd, List.set, List.getD, List.getElem?_cons_zero, List.getElem?_cons_succ, then_normal, Option.getD_some, Bool.or_false, Bool.false_eq_true, up_zero, binv, ↓opt_def, eq_self, e1, e2, e3, e4]
  refine h0 _ _ ?_
  try clear h0 K_h0
  refine T.cond rfl (fun h => by cases h) (fun _ => T.skip ?_)
  refine h1 _ _ ?_
  try clear h1 K_h1
  refine T.seq_k (fun K_h0 h0 => ?_)
  refine T.regi hm ?_
  simp only [↓reduceIte, namesOf, List.any, I.names, aopsI, astep, ev, setd, List.set, then_normal, Bool.or_false, Bool.false_eq_true, up_zero]
  refine h0 _ _ ?_
  try clear h0 K_h0
  refine T.seq_k (fun K_h1 h1 => ?_)
  refine T.seq_k (fun K_h0 h0 => ?_)
  refine T.regi hm ?_
  simp only [↓reduceIte, namesOf, List.any, I.names, aopsI, astep, ev, setd, List.set, List.getD, List.getElem?_cons_zero, List.getElem?_cons_succ, then_normal, Option.getD_some, Bool.or_false, Bool.false_eq_true, up_zero, mts_len]
  refine h0 _ _ ?_
  try clear h0 K_h0
  refine T.block ?_
  refine T.gh (Gh.keep [1, 2, 8, 26, 27, 28]) ?_
  refine T.loopi (fun i ρ t => ∃ v G, AccG σ t 6 (mtsAV (outM (l.take i) (now - ret))) (.sl (mtsAV (outM (l.take i) (now - ret))) v) G ∧
      ρ = [.any, .int .i64 now, .int .i64 ret, .any, .any, .any, .any, .any, .sl (mtsAV (outM (l.take i) (now - ret))) v] ++ List.replicate 17 .any ++ [.sl (mtsAV l) g, .int .i64 (l.length : Int), .int .i64 (i : Int)] ++ List.replicate 15 .any)
    l.length 0 (Nat.zero_le _) ⟨.nil, none, .nil (.refl _), rfl⟩ ?_
  rintro i ρ t hi ⟨v, G, hA, rfl⟩
  refine T.seq_k (fun K_h0 h0 => ?_)
  refine T.regi hm ?_
  simp only [↓reduceIte, namesOf, List.any, I.names, aopsI, astep, ev, setd, List.set, List.getD, List.getElem?_cons_zero, List.getElem?_cons_succ, List.cons_append, List.nil_append, List.replicate, then_normal, Option.getD_some, Bool.or_false, Bool.false_eq_true, up_zero, binv, ↓opt_def, lt_len, eq_self]
  refine h0 _ _ ?_
  try clear h0 K_h0
  refine T.seq_k (fun K_h2 h2 => ?_)
  by_cases hil : i < l.length
  case neg =>
    refine T.cond (b := false) (by simp [ev]; omega) (fun h => by cases h) (fun _ => T.exit ?_)
    have hie : i = l.length := by omega
    subst hie
    rw [List.take_length] at hA ⊢
    try simp only [List.cons_append, List.nil_append, List.replicate, then_normal, inBlock_exit, then_exit]
    refine h1 _ _ ?_
    try clear h1 K_h1
    refine T.seq_k (fun K_h0 h0 => ?_)
    refine T.regi hm ?_
    simp only [↓reduceIte, namesOf, List.any, I.names, aopsI, astep, ev, setd, List.set, List.getD, List.getElem?_cons_zero, List.getElem?_cons_succ, then_normal, Option.getD_some, Bool.or_false, Bool.false_eq_true, up_zero]
    refine h0 _ _ ?_
    try clear h0 K_h0
    exact T.ret (Fin.quietw rfl (Wk.tup2 (Wk.sl _ _)) ⟨⟨mts_nb _ _, trivial⟩, trivial, trivial⟩ (hA.quiet wf) ⟨rfl, .inr ⟨hbad, rfl⟩⟩)
  refine T.cond (b := true) (by simp [ev]; omega) (fun _ => T.skip ?_) (fun h => by cases h)
  refine h2 _ _ ?_
  try clear h2 K_h2
  obtain ⟨x, hx⟩ : ∃ x, l[i]? = some x := ⟨_, List.getElem?_eq_getElem hil⟩
  have hgx := mts_get hx
  have hw := inc64' hil (by omega)
  have hts : outM (l.take (i + 1)) (now - ret) = outM (l.take i) (now - ret) ++ if x.en ≤ now - ret then [x] else [] := by
    unfold outM
    rw [List.take_succ_eq_append_getElem hil, List.filter_append]
    have : l[i] = x := by rw [List.getElem?_eq_getElem hil] at hx; cases hx; rfl
    rw [this]
    by_cases h9 : x.en ≤ now - ret
    · rw [if_pos h9, List.filter_cons_of_pos (p := fun (m : Mt) => decide (m.en ≤ now - ret)) (decide_eq_true h9)]; rfl
    · rw [if_neg h9, List.filter_cons_of_neg (p := fun (m : Mt) => decide (m.en ≤ now - ret)) (by simpa using h9)]; rfl
  have hol : (outM (l.take i) (now - ret)).length ≤ 1000000 := Nat.le_trans (out_len _ _) (Nat.le_trans (List.length_take_le' _ _) hl)
  generalize hO : outM (l.take i) (now - ret) = out at hA hts hol ⊢
  refine T.seq_k (fun K_h3 h3 => ?_)
  refine T.block ?_
  refine T.seq_k (fun K_h0 h0 => ?_)
  refine T.regi hm ?_
  simp only [↓reduceIte, namesOf, List.any, I.names, aopsI, astep, ev, setd, List.set, List.getD, List.getElem?_cons_zero, List.getElem?_cons_succ, List.cons_append, List.nil_append, List.length_cons, List.length_nil, List.replicate, then_normal, Option.getD_some, Bool.or_false, Bool.or_true, Nat.reduceAdd, ↓opt_def, AV.isAny, AV.cells, ldc, St.set_same, Int.natCast_nonneg, lt_len, Int.toNat_natCast, true_and, and_true, eq_self, decide_true, hil, mts_len, hgx, AV.fits, AV.one, List.all_cons, List.all_nil, Nat.reduceBEq, Bool.not_false, Bool.and_self, Nat.zero_add, splice, List.take, List.drop, Nat.reduceLeDiff, St.set_set]
  refine h0 _ _ ?_
  try clear h0 K_h0
  have hA1 : AccG σ ((t.up 4).set (t.next + 2) (.obj (mtC x))) 6 (mtsAV out) (.sl (mtsAV out) v) G := hA.box (n := 4) (i := 2) (by omega) _
  have hb : ((t.up 4).set (t.next + 2) (.obj (mtC x))).res (t.next + 2) = some (.obj (mtC x)) := St.set_same _ _ _
  generalize ((t.up 4).set (t.next + 2) (.obj (mtC x))) = u at hA1 hb ⊢
  generalize t.next + 2 = b at hb ⊢
  clear hA
  have ws : IntKind.i64.wrap (now - ret) = now - ret := wrap64 (by omega) (by omega)
  refine T.seq_k (fun K_h4 h4 => ?_)
  by_cases hle : x.en ≤ now - ret
  case neg =>
    have f1 : decide (x.en ≤ now - ret) = false := decide_eq_false hle
    refine T.regi hm ?_
    simp only [↓reduceIte, namesOf, List.any, I.names, aopsI, astep, ev, setd, List.set, List.getD, List.getElem?_cons_zero, List.getElem?_cons_succ, List.cons_append, List.nil_append, List.replicate, then_normal, Option.getD_some, Bool.or_false, Bool.false_eq_true, up_zero, binv, ↓opt_def, ldc, eq_self, hb, Nat.zero_add, ws, f1]
    refine h4 _ _ ?_
    try clear h4 K_h4
    refine T.cond rfl (fun h => by cases h) (fun _ => T.skip ?_)
    try simp only [List.cons_append, List.nil_append, List.replicate, then_normal, inBlock_normal, inBlock_normal]
    refine h3 _ _ ?_
    try clear h3 K_h3
    refine T.regi hm ?_
    simp only [↓reduceIte, namesOf, List.any, I.names, aopsI, astep, ev, setd, List.set, List.getD, List.getElem?_cons_zero, List.getElem?_cons_succ, List.cons_append, List.nil_append, List.replicate, then_normal, Option.getD_some, Bool.or_false, Bool.false_eq_true, up_zero, binv, ↓opt_def, eq_self, hw]
    exact ⟨hil, _, _, Gh.keep [1, 2, 8, 26, 27, 28], v, G, by rw [hts, if_neg hle, List.append_nil]; exact hA1, by rw [hts, if_neg hle, List.append_nil]; rfl⟩
  have f1 : decide (x.en ≤ now - ret) = true := decide_eq_true hle
  rw [if_pos hle] at hts
  refine T.regi hm ?_
  simp only [↓reduceIte, namesOf, List.any, I.names, aopsI, astep, ev, setd, List.set, List.getD, List.getElem?_cons_zero, List.getElem?_cons_succ, List.cons_append, List.nil_append, List.replicate, then_normal, Option.getD_some, Bool.or_false, Bool.false_eq_true, up_zero, binv, ↓opt_def, ldc, eq_self, hb, Nat.zero_add, ws, f1]
  refine h4 _ _ ?_
  try clear h4 K_h4
  refine T.cond rfl (fun _ => ?_) (fun h => by cases h)
  have hend : ∀ t' g', AccG σ t' 6 (mtsAV (out ++ [x])) (.sl (mtsAV (out ++ [x])) (.tip g')) (some g') → ∀ ρ', keep [1, 2, 8, 26, 27, 28] 0 ρ' = [.any, .int .i64 now, .int .i64 ret, .any, .any, .any, .any, .any, .sl (mtsAV (out ++ [x])) (.tip g')] ++ List.replicate 17 .any ++ [.sl (mtsAV l) g, .int .i64 (l.length : Int), .int .i64 (i : Int)] ++ List.replicate 15 .any → K_h3 ρ' t' := by
    intro t' g' hA' ρ' hk
    refine h3 _ _ ?_
    refine T.gh (Gh.keep [1, 2, 8, 26, 27, 28]) ?_
    rw [hk]
    refine T.regi hm ?_
    simp only [↓reduceIte, namesOf, List.any, I.names, aopsI, astep, ev, setd, List.set, List.getD, List.getElem?_cons_zero, List.getElem?_cons_succ, List.cons_append, List.nil_append, List.replicate, then_normal, Option.getD_some, Bool.or_false, Bool.false_eq_true, up_zero, binv, ↓opt_def, eq_self, hw]
    exact ⟨hil, _, _, Gh.keep [1, 2, 8, 26, 27, 28], .tip g', some g', by rw [hts]; exact hA', by rw [hts]; rfl⟩
  have happ : mtsAV out ++ [.agg [.int .u64 (x.id : Int), .int .i64 x.level, .int .i64 x.st, .int .i64 x.en, .int .i64 x.pages, .int .i64 x.traces]] = mtsAV (out ++ [x]) := by simp [mtsAV]
  have hbu : ∀ k, (u.up k).res b = some (.obj (mtC x)) := fun _ => hb
  have hb2 : (out.length + 1) * 48 ≤ 70368744177664 := by omega
  have hb3 : out.length + 1 ≤ 4611686018427387904 := by omega
  cases G with
  | none =>
    obtain ⟨hx1, hx2, hLi⟩ := hA1
    obtain rfl : out = [] := by cases out with
      | nil => rfl
      | cons a r => simp [mtsAV] at hx2
    obtain rfl : v = .nil := by cases hx1; rfl
    have hm0 : mtsAV ([] : List Mt) = [] := rfl
    refine T.regi hm ?_
    simp only [↓reduceIte, namesOf, List.any, I.names, aopsI, astep, ev, setd, List.set, List.getD, List.getElem?_cons_zero, List.getElem?_cons_succ, List.cons_append, List.nil_append, List.length_cons, List.length_nil, List.replicate, then_normal, inBlock_normal, Option.getD_some, Bool.or_false, Bool.or_true, Bool.false_eq_true, Nat.reduceAdd, ↓opt_def, AV.isAny, AV.cells, ldc, List.map_cons, List.map_nil, eq_self, decide_true, hm0, hbu, held, srcOf, AV.er, AV.er1, AV.fits, AV.one, List.all_cons, List.all_nil, Nat.reduceBEq, Bool.not_false, Bool.and_self, Nat.zero_add, List.take, List.drop, Nat.reduceLeDiff, Nat.one_mul, and_self, List.isEmpty]
    try simp only [↓reduceIte, namesOf, List.any, I.names, aops, aopsI, aopsT, qstep, CPt, qget, Tbl.get, astep, ev, setd, List.set, List.getD, List.getElem?_cons_zero, List.getElem?_cons_succ, List.getElem?_nil, List.cons_append, List.nil_append, List.length_cons, List.length_nil, List.replicate, then_normal, inBlock_normal, Option.getD_some, Option.getD_none, Bool.or_false, Bool.or_true, Bool.true_or, Bool.false_or, Bool.false_eq_true, if_false, if_true, up_zero, Nat.reduceAdd, Nat.reduceSub, binv, ↓opt_def, AV.isAny, AV.cells, ldc, List.map_cons, List.map_nil, St.set_next, St.set_same, St.up_next, Int.natCast_nonneg, lt_len, le_len, Int.toNat_natCast, true_and, and_true, eq_self, reduceCtorEq, decide_true, List.length_singleton, er_int, er_bool, er_str, srcR, inBlock_normal]
    exact hend _ (u.next + 3) (.of_tip ⟨hLi.box (n := 5) (i := 3) _, St.set_same _ _ _, by have := hLi.next; omega, by simp⟩) _ rfl
  | some g0 =>
    obtain ⟨hx1, hTq⟩ := hA1
    obtain rfl : v = .tip g0 := by cases hx1; rfl
    have hru : ∀ k, (u.up k).res g0 = some (.tip 6) := fun _ => hTq.at_
    have hfit := mts_fits (out ++ [x])
    refine T.regi hm ?_
    simp only [↓reduceIte, namesOf, List.any, I.names, aopsI, astep, ev, setd, List.set, List.getD, List.getElem?_cons_zero, List.getElem?_cons_succ, List.cons_append, List.nil_append, List.length_cons, List.length_nil, List.replicate, then_normal, inBlock_normal, Option.getD_some, Bool.or_false, Bool.or_true, Nat.reduceAdd, ↓opt_def, AV.isAny, AV.cells, ldc, List.map_cons, List.map_nil, eq_self, decide_true, hbu, mts_len, held, srcOf, AV.er, AV.er1, hru, happ, hfit, hb2, hb3, AV.fits, AV.one, List.all_cons, List.all_nil, Nat.reduceBEq, Bool.not_false, Bool.and_self, Nat.zero_add, List.take, List.drop, Nat.reduceLeDiff, and_self]
    try simp only [↓reduceIte, namesOf, List.any, I.names, aops, aopsI, aopsT, qstep, CPt, qget, Tbl.get, astep, ev, setd, List.set, List.getD, List.getElem?_cons_zero, List.getElem?_cons_succ, List.getElem?_nil, List.cons_append, List.nil_append, List.length_cons, List.length_nil, List.replicate, then_normal, inBlock_normal, Option.getD_some, Option.getD_none, Bool.or_false, Bool.or_true, Bool.true_or, Bool.false_or, Bool.false_eq_true, if_false, if_true, up_zero, Nat.reduceAdd, Nat.reduceSub, binv, ↓opt_def, AV.isAny, AV.cells, ldc, List.map_cons, List.map_nil, St.set_next, St.set_same, St.up_next, Int.natCast_nonneg, lt_len, le_len, Int.toNat_natCast, true_and, and_true, eq_self, reduceCtorEq, decide_true, List.length_singleton, er_int, er_bool, er_str, srcR, inBlock_normal]
    exact hend _ (u.next + 3) (.of_tip ⟨((hTq.like.up 5).del hTq.lo).set _ (by have := hTq.like.next; omega), St.set_same _ _ _, by have := hTq.like.next; omega, by simp⟩) _ rfl

theorem exMark1_ok {m : Mt} {σ : St} : ACalls Tryd.prog n_exMark1 [.agg [.int .u64 (m.id : Int), .int .i64 m.level, .int .i64 m.st, .int .i64 m.en, .int .i64 m.pages, .int .i64 m.traces]] σ (fun v σ' => v = .bool (!decide (mayM m)) ∧ σ' = σ) := by
  refine s_exMark1 (fun wf => ?_)
  unfold c_exMark1
  refine T.seq_k (fun K_h0 h0 => ?_)
  refine T.regi hm ?_
  simp only [↓reduceIte, namesOf, List.any, I.names, aopsI, astep, ev, setd, List.set, List.getD, List.getElem?_cons_zero, List.cons_append, List.nil_append, List.length_cons, List.length_nil, List.replicate, then_normal, Option.getD_some, Bool.or_false, Bool.false_eq_true, Nat.reduceAdd, Nat.reduceSub, AV.isAny, AV.cells, eq_self]
  refine h0 _ _ ?_
  try clear h0 K_h0
  have hb : ((σ.up 2).set (σ.next + 0) (.obj (mtC m))).res (σ.next + 0) = some (.obj (mtC m)) := St.set_same _ _ _
  have hL : Like σ ((σ.up 2).set (σ.next + 0) (.obj (mtC m))) := (Like.refl σ).box (n := 2) (i := 0) _
  generalize ((σ.up 2).set (σ.next + 0) (.obj (mtC m))) = t at hb hL ⊢
  generalize σ.next + 0 = b at hb ⊢
  refine T.seq_k (fun K_h1 h1 => ?_)
  refine T.regi hm ?_
  simp only [↓reduceIte, namesOf, List.any, I.names, aopsI, astep, ev, setd, List.set, List.getD, List.getElem?_cons_zero, List.getElem?_cons_succ, List.length_cons, List.length_nil, then_normal, Option.getD_some, Bool.or_false, Bool.false_eq_true, up_zero, Nat.reduceAdd, ↓opt_def, ldc, List.map_cons, List.map_nil, hb, Nat.zero_add, Nat.zero_add, List.take, List.drop, Nat.reduceLeDiff]
  refine mMay_ok.mono ?_
  rintro v σ1 ⟨rfl, rfl⟩
  try simp only []
  refine h1 _ _ ?_
  try clear h1 K_h1
  exact T.ret (Fin.quiet rfl trivial (hL.quiet wf) ⟨rfl, rfl⟩)

set_option maxRecDepth 10000 in
theorem midxF_ok {l : List Mt} {g : Ver} {σ : St} (hl : l.length ≤ 1000000) : ACalls Tryd.prog n_midxF [.sl (mtsAV l) g, .func n_exMark1 [] []] σ
    (fun v σ' => (∃ r : Int, v = .int .i64 r ∧ decide (r ≥ 0) = !decide (∀ m ∈ l, mayM m)) ∧ σ' = σ) := by
  refine s_midxF (fun wf => ?_)
  unfold c_midxF
  refine T.seq_k (fun K_h0 h0 => ?_)
  refine T.regi hm ?_
  simp only [↓reduceIte, namesOf, List.any, I.names, aopsI, astep, ev, setd, List.set, List.cons_append, List.nil_append, List.length_cons, List.length_nil, List.replicate, then_normal, Bool.or_false, Bool.false_eq_true, up_zero, Nat.reduceAdd, Nat.reduceSub]
  refine h0 _ _ ?_
  try clear h0 K_h0
  refine T.seq_k (fun K_h1 h1 => ?_)
  refine T.seq_k (fun K_h0 h0 => ?_)
  refine T.regi hm ?_
  simp only [↓reduceIte, namesOf, List.any, I.names, aopsI, astep, ev, setd, List.set, List.getD, List.getElem?_cons_zero, List.getElem?_cons_succ, then_normal, Option.getD_some, Bool.or_false, Bool.false_eq_true, up_zero, mts_len]
  refine h0 _ _ ?_
  try clear h0 K_h0
  refine T.block ?_
  refine T.gh (Gh.keep [0, 1, 7, 8]) ?_
  refine T.loopi (fun i ρ t => t = σ ∧ (∀ m ∈ l.take i, mayM m) ∧ ρ = [.sl (mtsAV l) g, .func n_exMark1 [] [], .any, .any, .any, .any, .any, .int .i64 (l.length : Int), .int .i64 (i : Int)] ++ List.replicate 10 .any)
    l.length 0 (Nat.zero_le _) ⟨rfl, by simp, rfl⟩ ?_
  rintro i ρ t hi ⟨rfl, hpre, rfl⟩
  refine T.seq_k (fun K_h0 h0 => ?_)
  refine T.regi hm ?_
  simp only [↓reduceIte, namesOf, List.any, I.names, aopsI, astep, ev, setd, List.set, List.getD, List.getElem?_cons_zero, List.getElem?_cons_succ, List.cons_append, List.nil_append, List.replicate, then_normal, Option.getD_some, Bool.or_false, Bool.false_eq_true, up_zero, binv, ↓opt_def, lt_len, eq_self]
  refine h0 _ _ ?_
  try clear h0 K_h0
  refine T.seq_k (fun K_h2 h2 => ?_)
  by_cases hil : i < l.length
  case neg =>
    refine T.cond (b := false) (by simp [ev]; omega) (fun h => by cases h) (fun _ => T.exit ?_)
    have hie : i = l.length := by omega
    subst hie
    rw [List.take_length] at hpre
    try simp only [List.cons_append, List.nil_append, List.replicate, then_normal, inBlock_exit, then_exit]
    refine h1 _ _ ?_
    try clear h1 K_h1
    refine T.seq_k (fun K_h0 h0 => ?_)
    refine T.regi hm ?_
    simp only [↓reduceIte, namesOf, List.any, I.names, aopsI, astep, ev, setd, List.set, then_normal, Bool.or_false, Bool.false_eq_true, up_zero]
    refine h0 _ _ ?_
    try clear h0 K_h0
    exact T.ret (Fin.ret rfl ⟨⟨-1, rfl, by rw [decide_eq_true hpre]; rfl⟩, rfl⟩)
  refine T.cond (b := true) (by simp [ev]; omega) (fun _ => T.skip ?_) (fun h => by cases h)
  refine h2 _ _ ?_
  try clear h2 K_h2
  obtain ⟨x, hx⟩ : ∃ x, l[i]? = some x := ⟨_, List.getElem?_eq_getElem hil⟩
  have hgx := mts_get hx
  have hw := inc64' hil (by omega)
  refine T.seq_k (fun K_h3 h3 => ?_)
  refine T.block ?_
  refine T.seq_k (fun K_h0 h0 => ?_)
  refine T.regi hm ?_
  simp only [↓reduceIte, namesOf, List.any, I.names, aopsI, astep, ev, setd, List.set, List.getD, List.getElem?_cons_zero, List.getElem?_cons_succ, List.cons_append, List.nil_append, List.replicate, then_normal, Option.getD_some, Bool.or_false, Bool.false_eq_true, up_zero]
  refine h0 _ _ ?_
  try clear h0 K_h0
  refine T.seq_k (fun K_h4 h4 => ?_)
  refine T.regi hm ?_
  simp only [↓reduceIte, namesOf, List.any, I.names, aopsI, astep, ev, setd, List.set, List.getD, List.getElem?_cons_zero, List.getElem?_cons_succ, List.cons_append, List.nil_append, List.length_cons, List.length_nil, List.replicate, then_normal, Option.getD_some, Bool.or_false, Bool.false_eq_true, up_zero, Nat.reduceAdd, ↓opt_def, AV.cells, ldc, List.map_cons, List.map_nil, Int.natCast_nonneg, lt_len, Int.toNat_natCast, true_and, and_true, eq_self, decide_true, hil, mts_len, hgx, Nat.zero_add, List.take, List.drop, Nat.reduceLeDiff]
  refine exMark1_ok.mono ?_
  rintro v σ1 ⟨rfl, rfl⟩
  try simp only [↓reduceIte, namesOf, List.any, I.names, aops, aopsI, aopsT, qstep, CPt, qget, Tbl.get, astep, ev, setd, List.set, List.getD, List.getElem?_cons_zero, List.getElem?_cons_succ, List.getElem?_nil, List.cons_append, List.nil_append, List.length_cons, List.length_nil, List.replicate, then_normal, inBlock_normal, Option.getD_some, Option.getD_none, Bool.or_false, Bool.or_true, Bool.true_or, Bool.false_or, Bool.false_eq_true, if_false, if_true, up_zero, Nat.reduceAdd, Nat.reduceSub, binv, ↓opt_def, AV.isAny, AV.cells, ldc, List.map_cons, List.map_nil, St.set_next, St.set_same, St.up_next, Int.natCast_nonneg, lt_len, le_len, Int.toNat_natCast, true_and, and_true, eq_self, reduceCtorEq, decide_true, List.length_singleton, er_int, er_bool, er_str, srcR, up_zero]
  refine h4 _ _ ?_
  try clear h4 K_h4
  by_cases hmx : mayM x
  · have e1 : (!decide (mayM x)) = false := by rw [decide_eq_true hmx]; rfl
    rw [e1]
    refine T.cond rfl (fun h => by cases h) (fun _ => T.skip ?_)
    try simp only [List.cons_append, List.nil_append, List.replicate, then_normal, inBlock_normal, inBlock_normal]
    refine h3 _ _ ?_
    try clear h3 K_h3
    refine T.regi hm ?_
    simp only [↓reduceIte, namesOf, List.any, I.names, aopsI, astep, ev, setd, List.set, List.getD, List.getElem?_cons_zero, List.getElem?_cons_succ, List.cons_append, List.nil_append, List.replicate, then_normal, Option.getD_some, Bool.or_false, Bool.false_eq_true, up_zero, binv, ↓opt_def, eq_self, hw]
    refine ⟨hil, _, _, Gh.keep [0, 1, 7, 8], rfl, fun m hmm => ?_, rfl⟩
    rw [List.take_succ_eq_append_getElem hil, List.mem_append] at hmm
    rcases hmm with h | h
    · exact hpre m h
    · rw [List.mem_singleton] at h
      rw [List.getElem?_eq_getElem hil] at hx
      cases hx
      subst h; exact hmx
  · have e1 : (!decide (mayM x)) = true := by rw [decide_eq_false hmx]; rfl
    rw [e1]
    refine T.cond rfl (fun _ => ?_) (fun h => by cases h)
    refine T.seq_k (fun K_h0 h0 => ?_)
    refine T.regi hm ?_
    simp only [↓reduceIte, namesOf, List.any, I.names, aopsI, astep, ev, setd, List.set, List.getD, List.getElem?_cons_zero, List.getElem?_cons_succ, List.cons_append, List.nil_append, List.replicate, then_normal, Option.getD_some, Bool.or_false, Bool.false_eq_true, up_zero]
    refine h0 _ _ ?_
    try clear h0 K_h0
    have hno : ¬ ∀ m ∈ l, mayM m := fun h => hmx (h x (List.mem_of_getElem? hx))
    exact T.ret (Fin.ret rfl ⟨⟨(i : Int), rfl, by rw [decide_eq_false hno]; simp⟩, rfl⟩)

theorem mcontF_ok {l : List Mt} {g : Ver} {σ : St} (hl : l.length ≤ 1000000) : ACalls Tryd.prog n_mcontF [.sl (mtsAV l) g, .func n_exMark1 [] []] σ
    (fun v σ' => v = .bool (!decide (∀ m ∈ l, mayM m)) ∧ σ' = σ) := by
  refine s_mcontF (fun wf => ?_)
  unfold c_mcontF
  refine T.seq_k (fun K_h0 h0 => ?_)
  refine T.regi hm ?_
  simp only [↓reduceIte, namesOf, List.any, I.names, aopsI, astep, ev, setd, List.set, List.cons_append, List.nil_append, List.length_cons, List.length_nil, List.replicate, then_normal, Bool.or_false, Bool.false_eq_true, up_zero, Nat.reduceAdd, Nat.reduceSub]
  refine h0 _ _ ?_
  try clear h0 K_h0
  refine T.seq_k (fun K_h1 h1 => ?_)
  refine T.regi hm ?_
  simp only [↓reduceIte, namesOf, List.any, I.names, aopsI, astep, ev, setd, List.set, List.getD, List.getElem?_cons_zero, List.getElem?_cons_succ, then_normal, Option.getD_some, Bool.or_false, Bool.false_eq_true, up_zero, binv, ↓opt_def, List.map_cons, List.map_nil]
  refine (midxF_ok hl).mono ?_
  rintro v σ1 ⟨⟨r, rfl, hr⟩, rfl⟩
  try simp only [↓reduceIte, eq_self, hr]
  refine h1 _ _ ?_
  try clear h1 K_h1
  exact T.ret (Fin.ret rfl ⟨rfl, rfl⟩)

end Go.VL

namespace Go.VL

open Go.Proofs

abbrev n_rMay : Nat := 12

def c_rMay : C := (.seq (.reg [⟨(some 1), (.box (.t 0)), none⟩, ⟨(some 2), (.mv (.c (.bool false))), none⟩]) (.seq (.reg [⟨(some 3), (.faddr 0 (.t 1)), none⟩, ⟨(some 4), (.load none (.t 3)), none⟩, ⟨(some 5), (.bin .gtr .u64 (.t 4) (.c (.int .u64 0))), none⟩, ⟨(some 6), (.mv (.t 5)), none⟩, ⟨(some 7), (.faddr 1 (.t 1)), (some (6, true))⟩, ⟨(some 8), (.load none (.t 7)), (some (6, true))⟩, ⟨(some 9), (.bin .geq .i64 (.t 8) (.c (.int .i64 0))), (some (6, true))⟩, ⟨(some 10), (.pick (.t 6) (.t 9) (.c (.bool false))), none⟩, ⟨(some 11), (.mv (.t 10)), none⟩, ⟨(some 12), (.faddr 1 (.t 1)), (some (11, true))⟩, ⟨(some 13), (.load none (.t 12)), (some (11, true))⟩, ⟨(some 14), (.bin .leq .i64 (.t 13) (.c (.int .i64 10))), (some (11, true))⟩, ⟨(some 15), (.pick (.t 11) (.t 14) (.c (.bool false))), none⟩, ⟨(some 16), (.mv (.t 15)), none⟩, ⟨(some 17), (.faddr 2 (.t 1)), (some (16, true))⟩, ⟨(some 18), (.load none (.t 17)), (some (16, true))⟩, ⟨(some 19), (.bin .geq .i64 (.t 18) (.c (.int .i64 0))), (some (16, true))⟩, ⟨(some 20), (.pick (.t 16) (.t 19) (.c (.bool false))), none⟩, ⟨(some 21), (.mv (.t 20)), none⟩, ⟨(some 22), (.faddr 2 (.t 1)), (some (21, true))⟩, ⟨(some 23), (.load none (.t 22)), (some (21, true))⟩, ⟨(some 24), (.faddr 3 (.t 1)), (some (21, true))⟩, ⟨(some 25), (.load none (.t 24)), (some (21, true))⟩, ⟨(some 26), (.bin .leq .i64 (.t 23) (.t 25)), (some (21, true))⟩, ⟨(some 27), (.pick (.t 21) (.t 26) (.c (.bool false))), none⟩, ⟨(some 28), (.mv (.t 27)), none⟩, ⟨(some 29), (.faddr 3 (.t 1)), (some (28, true))⟩, ⟨(some 30), (.load none (.t 29)), (some (28, true))⟩, ⟨(some 31), (.bin .leq .i64 (.t 30) (.c (.int .i64 1099511627776))), (some (28, true))⟩, ⟨(some 32), (.pick (.t 28) (.t 31) (.c (.bool false))), none⟩, ⟨(some 33), (.mv (.t 32)), none⟩, ⟨(some 34), (.faddr 4 (.t 1)), (some (33, true))⟩, ⟨(some 35), (.load none (.t 34)), (some (33, true))⟩, ⟨(some 36), (.bin .geq .i64 (.t 35) (.c (.int .i64 1))), (some (33, true))⟩, ⟨(some 37), (.pick (.t 33) (.t 36) (.c (.bool false))), none⟩, ⟨(some 38), (.mv (.t 37)), none⟩, ⟨(some 39), (.faddr 4 (.t 1)), (some (38, true))⟩, ⟨(some 40), (.load none (.t 39)), (some (38, true))⟩, ⟨(some 41), (.bin .leq .i64 (.t 40) (.c (.int .i64 200))), (some (38, true))⟩, ⟨(some 42), (.pick (.t 38) (.t 41) (.c (.bool false))), none⟩, ⟨(some 43), (.mv (.t 42)), none⟩, ⟨(some 44), (.faddr 5 (.t 1)), (some (43, true))⟩, ⟨(some 45), (.load none (.t 44)), (some (43, true))⟩, ⟨(some 46), (.faddr 4 (.t 1)), (some (43, true))⟩, ⟨(some 47), (.load none (.t 46)), (some (43, true))⟩, ⟨(some 48), (.bin .geq .i64 (.t 45) (.t 47)), (some (43, true))⟩, ⟨(some 49), (.pick (.t 43) (.t 48) (.c (.bool false))), none⟩, ⟨(some 50), (.mv (.t 49)), none⟩, ⟨(some 51), (.faddr 5 (.t 1)), (some (50, true))⟩, ⟨(some 52), (.load none (.t 51)), (some (50, true))⟩, ⟨(some 53), (.faddr 4 (.t 1)), (some (50, true))⟩, ⟨(some 54), (.load none (.t 53)), (some (50, true))⟩, ⟨(some 55), (.bin .mul .i64 (.c (.int .i64 64)) (.t 54)), (some (50, true))⟩, ⟨(some 56), (.bin .leq .i64 (.t 52) (.t 55)), (some (50, true))⟩, ⟨(some 57), (.pick (.t 50) (.t 56) (.c (.bool false))), none⟩, ⟨(some 2), (.mv (.t 57)), none⟩]) .ret))

set_option maxRecDepth 100000 in
theorem k_rMay : compileC Tryd.prog ann (Tryd.f12.body.getD .skip) = some c_rMay := by kernel_rfl

theorem s_rMay {args : List AV} {σ : St} {K : AV → St → Prop} (h : WF σ → T Tryd.prog ann c_rMay (Fin σ [(.t 2)] K) (args ++ List.replicate (58 - args.length) (.tup [])) σ) : ACalls Tryd.prog n_rMay args σ K :=
  calls_ok Tryd.func12 (by kernel_rfl) (by kernel_rfl) k_rMay (by kernel_rfl) (by kernel_rfl) h

abbrev ann_rBare : Ann := { errs := [(40, .i64)], make := [(1, 2, 1)], chk := [(1, 4)] }

abbrev n_rBare : Nat := 31

def c_rBare : C := (.seq (.reg [⟨(some 1), (.box (.t 0)), none⟩, ⟨(some 2), (.mv (.c (.sl [] .nil))), none⟩]) (.seq (.reg [⟨(some 4), (.faddr 0 (.t 1)), none⟩, ⟨(some 5), (.load none (.t 4)), none⟩, ⟨(some 6), (.mcall 1 49 [(.c (.int .i64 8)), (.t 5)]), none⟩, ⟨(some 7), (.faddr 1 (.t 1)), none⟩, ⟨(some 8), (.qload 4 none (.t 7)), none⟩, ⟨(some 9), (.conv .u64 (.t 8)), none⟩, ⟨(some 10), (.qcall 49 [(.c (.int .i64 8)), (.t 9)]), none⟩, ⟨(some 11), (.app 1 1 .tip (.t 6) (.t 10)), none⟩, ⟨(some 3), (.mv (.t 11)), none⟩]) (.seq (.reg [⟨(some 12), (.mv (.t 3)), none⟩, ⟨(some 13), (.faddr 2 (.t 1)), none⟩, ⟨(some 14), (.load none (.t 13)), none⟩, ⟨(some 15), (.call 49 [(.c (.int .i64 8)), (.t 14)]), none⟩, ⟨(some 16), (.app 1 1 .tip (.t 12) (.t 15)), none⟩, ⟨(some 2), (.mv (.t 16)), none⟩]) .ret)))

set_option maxRecDepth 100000 in
theorem k_rBare : compileC Tryd.prog ann_rBare (Tryd.f31.body.getD .skip) = some c_rBare := by kernel_rfl

theorem s_rBare {args : List AV} {σ : St} {K : AV → St → Prop} (h : WF σ → T Tryd.prog ann_rBare c_rBare (Fin σ [(.t 2)] K) (args ++ List.replicate (17 - args.length) (.tup [])) σ) : ACalls Tryd.prog n_rBare args σ K :=
  calls_ok Tryd.func31 (by kernel_rfl) (by kernel_rfl) k_rBare (by kernel_rfl) (by kernel_rfl) h

end Go.VL

namespace Go.VL

open Go.Proofs

abbrev n_rOut19 : Nat := 37

def c_rOut19 : C := (.seq (.reg [⟨(some 6), (.mv (.c (.sl [] .nil))), none⟩]) (.seq (.reg [⟨(some 7), (.mv (.c (.sl [] .nil))), none⟩]) (.seq (.seq (.reg [⟨(some 8), (.mv (.c (.int .i64 0))), none⟩]) (.block 0 (.loop (.seq (.seq (.reg [⟨(some 9), (.mv (.t 8)), none⟩, ⟨(some 10), (.mv (.t 0)), none⟩, ⟨(some 11), (.len (.t 10)), none⟩, ⟨(some 12), (.bin .lss .i64 (.t 9) (.t 11)), none⟩]) (.cond (.t 12) .skip (.exit 0))) (.seq (.block 1 (.seq (.reg [⟨(some 15), (.mv (.t 0)), none⟩, ⟨(some 16), (.mv (.t 8)), none⟩, ⟨(some 17), (.iaddr 6 (.t 15) (.t 16)), none⟩, ⟨(some 18), (.faddr 3 (.t 17)), none⟩, ⟨(some 19), (.load none (.t 18)), none⟩, ⟨(some 20), (.mv (.t 1)), none⟩, ⟨(some 21), (.mv (.t 2)), none⟩, ⟨(some 22), (.bin .sub .i64 (.t 20) (.t 21)), none⟩, ⟨(some 23), (.bin .leq .i64 (.t 19) (.t 22)), none⟩]) (.cond (.t 23) (.reg [⟨(some 24), (.mv (.t 7)), none⟩, ⟨(some 25), (.mv (.t 0)), none⟩, ⟨(some 26), (.mv (.t 8)), none⟩, ⟨(some 27), (.iaddr 6 (.t 25) (.t 26)), none⟩, ⟨(some 28), (.load (some 6) (.t 27)), none⟩, ⟨(some 29), (.bslice 6 .val [(.t 28)]), none⟩, ⟨(some 30), (.app 6 48 .tip (.t 24) (.t 29)), none⟩, ⟨(some 7), (.mv (.t 30)), none⟩]) .skip))) (.reg [⟨(some 13), (.mv (.t 8)), none⟩, ⟨(some 14), (.bin .add .i64 (.t 13) (.c (.int .i64 1))), none⟩, ⟨(some 8), (.mv (.t 14)), none⟩])))))) (.seq (.reg [⟨(some 31), (.mv (.t 7)), none⟩, ⟨(some 6), (.mv (.t 31)), none⟩]) .ret))))

set_option maxRecDepth 100000 in
theorem k_rOut19 : compileC Tryd.prog ann (Tryd.f37.body.getD .skip) = some c_rOut19 := by kernel_rfl

theorem s_rOut19 {args : List AV} {σ : St} {K : AV → St → Prop} (h : WF σ → T Tryd.prog ann c_rOut19 (Fin σ [(.t 6)] K) (args ++ List.replicate (32 - args.length) (.tup [])) σ) : ACalls Tryd.prog n_rOut19 args σ K :=
  calls_ok Tryd.func37 (by kernel_rfl) (by kernel_rfl) k_rOut19 (by kernel_rfl) (by kernel_rfl) h

abbrev ann_rExp19 : Ann := { errs := [(40, .i64)], full := [(8, 8)] }

abbrev n_rExp19 : Nat := 13

def c_rExp19 : C := (.seq (.reg [⟨(some 8), (.mv (.c (.int .i64 0))), none⟩, ⟨(some 9), (.mv (.c (.int .i64 0))), none⟩]) (.seq (.seq (.reg [⟨(some 14), (.mv (.t 2)), none⟩, ⟨(some 15), (.bin .lss .i64 (.t 14) (.c (.int .i64 0))), none⟩, ⟨(some 16), (.mv (.t 15)), none⟩, ⟨(some 17), (.mv (.t 2)), (some (16, false))⟩, ⟨(some 18), (.bin .gtr .i64 (.t 17) (.c (.int .i64 1099511627776))), (some (16, false))⟩, ⟨(some 19), (.pick (.t 16) (.c (.bool true)) (.t 18)), none⟩, ⟨(some 20), (.mv (.t 19)), none⟩, ⟨(some 21), (.mv (.t 3)), (some (20, false))⟩, ⟨(some 22), (.bin .lss .i64 (.t 21) (.c (.int .i64 0))), (some (20, false))⟩, ⟨(some 23), (.pick (.t 20) (.c (.bool true)) (.t 22)), none⟩, ⟨(some 24), (.mv (.t 23)), none⟩, ⟨(some 25), (.mv (.t 3)), (some (24, false))⟩, ⟨(some 26), (.bin .gtr .i64 (.t 25) (.c (.int .i64 1099511627776))), (some (24, false))⟩, ⟨(some 27), (.pick (.t 24) (.c (.bool true)) (.t 26)), none⟩]) (.cond (.t 27) (.seq (.reg [⟨(some 8), (.mv (.c (.int .i64 0))), none⟩, ⟨(some 9), (.mv (.c (.int .i64 1))), none⟩]) .ret) .skip)) (.seq (.reg [⟨(some 28), (.mv (.t 1)), none⟩, ⟨(some 29), (.mv (.t 2)), none⟩, ⟨(some 30), (.mv (.t 3)), none⟩, ⟨(some 31), (.call 37 [(.t 28), (.t 29), (.t 30)]), none⟩, ⟨(some 10), (.mv (.t 31)), none⟩]) (.seq (.seq (.reg [⟨(some 11), (.mv (.c (.int .i64 0))), none⟩]) (.block 0 (.loop (.seq (.seq (.reg [⟨(some 32), (.mv (.t 11)), none⟩, ⟨(some 33), (.mv (.t 10)), none⟩, ⟨(some 34), (.len (.t 33)), none⟩, ⟨(some 35), (.bin .lss .i64 (.t 32) (.t 34)), none⟩]) (.cond (.t 35) .skip (.exit 0))) (.seq (.block 1 (.seq (.reg [⟨(some 38), (.mv (.t 10)), none⟩, ⟨(some 39), (.mv (.t 11)), none⟩, ⟨(some 40), (.iaddr 6 (.t 38) (.t 39)), none⟩, ⟨(some 41), (.faddr 0 (.t 40)), none⟩, ⟨(some 42), (.load none (.t 41)), none⟩, ⟨(some 43), (.mv (.t 2)), none⟩, ⟨(some 44), (.build [(.int .u64 0), (.int .i64 0), (.int .u64 0)] [(0, (1, (.t 42))), (1, (1, (.t 43)))]), none⟩, ⟨(some 12), (.alloc [(.int .u64 0), (.int .i64 0), (.int .u64 0)]), none⟩, ⟨none, (.store 3 (.t 12) (.t 44)), none⟩]) (.seq (.reg [⟨(some 45), (.mv (.t 0)), none⟩, ⟨(some 46), (.faddr 0 (.t 12)), none⟩, ⟨(some 47), (.load none (.t 46)), none⟩, ⟨(some 48), (.qcall 23 [(.t 47), (.c (.str ⟨#[120]⟩)), (.c (.int .i64 0))]), none⟩, ⟨(some 49), (.load (some 3) (.t 12)), none⟩, ⟨(some 50), (.qcall 31 [(.t 49)]), none⟩, ⟨(some 51), (.qcall 29 [(.t 50)]), none⟩, ⟨(some 52), (.convBS (.t 51)), none⟩, ⟨(some 53), (.call 38 [(.t 45), (.t 48), (.t 52)]), none⟩, ⟨(some 13), (.mv (.t 53)), none⟩]) (.seq (.reg [⟨(some 54), (.mv (.t 13)), none⟩, ⟨(some 55), (.bin .neq .i64 (.t 54) (.c (.int .i64 0))), none⟩]) (.cond (.t 55) (.seq (.reg [⟨(some 56), (.mv (.t 11)), none⟩, ⟨(some 57), (.mv (.t 13)), none⟩, ⟨(some 8), (.mv (.t 56)), none⟩, ⟨(some 9), (.mv (.t 57)), none⟩]) .ret) .skip))))) (.reg [⟨(some 36), (.mv (.t 11)), none⟩, ⟨(some 37), (.bin .add .i64 (.t 36) (.c (.int .i64 1))), none⟩, ⟨(some 11), (.mv (.t 37)), none⟩])))))) (.seq (.reg [⟨(some 58), (.mv (.t 10)), none⟩, ⟨(some 59), (.len (.t 58)), none⟩, ⟨(some 8), (.mv (.t 59)), none⟩, ⟨(some 9), (.mv (.c (.int .i64 0))), none⟩]) .ret)))))

set_option maxRecDepth 100000 in
theorem k_rExp19 : compileC Tryd.prog ann_rExp19 (Tryd.f13.body.getD .skip) = some c_rExp19 := by kernel_rfl

theorem s_rExp19 {args : List AV} {σ : St} {K : AV → St → Prop} (h : WF σ → T Tryd.prog ann_rExp19 c_rExp19 (Fin σ [(.t 8), (.t 9)] K) (args ++ List.replicate (60 - args.length) (.tup [])) σ) : ACalls Tryd.prog n_rExp19 args σ K :=
  calls_ok Tryd.func13 (by kernel_rfl) (by kernel_rfl) k_rExp19 (by kernel_rfl) (by kernel_rfl) h

abbrev n_expireMarks : Nat := 3

def c_expireMarks : C := (.seq (.reg [⟨(some 10), (.mv (.c (.bool false))), none⟩]) (.seq (.reg [⟨(some 24), (.call 7 []), none⟩, ⟨(some 11), (.mv (.t 24)), none⟩]) (.seq (.reg [⟨(some 26), (.mv (.t 0)), none⟩, ⟨(some 27), (.call 8 [(.t 26)]), none⟩, ⟨(some 25), (.mv (.t 27)), none⟩, ⟨(some 28), (.ext (.t 25) 0), none⟩, ⟨(some 29), (.ext (.t 25) 1), none⟩, ⟨(some 12), (.mv (.t 28)), none⟩, ⟨(some 13), (.mv (.t 29)), none⟩]) (.seq (.seq (.reg [⟨(some 30), (.mv (.t 12)), none⟩, ⟨(some 31), (.eqP false (.t 30) (.c .nilp)), none⟩, ⟨(some 32), (.mv (.t 31)), none⟩, ⟨(some 33), (.mv (.t 13)), (some (32, false))⟩, ⟨(some 34), (.eqI true true [(40, .i64)] (.t 33) (.c .nili)), (some (32, false))⟩, ⟨(some 35), (.pick (.t 32) (.c (.bool true)) (.t 34)), none⟩, ⟨(some 36), (.mv (.t 35)), none⟩, ⟨(some 37), (.mv (.t 1)), (some (36, false))⟩, ⟨(some 38), (.len (.t 37)), (some (36, false))⟩, ⟨(some 39), (.bin .gtr .i64 (.t 38) (.c (.int .i64 50))), (some (36, false))⟩, ⟨(some 40), (.pick (.t 36) (.c (.bool true)) (.t 39)), none⟩]) (.cond (.t 40) (.seq (.reg [⟨(some 41), (.mv (.t 11)), none⟩, ⟨(some 42), (.mv (.t 41)), none⟩, ⟨(some 43), (.mv (.t 12)), (some (42, true))⟩, ⟨(some 44), (.eqP true (.t 43) (.c .nilp)), (some (42, true))⟩, ⟨(some 45), (.mv (.t 13)), (some (42, true))⟩, ⟨(some 46), (.eqI false true [(40, .i64)] (.t 45) (.c .nili)), (some (42, true))⟩, ⟨(some 47), (.bbin false (.t 44) (.t 46)), (some (42, true))⟩, ⟨(some 48), (.pick (.t 42) (.t 47) (.c (.bool false))), none⟩, ⟨(some 10), (.mv (.t 48)), none⟩]) .ret) .skip)) (.seq (.reg [⟨(some 49), (.mv (.t 0)), none⟩, ⟨(some 50), (.build [(.int .i64 0), (.int .i64 0), (.int .i64 0), (.sl [] .nil)] [(0, (1, (.t 49))), (1, (1, (.c (.int .i64 (-1)))))]), none⟩, ⟨(some 51), (.box (.t 50)), none⟩, ⟨(some 14), (.mv (.t 51)), none⟩]) (.seq (.reg [⟨(some 52), (.mv (.t 12)), none⟩, ⟨(some 53), (.mv (.t 4)), none⟩, ⟨(some 54), (.call 9 [(.t 52), (.t 53)]), none⟩]) (.seq (.reg [⟨(some 55), (.mv (.t 14)), none⟩, ⟨(some 56), (.mv (.t 4)), none⟩, ⟨(some 57), (.call 10 [(.t 55), (.t 56)]), none⟩]) (.seq (.reg [⟨(some 59), (.mv (.t 12)), none⟩, ⟨(some 60), (.mv (.t 1)), none⟩, ⟨(some 61), (.mv (.t 2)), none⟩, ⟨(some 62), (.mv (.t 3)), none⟩, ⟨(some 63), (.call 11 [(.t 59), (.t 60), (.t 61), (.t 62)]), none⟩, ⟨(some 58), (.mv (.t 63)), none⟩, ⟨(some 64), (.ext (.t 58) 0), none⟩, ⟨(some 65), (.ext (.t 58) 1), none⟩, ⟨(some 15), (.mv (.t 64)), none⟩, ⟨(some 16), (.mv (.t 65)), none⟩]) (.seq (.seq (.reg [⟨(some 17), (.mv (.c (.int .i64 0))), none⟩]) (.block 0 (.loop (.seq (.seq (.reg [⟨(some 66), (.mv (.t 17)), none⟩, ⟨(some 67), (.mv (.t 1)), none⟩, ⟨(some 68), (.len (.t 67)), none⟩, ⟨(some 69), (.bin .lss .i64 (.t 66) (.t 68)), none⟩]) (.cond (.t 69) .skip (.exit 0))) (.seq (.block 1 (.seq (.reg [⟨(some 72), (.mv (.t 1)), none⟩, ⟨(some 73), (.mv (.t 17)), none⟩, ⟨(some 74), (.iaddr 6 (.t 72) (.t 73)), none⟩, ⟨(some 75), (.load (some 6) (.t 74)), none⟩, ⟨(some 76), (.call 12 [(.t 75)]), none⟩, ⟨(some 18), (.mv (.t 76)), none⟩]) (.seq (.reg [⟨(some 77), (.mv (.t 18)), none⟩, ⟨(some 78), (.not (.t 77)), none⟩]) (.cond (.t 78) (.seq (.reg [⟨(some 79), (.mv (.t 11)), none⟩, ⟨(some 80), (.mv (.t 79)), none⟩, ⟨(some 81), (.mv (.t 15)), (some (80, true))⟩, ⟨(some 82), (.bin .eql .i64 (.t 81) (.c (.int .i64 0))), (some (80, true))⟩, ⟨(some 83), (.pick (.t 80) (.t 82) (.c (.bool false))), none⟩, ⟨(some 84), (.mv (.t 83)), none⟩, ⟨(some 85), (.mv (.t 16)), (some (84, true))⟩, ⟨(some 86), (.mkI 40 (.c (.int .i64 1))), (some (84, true))⟩, ⟨(some 87), (.eqI false false [(40, .i64)] (.t 85) (.t 86)), (some (84, true))⟩, ⟨(some 88), (.pick (.t 84) (.t 87) (.c (.bool false))), none⟩, ⟨(some 10), (.mv (.t 88)), none⟩]) .ret) .skip)))) (.reg [⟨(some 70), (.mv (.t 17)), none⟩, ⟨(some 71), (.bin .add .i64 (.t 70) (.c (.int .i64 1))), none⟩, ⟨(some 17), (.mv (.t 71)), none⟩])))))) (.seq (.reg [⟨(some 90), (.mv (.t 14)), none⟩, ⟨(some 91), (.mv (.t 1)), none⟩, ⟨(some 92), (.mv (.t 2)), none⟩, ⟨(some 93), (.mv (.t 3)), none⟩, ⟨(some 94), (.call 13 [(.t 90), (.t 91), (.t 92), (.t 93)]), none⟩, ⟨(some 89), (.mv (.t 94)), none⟩, ⟨(some 95), (.ext (.t 89) 0), none⟩, ⟨(some 96), (.ext (.t 89) 1), none⟩, ⟨(some 19), (.mv (.t 95)), none⟩, ⟨(some 20), (.mv (.t 96)), none⟩]) (.seq (.seq (.reg [⟨(some 97), (.mv (.t 15)), none⟩, ⟨(some 98), (.mv (.t 19)), none⟩, ⟨(some 99), (.bin .neq .i64 (.t 97) (.t 98)), none⟩, ⟨(some 100), (.mv (.t 99)), none⟩, ⟨(some 101), (.mv (.t 16)), (some (100, false))⟩, ⟨(some 102), (.qcall 14 [(.t 101)]), (some (100, false))⟩, ⟨(some 103), (.mv (.t 20)), (some (100, false))⟩, ⟨(some 104), (.bin .neq .i64 (.t 102) (.t 103)), (some (100, false))⟩, ⟨(some 105), (.pick (.t 100) (.c (.bool true)) (.t 104)), none⟩, ⟨(some 106), (.mv (.t 105)), none⟩, ⟨(some 107), (.mv (.t 12)), (some (106, false))⟩, ⟨(some 108), (.qcall 15 [(.t 107)]), (some (106, false))⟩, ⟨(some 109), (.mv (.t 14)), (some (106, false))⟩, ⟨(some 110), (.nilCheck (.t 109)), (some (106, false))⟩, ⟨(some 111), (.faddr 2 (.t 110)), (some (106, false))⟩, ⟨(some 112), (.load none (.t 111)), (some (106, false))⟩, ⟨(some 113), (.bin .neq .i64 (.t 108) (.t 112)), (some (106, false))⟩, ⟨(some 114), (.pick (.t 106) (.c (.bool true)) (.t 113)), none⟩, ⟨(some 115), (.mv (.t 114)), none⟩, ⟨(some 116), (.mv (.t 12)), (some (115, false))⟩, ⟨(some 117), (.qcall 16 [(.t 116)]), (some (115, false))⟩, ⟨(some 118), (.mv (.t 14)), (some (115, false))⟩, ⟨(some 119), (.qcall 17 [(.t 118)]), (some (115, false))⟩, ⟨(some 120), (.bin .neq .i64 (.t 117) (.t 119)), (some (115, false))⟩, ⟨(some 121), (.pick (.t 115) (.c (.bool true)) (.t 120)), none⟩]) (.cond (.t 121) (.seq (.reg [⟨(some 10), (.mv (.c (.bool false))), none⟩]) .ret) .skip)) (.seq (.reg [⟨(some 122), (.mv (.t 12)), none⟩, ⟨(some 123), (.call 9 [(.t 122), (.c (.int .i64 (-1)))]), none⟩]) (.seq (.seq (.reg [⟨(some 21), (.mv (.c (.int .i64 0))), none⟩]) (.block 2 (.loop (.seq (.seq (.reg [⟨(some 124), (.mv (.t 21)), none⟩, ⟨(some 125), (.mv (.t 14)), none⟩, ⟨(some 126), (.nilCheck (.t 125)), none⟩, ⟨(some 127), (.faddr 3 (.t 126)), none⟩, ⟨(some 128), (.load none (.t 127)), none⟩, ⟨(some 129), (.len (.t 128)), none⟩, ⟨(some 130), (.bin .lss .i64 (.t 124) (.t 129)), none⟩]) (.cond (.t 130) .skip (.exit 2))) (.seq (.block 3 (.seq (.reg [⟨(some 134), (.mv (.t 12)), none⟩, ⟨(some 135), (.mv (.t 14)), none⟩, ⟨(some 136), (.nilCheck (.t 135)), none⟩, ⟨(some 137), (.faddr 3 (.t 136)), none⟩, ⟨(some 138), (.load none (.t 137)), none⟩, ⟨(some 139), (.mv (.t 21)), none⟩, ⟨(some 140), (.iaddr 2 (.t 138) (.t 139)), none⟩, ⟨(some 141), (.faddr 0 (.t 140)), none⟩, ⟨(some 142), (.load none (.t 141)), none⟩, ⟨(some 143), (.call 18 [(.t 134), (.t 142)]), none⟩, ⟨(some 133), (.mv (.t 143)), none⟩, ⟨(some 144), (.ext (.t 133) 0), none⟩, ⟨(some 145), (.ext (.t 133) 1), none⟩, ⟨(some 22), (.mv (.t 144)), none⟩, ⟨(some 23), (.mv (.t 145)), none⟩]) (.seq (.reg [⟨(some 146), (.mv (.t 23)), none⟩, ⟨(some 147), (.eqI true true [(40, .i64)] (.t 146) (.c .nili)), none⟩, ⟨(some 148), (.mv (.t 147)), none⟩, ⟨(some 149), (.mv (.t 22)), (some (148, false))⟩, ⟨(some 150), (.convBS (.t 149)), (some (148, false))⟩, ⟨(some 151), (.mv (.t 14)), (some (148, false))⟩, ⟨(some 152), (.nilCheck (.t 151)), (some (148, false))⟩, ⟨(some 153), (.faddr 3 (.t 152)), (some (148, false))⟩, ⟨(some 154), (.load none (.t 153)), (some (148, false))⟩, ⟨(some 155), (.mv (.t 21)), (some (148, false))⟩, ⟨(some 156), (.iaddr 2 (.t 154) (.t 155)), (some (148, false))⟩, ⟨(some 157), (.faddr 1 (.t 156)), (some (148, false))⟩, ⟨(some 158), (.load none (.t 157)), (some (148, false))⟩, ⟨(some 159), (.sbin .neq (.t 150) (.t 158)), (some (148, false))⟩, ⟨(some 160), (.pick (.t 148) (.c (.bool true)) (.t 159)), none⟩]) (.cond (.t 160) (.seq (.reg [⟨(some 10), (.mv (.c (.bool false))), none⟩]) .ret) .skip)))) (.reg [⟨(some 131), (.mv (.t 21)), none⟩, ⟨(some 132), (.bin .add .i64 (.t 131) (.c (.int .i64 1))), none⟩, ⟨(some 21), (.mv (.t 132)), none⟩])))))) (.seq (.reg [⟨(some 161), (.mv (.t 11)), none⟩, ⟨(some 10), (.mv (.t 161)), none⟩]) .ret))))))))))))))

set_option maxRecDepth 100000 in
theorem k_expireMarks : compileC Tryd.prog ann (Tryd.f3.body.getD .skip) = some c_expireMarks := by kernel_rfl

theorem s_expireMarks {args : List AV} {σ : St} {K : AV → St → Prop} (h : WF σ → T Tryd.prog ann c_expireMarks (Fin σ [(.t 10)] K) (args ++ List.replicate (162 - args.length) (.tup [])) σ) : ACalls Tryd.prog n_expireMarks args σ K :=
  calls_ok Tryd.func3 (by kernel_rfl) (by kernel_rfl) k_expireMarks (by kernel_rfl) (by kernel_rfl) h

end Go.VL

namespace Go.VL

open Go.Proofs

set_option maxRecDepth 10000 in
set_option maxHeartbeats 1000000 in
theorem rMay_ok {m : Mt} {σ : St} : ACalls Tryd.prog n_rMay [.agg [.int .u64 (m.id : Int), .int .i64 m.level, .int .i64 m.st, .int .i64 m.en, .int .i64 m.pages, .int .i64 m.traces]] σ (fun v σ' => v = .bool (decide (mayM m)) ∧ σ' = σ) := by
  refine s_rMay (fun wf => ?_)
  unfold c_rMay
  refine T.seq_k (fun K_h0 h0 => ?_)
  refine T.regi hm ?_
  simp only [↓reduceIte, namesOf, List.any, I.names, aopsI, astep, ev, setd, List.set, List.getD, List.getElem?_cons_zero, List.cons_append, List.nil_append, List.length_cons, List.length_nil, List.replicate, then_normal, Option.getD_some, Bool.or_false, Bool.false_eq_true, Nat.reduceAdd, Nat.reduceSub, AV.isAny, AV.cells, eq_self]
  refine h0 _ _ ?_
  try clear h0 K_h0
  have hb : ((σ.up 2).set (σ.next + 0) (.obj [.int .u64 (m.id : Int), .int .i64 m.level, .int .i64 m.st, .int .i64 m.en, .int .i64 m.pages, .int .i64 m.traces])).res (σ.next + 0) = some (.obj [.int .u64 (m.id : Int), .int .i64 m.level, .int .i64 m.st, .int .i64 m.en, .int .i64 m.pages, .int .i64 m.traces]) := St.set_same _ _ _
  have hL : Like σ ((σ.up 2).set (σ.next + 0) (.obj [.int .u64 (m.id : Int), .int .i64 m.level, .int .i64 m.st, .int .i64 m.en, .int .i64 m.pages, .int .i64 m.traces])) := (Like.refl σ).box (n := 2) (i := 0) _
  generalize ((σ.up 2).set (σ.next + 0) (.obj [.int .u64 (m.id : Int), .int .i64 m.level, .int .i64 m.st, .int .i64 m.en, .int .i64 m.pages, .int .i64 m.traces])) = t at hb hL ⊢
  generalize σ.next + 0 = b at hb ⊢
  by_cases c1 : (m.id : Int) > 0
  case neg =>
    have f1 : decide ((m.id : Int) > 0) = false := decide_eq_false c1
    have hm0 : decide (mayM m) = false := decide_eq_false (fun h => c1 (by have := h.1; omega))
    refine T.seq_k (fun K_h0 h0 => ?_)
    refine T.regi hm ?_
    simp only [↓reduceIte, namesOf, List.any, I.names, aopsI, astep, ev, setd, List.set, List.getD, List.getElem?_cons_zero, List.getElem?_cons_succ, then_normal, Option.getD_some, Bool.or_false, Bool.false_eq_true, up_zero, binv, ↓opt_def, ldc, eq_self, hb, Nat.zero_add, f1]
    refine h0 _ _ ?_
    try clear h0 K_h0
    exact T.ret (Fin.quiet rfl trivial (hL.quiet wf) ⟨by rw [hm0]; rfl, rfl⟩)
  have f1 : decide ((m.id : Int) > 0) = true := decide_eq_true c1
  by_cases c2 : m.level ≥ 0
  case neg =>
    have f2 : decide (m.level ≥ 0) = false := decide_eq_false c2
    have hm0 : decide (mayM m) = false := decide_eq_false (fun h => c2 h.2.1)
    refine T.seq_k (fun K_h0 h0 => ?_)
    refine T.regi hm ?_
    simp only [↓reduceIte, namesOf, List.any, I.names, aopsI, astep, ev, setd, List.set, List.getD, List.getElem?_cons_zero, List.getElem?_cons_succ, then_normal, Option.getD_some, Bool.or_false, Bool.false_eq_true, up_zero, binv, ↓opt_def, ldc, eq_self, hb, Nat.zero_add, f1, f2]
    refine h0 _ _ ?_
    try clear h0 K_h0
    exact T.ret (Fin.quiet rfl trivial (hL.quiet wf) ⟨by rw [hm0]; rfl, rfl⟩)
  have f2 : decide (m.level ≥ 0) = true := decide_eq_true c2
  by_cases c3 : m.level ≤ 10
  case neg =>
    have f3 : decide (m.level ≤ 10) = false := decide_eq_false c3
    have hm0 : decide (mayM m) = false := decide_eq_false (fun h => c3 h.2.2.1)
    refine T.seq_k (fun K_h0 h0 => ?_)
    refine T.regi hm ?_
    simp only [↓reduceIte, namesOf, List.any, I.names, aopsI, astep, ev, setd, List.set, List.getD, List.getElem?_cons_zero, List.getElem?_cons_succ, then_normal, Option.getD_some, Bool.or_false, Bool.false_eq_true, up_zero, binv, ↓opt_def, ldc, eq_self, hb, Nat.zero_add, f1, f2, f3]
    refine h0 _ _ ?_
    try clear h0 K_h0
    exact T.ret (Fin.quiet rfl trivial (hL.quiet wf) ⟨by rw [hm0]; rfl, rfl⟩)
  have f3 : decide (m.level ≤ 10) = true := decide_eq_true c3
  by_cases c4 : m.st ≥ 0
  case neg =>
    have f4 : decide (m.st ≥ 0) = false := decide_eq_false c4
    have hm0 : decide (mayM m) = false := decide_eq_false (fun h => c4 h.2.2.2.1)
    refine T.seq_k (fun K_h0 h0 => ?_)
    refine T.regi hm ?_
    simp only [↓reduceIte, namesOf, List.any, I.names, aopsI, astep, ev, setd, List.set, List.getD, List.getElem?_cons_zero, List.getElem?_cons_succ, then_normal, Option.getD_some, Bool.or_false, Bool.false_eq_true, up_zero, binv, ↓opt_def, ldc, eq_self, hb, Nat.zero_add, f1, f2, f3, f4]
    refine h0 _ _ ?_
    try clear h0 K_h0
    exact T.ret (Fin.quiet rfl trivial (hL.quiet wf) ⟨by rw [hm0]; rfl, rfl⟩)
  have f4 : decide (m.st ≥ 0) = true := decide_eq_true c4
  by_cases c5 : m.st ≤ m.en
  case neg =>
    have f5 : decide (m.st ≤ m.en) = false := decide_eq_false c5
    have hm0 : decide (mayM m) = false := decide_eq_false (fun h => c5 h.2.2.2.2.1)
    refine T.seq_k (fun K_h0 h0 => ?_)
    refine T.regi hm ?_
    simp only [↓reduceIte, namesOf, List.any, I.names, aopsI, astep, ev, setd, List.set, List.getD, List.getElem?_cons_zero, List.getElem?_cons_succ, then_normal, Option.getD_some, Bool.or_false, Bool.false_eq_true, up_zero, binv, ↓opt_def, ldc, eq_self, hb, Nat.zero_add, f1, f2, f3, f4, f5]
    refine h0 _ _ ?_
    try clear h0 K_h0
    exact T.ret (Fin.quiet rfl trivial (hL.quiet wf) ⟨by rw [hm0]; rfl, rfl⟩)
  have f5 : decide (m.st ≤ m.en) = true := decide_eq_true c5
  by_cases c6 : m.en ≤ 1099511627776
  case neg =>
    have f6 : decide (m.en ≤ 1099511627776) = false := decide_eq_false c6
    have hm0 : decide (mayM m) = false := decide_eq_false (fun h => c6 h.2.2.2.2.2.1)
    refine T.seq_k (fun K_h0 h0 => ?_)
    refine T.regi hm ?_
    simp only [↓reduceIte, namesOf, List.any, I.names, aopsI, astep, ev, setd, List.set, List.getD, List.getElem?_cons_zero, List.getElem?_cons_succ, then_normal, Option.getD_some, Bool.or_false, Bool.false_eq_true, up_zero, binv, ↓opt_def, ldc, eq_self, hb, Nat.zero_add, f1, f2, f3, f4, f5, f6]
    refine h0 _ _ ?_
    try clear h0 K_h0
    exact T.ret (Fin.quiet rfl trivial (hL.quiet wf) ⟨by rw [hm0]; rfl, rfl⟩)
  have f6 : decide (m.en ≤ 1099511627776) = true := decide_eq_true c6
  by_cases c7 : m.pages ≥ 1
  case neg =>
    have f7 : decide (m.pages ≥ 1) = false := decide_eq_false c7
    have hm0 : decide (mayM m) = false := decide_eq_false (fun h => c7 h.2.2.2.2.2.2.1)
    refine T.seq_k (fun K_h0 h0 => ?_)
    refine T.regi hm ?_
    simp only [↓reduceIte, namesOf, List.any, I.names, aopsI, astep, ev, setd, List.set, List.getD, List.getElem?_cons_zero, List.getElem?_cons_succ, then_normal, Option.getD_some, Bool.or_false, Bool.false_eq_true, up_zero, binv, ↓opt_def, ldc, eq_self, hb, Nat.zero_add, f1, f2, f3, f4, f5, f6, f7]
    refine h0 _ _ ?_
    try clear h0 K_h0
    exact T.ret (Fin.quiet rfl trivial (hL.quiet wf) ⟨by rw [hm0]; rfl, rfl⟩)
  have f7 : decide (m.pages ≥ 1) = true := decide_eq_true c7
  by_cases c8 : m.pages ≤ 200
  case neg =>
    have f8 : decide (m.pages ≤ 200) = false := decide_eq_false c8
    have hm0 : decide (mayM m) = false := decide_eq_false (fun h => c8 h.2.2.2.2.2.2.2.1)
    refine T.seq_k (fun K_h0 h0 => ?_)
    refine T.regi hm ?_
    simp only [↓reduceIte, namesOf, List.any, I.names, aopsI, astep, ev, setd, List.set, List.getD, List.getElem?_cons_zero, List.getElem?_cons_succ, then_normal, Option.getD_some, Bool.or_false, Bool.false_eq_true, up_zero, binv, ↓opt_def, ldc, eq_self, hb, Nat.zero_add, f1, f2, f3, f4, f5, f6, f7, f8]
    refine h0 _ _ ?_
    try clear h0 K_h0
    exact T.ret (Fin.quiet rfl trivial (hL.quiet wf) ⟨by rw [hm0]; rfl, rfl⟩)
  have f8 : decide (m.pages ≤ 200) = true := decide_eq_true c8
  by_cases c9 : m.traces ≥ m.pages
  case neg =>
    have f9 : decide (m.traces ≥ m.pages) = false := decide_eq_false c9
    have hm0 : decide (mayM m) = false := decide_eq_false (fun h => c9 h.2.2.2.2.2.2.2.2.1)
    refine T.seq_k (fun K_h0 h0 => ?_)
    refine T.regi hm ?_
    simp only [↓reduceIte, namesOf, List.any, I.names, aopsI, astep, ev, setd, List.set, List.getD, List.getElem?_cons_zero, List.getElem?_cons_succ, then_normal, Option.getD_some, Bool.or_false, Bool.false_eq_true, up_zero, binv, ↓opt_def, ldc, eq_self, hb, Nat.zero_add, f1, f2, f3, f4, f5, f6, f7, f8, f9]
    refine h0 _ _ ?_
    try clear h0 K_h0
    exact T.ret (Fin.quiet rfl trivial (hL.quiet wf) ⟨by rw [hm0]; rfl, rfl⟩)
  have f9 : decide (m.traces ≥ m.pages) = true := decide_eq_true c9
  have hw : IntKind.i64.wrap (64 * m.pages) = 64 * m.pages := wrap64 (by omega) (by omega)
  by_cases c10 : m.traces ≤ 64 * m.pages
  case neg =>
    have f10 : decide (m.traces ≤ 64 * m.pages) = false := decide_eq_false c10
    have hm0 : decide (mayM m) = false := decide_eq_false (fun h => c10 (by have := h.2.2.2.2.2.2.2.2.2; omega))
    refine T.seq_k (fun K_h0 h0 => ?_)
    refine T.regi hm ?_
    simp only [↓reduceIte, namesOf, List.any, I.names, aopsI, astep, ev, setd, List.set, List.getD, List.getElem?_cons_zero, List.getElem?_cons_succ, then_normal, Option.getD_some, Bool.or_false, Bool.false_eq_true, up_zero, binv, ↓opt_def, ldc, eq_self, hb, Nat.zero_add, f1, f2, f3, f4, f5, f6, f7, f8, f9, f10, hw]
    refine h0 _ _ ?_
    try clear h0 K_h0
    exact T.ret (Fin.quiet rfl trivial (hL.quiet wf) ⟨by rw [hm0]; rfl, rfl⟩)
  have f10 : decide (m.traces ≤ 64 * m.pages) = true := decide_eq_true c10
  have hm0 : decide (mayM m) = true := decide_eq_true ⟨by omega, c2, c3, c4, c5, c6, c7, c8, c9, by omega⟩
  refine T.seq_k (fun K_h0 h0 => ?_)
  refine T.regi hm ?_
  simp only [↓reduceIte, namesOf, List.any, I.names, aopsI, astep, ev, setd, List.set, List.getD, List.getElem?_cons_zero, List.getElem?_cons_succ, then_normal, Option.getD_some, Bool.or_false, Bool.false_eq_true, up_zero, binv, ↓opt_def, ldc, eq_self, hb, Nat.zero_add, f1, f2, f3, f4, f5, f6, f7, f8, f9, f10, hw]
  refine h0 _ _ ?_
  try clear h0 K_h0
  exact T.ret (Fin.quiet rfl trivial (hL.quiet wf) ⟨by rw [hm0]; rfl, rfl⟩)

set_option maxRecDepth 10000 in
set_option maxHeartbeats 1000000 in
theorem rBare_ok {k : Mk} {σ : St} (h1i : k.id < 18446744073709551616) (h2i : k.by_ < 18446744073709551616) (h3i : 0 ≤ k.at_ ∧ k.at_ ≤ 1099511627776) :
    ACalls Tryd.prog n_rBare [.agg [.int .u64 (k.id : Int), .int .i64 k.at_, .int .u64 (k.by_ : Int)]] σ (fun v σ' => v = .sl (bytesAV (w8s [k.id, k.at_.toNat, k.by_])) .none ∧ σ' = σ) := by
  refine s_rBare (fun wf => ?_)
  unfold c_rBare
  have e3 : IntKind.u64.wrap k.at_ = ((k.at_.toNat : Nat) : Int) := by
    have := u64w (n := k.at_.toNat) (by omega)
    rw [Int.toNat_of_nonneg h3i.1] at this
    rw [this, Int.toNat_of_nonneg h3i.1]
  refine T.seq_k (fun K_h0 h0 => ?_)
  refine T.regi hm ?_
  simp only [↓reduceIte, namesOf, List.any, I.names, aopsI, astep, ev, setd, List.set, List.getD, List.getElem?_cons_zero, List.cons_append, List.nil_append, List.length_cons, List.length_nil, List.replicate, then_normal, Option.getD_some, Bool.or_false, Bool.false_eq_true, Nat.reduceAdd, Nat.reduceSub, AV.isAny, AV.cells, eq_self]
  refine h0 _ _ ?_
  try clear h0 K_h0
  have hb : ((σ.up 2).set (σ.next + 0) (.obj [.int .u64 (k.id : Int), .int .i64 k.at_, .int .u64 (k.by_ : Int)])).res (σ.next + 0) = some (.obj [.int .u64 (k.id : Int), .int .i64 k.at_, .int .u64 (k.by_ : Int)]) := St.set_same _ _ _
  have hL : Like σ ((σ.up 2).set (σ.next + 0) (.obj [.int .u64 (k.id : Int), .int .i64 k.at_, .int .u64 (k.by_ : Int)])) := (Like.refl σ).box (n := 2) (i := 0) _
  have hbn : σ.next + 0 < ((σ.up 2).set (σ.next + 0) (.obj [.int .u64 (k.id : Int), .int .i64 k.at_, .int .u64 (k.by_ : Int)])).next := by simp
  generalize ((σ.up 2).set (σ.next + 0) (.obj [.int .u64 (k.id : Int), .int .i64 k.at_, .int .u64 (k.by_ : Int)])) = t at hb hL hbn ⊢
  generalize σ.next + 0 = b at hb hbn ⊢
  have hbs : ∀ r, ((t.up 9).set (t.next + 2) r).res b = some (.obj [.int .u64 (k.id : Int), .int .i64 k.at_, .int .u64 (k.by_ : Int)]) := fun r => (St.set_other _ _ (by omega)).trans hb
  have hbu : ∀ k', (t.up k').res b = some (.obj [.int .u64 (k.id : Int), .int .i64 k.at_, .int .u64 (k.by_ : Int)]) := fun _ => hb
  have hb4 : b + 4 < t.next + 4 := by omega
  have hints : ∀ l : List UInt8, (bytesAV l).all AV.isInt = true := fun l => by simp [bytesAV, AV.isInt]
  have hw8 : w8s [k.id, k.at_.toNat, k.by_] = beB 8 k.id ++ beB 8 k.at_.toNat ++ beB 8 k.by_ := by simp [w8s]
  have q1 : Tq σ ((((t.up 9).set (t.next + 2) (.tip 1)).del (t.next + 2)).set (t.next + 7) (.tip 1)) (t.next + 7) 1 := (Tq.new hL (n := 9) (i := 2) (by omega) 1).mv (by have := hL.next; omega) (by simp)
  have hb2 : ((((t.up 9).set (t.next + 2) (.tip 1)).del (t.next + 2)).set (t.next + 7) (.tip 1)).res b = some (.obj [.int .u64 (k.id : Int), .int .i64 k.at_, .int .u64 (k.by_ : Int)]) := by
    rw [St.set_other _ _ (by omega)]; simp only [St.del]; rw [if_neg (by omega)]; exact hbs _
  refine T.seq_k (fun K_h1 h1 => ?_)
  refine T.regi hm ?_
  simp only [↓reduceIte, namesOf, List.any, I.names, aopsI, astep, ev, setd, List.set, List.getD, List.getElem?_cons_zero, List.getElem?_cons_succ, List.length_cons, List.length_nil, then_normal, Option.getD_some, Bool.or_false, Bool.or_true, Nat.reduceAdd, ↓opt_def, ldc, List.map_cons, List.map_nil, St.set_same, eq_self, hbu, Nat.zero_add, Nat.add_zero]
  refine ⟨bytesAV (beB 8 k.id), fun σ2 => (rbytes_ok (w := 8) (n := k.id) (by omega) h1i).mono ?_, hints _, ?_⟩
  · rintro v s2 (⟨h0, _⟩ | ⟨h, o1, rfl⟩)
    · cases h0
    · exact ⟨h, o1.lo, o1.hi, o1.res, rfl⟩
  try simp only [↓reduceIte, List.getElem?_cons_zero, List.getElem?_cons_succ, hbs, hb4, e3]
  refine ⟨_, rbytes_q (w := 8) (n := k.at_.toNat) (by omega) (by omega), ?_⟩
  try simp only [↓reduceIte, Nat.reduceAdd, eq_self, decide_true, srcOf, bytesAV_er, bytesAV_app, bytes_all, bytesAV_len, Bool.and_self, beB_len, Nat.reduceAdd, Nat.reduceMul, Nat.reduceLeDiff, and_self]
  generalize ((((t.up 9).set (t.next + 2) (.tip 1)).del (t.next + 2)).set (t.next + 7) (.tip 1)) = u at q1 hb2 ⊢
  generalize t.next + 7 = g at q1 ⊢
  clear hb hL hbn hbs hbu hb4
  have hat1 := q1.ats
  have hbu : ∀ k', (u.up k').res b = some (.obj [.int .u64 (k.id : Int), .int .i64 k.at_, .int .u64 (k.by_ : Int)]) := fun _ => hb2
  refine h1 _ _ ?_
  try clear h1 K_h1
  refine T.seq_k (fun K_h1 h1 => ?_)
  refine T.regi hm ?_
  simp only [↓reduceIte, namesOf, List.any, I.names, aopsI, astep, ev, setd, List.set, List.getD, List.getElem?_cons_zero, List.getElem?_cons_succ, List.length_cons, List.length_nil, then_normal, Option.getD_some, Bool.or_false, Bool.or_true, Nat.reduceAdd, ↓opt_def, ldc, List.map_cons, List.map_nil, eq_self, hbu]
  refine (rbytes_q (w := 8) (n := k.by_) (by omega) h2i).mono ?_
  rintro v s2 ⟨rfl, rfl⟩
  try simp only [↓reduceIte, Nat.reduceAdd, eq_self, decide_true, srcOf, bytesAV_er, bytesAV_app, bytes_all, bytesAV_len, List.length_append, Bool.and_self, hat1, beB_len, Nat.reduceAdd, Nat.reduceMul, Nat.reduceLeDiff, and_self]
  have q2 := q1.app (n := 6) (i := 4) (by omega)
  refine h1 _ _ ?_
  try clear h1 K_h1
  exact T.ret (Fin.quietw rfl (Wk.sl _ _) ⟨nb_bytes _ _, trivial⟩ (q2.quiet wf) ⟨by rw [hw8], rfl⟩)

set_option maxRecDepth 10000 in
set_option maxHeartbeats 1000000 in
theorem rOut19_ok {l : List Mt} {g : Ver} {now ret : Int} {σ : St} (hl : l.length ≤ 1000000) (hb0 : ¬ outBad now ret) :
    ACalls Tryd.prog n_rOut19 [.sl (mtsAV l) g, .int .i64 now, .int .i64 ret] σ (fun v σ' => σ' = σ ∧ v = .sl (mtsAV (outM l (now - ret))) .none) := by
  refine s_rOut19 (fun wf => ?_)
  unfold c_rOut19
  have ws : IntKind.i64.wrap (now - ret) = now - ret := by
    have h1 : ¬ now < 0 := fun h => hb0 (.inl h)
    have h2 : ¬ now > 1099511627776 := fun h => hb0 (.inr (.inl h))
    have h3 : ¬ ret < 0 := fun h => hb0 (.inr (.inr (.inl h)))
    have h4 : ¬ ret > 1099511627776 := fun h => hb0 (.inr (.inr (.inr h)))
    exact wrap64 (by omega) (by omega)
  refine T.seq_k (fun K_h0 h0 => ?_)
  refine T.regi hm ?_
  simp only [↓reduceIte, namesOf, List.any, I.names, aopsI, astep, ev, setd, List.set, List.cons_append, List.nil_append, List.length_cons, List.length_nil, List.replicate, then_normal, Bool.or_false, Bool.false_eq_true, up_zero, Nat.reduceAdd, Nat.reduceSub]
  refine h0 _ _ ?_
  try clear h0 K_h0
  refine T.seq_k (fun K_h0 h0 => ?_)
  refine T.regi hm ?_
  simp only [↓reduceIte, namesOf, List.any, I.names, aopsI, astep, ev, setd, List.set, then_normal, Bool.or_false, Bool.false_eq_true, up_zero]
  refine h0 _ _ ?_
  try clear h0 K_h0
  refine T.seq_k (fun K_h1 h1 => ?_)
  refine T.seq_k (fun K_h0 h0 => ?_)
  refine T.regi hm ?_
  simp only [↓reduceIte, namesOf, List.any, I.names, aopsI, astep, ev, setd, List.set, then_normal, Bool.or_false, Bool.false_eq_true, up_zero]
  refine h0 _ _ ?_
  try clear h0 K_h0
  refine T.block ?_
  refine T.gh (Gh.keep [0, 1, 2, 7, 8]) ?_
  refine T.loopi (fun i ρ t => ∃ v G, AccG σ t 6 (mtsAV (outM (l.take i) (now - ret))) (.sl (mtsAV (outM (l.take i) (now - ret))) v) G ∧
      ρ = [.sl (mtsAV l) g, .int .i64 now, .int .i64 ret, .any, .any, .any, .any, .sl (mtsAV (outM (l.take i) (now - ret))) v, .int .i64 (i : Int)] ++ List.replicate 23 .any)
    l.length 0 (Nat.zero_le _) ⟨.nil, none, .nil (.refl _), rfl⟩ ?_
  rintro i ρ u hi ⟨v, G, hA1, rfl⟩
  refine T.seq_k (fun K_h2 h2 => ?_)
  refine T.seq_k (fun K_h0 h0 => ?_)
  refine T.regi hm ?_
  simp only [↓reduceIte, namesOf, List.any, I.names, aopsI, astep, ev, setd, List.set, List.getD, List.getElem?_cons_zero, List.getElem?_cons_succ, List.cons_append, List.nil_append, List.replicate, then_normal, Option.getD_some, Bool.or_false, Bool.false_eq_true, up_zero, binv, ↓opt_def, lt_len, eq_self, mts_len]
  refine h0 _ _ ?_
  try clear h0 K_h0
  by_cases hil : i < l.length
  case neg =>
    refine T.cond (b := false) (by simp [ev]; omega) (fun h => by cases h) (fun _ => T.exit ?_)
    have hie : i = l.length := by omega
    subst hie
    rw [List.take_length] at hA1 ⊢
    try simp only [List.cons_append, List.nil_append, List.replicate, then_normal, inBlock_exit, then_exit]
    refine h1 _ _ ?_
    try clear h1 K_h1
    refine T.seq_k (fun K_h0 h0 => ?_)
    refine T.regi hm ?_
    simp only [↓reduceIte, namesOf, List.any, I.names, aopsI, astep, ev, setd, List.set, List.getD, List.getElem?_cons_zero, List.getElem?_cons_succ, then_normal, Option.getD_some, Bool.or_false, Bool.false_eq_true, up_zero]
    refine h0 _ _ ?_
    try clear h0 K_h0
    exact T.ret (Fin.quietw rfl (Wk.sl _ _) ⟨mts_nb _ _, trivial⟩ (hA1.quiet wf) ⟨rfl, rfl⟩)
  refine T.cond (b := true) (by simp [ev]; omega) (fun _ => T.skip ?_) (fun h => by cases h)
  refine h2 _ _ ?_
  try clear h2 K_h2
  obtain ⟨x, hx⟩ : ∃ x, l[i]? = some x := ⟨_, List.getElem?_eq_getElem hil⟩
  have hgx := mts_get hx
  have hw := inc64' hil (by omega)
  have hts : outM (l.take (i + 1)) (now - ret) = outM (l.take i) (now - ret) ++ if x.en ≤ now - ret then [x] else [] := by
    unfold outM
    rw [List.take_succ_eq_append_getElem hil, List.filter_append]
    have : l[i] = x := by rw [List.getElem?_eq_getElem hil] at hx; cases hx; rfl
    rw [this]
    by_cases h9 : x.en ≤ now - ret
    · rw [if_pos h9, List.filter_cons_of_pos (p := fun (m : Mt) => decide (m.en ≤ now - ret)) (decide_eq_true h9)]; rfl
    · rw [if_neg h9, List.filter_cons_of_neg (p := fun (m : Mt) => decide (m.en ≤ now - ret)) (by simpa using h9)]; rfl
  have hol : (outM (l.take i) (now - ret)).length ≤ 1000000 := Nat.le_trans (out_len _ _) (Nat.le_trans (List.length_take_le' _ _) hl)
  generalize hO : outM (l.take i) (now - ret) = out at hA1 hts hol ⊢
  refine T.seq_k (fun K_h3 h3 => ?_)
  refine T.block ?_
  refine T.seq_k (fun K_h4 h4 => ?_)
  by_cases hle : x.en ≤ now - ret
  case neg =>
    have f1 : decide (x.en ≤ now - ret) = false := decide_eq_false hle
    refine T.regi hm ?_
    simp only [↓reduceIte, namesOf, List.any, I.names, aopsI, astep, ev, setd, List.set, List.getD, List.getElem?_cons_zero, List.getElem?_cons_succ, List.cons_append, List.nil_append, List.length_cons, List.length_nil, List.replicate, then_normal, Option.getD_some, Bool.or_false, Bool.false_eq_true, up_zero, Nat.reduceAdd, binv, ↓opt_def, AV.cells, ldc, Int.natCast_nonneg, lt_len, Int.toNat_natCast, true_and, and_true, eq_self, decide_true, hil, mts_len, hgx, Nat.zero_add, List.drop, ws, f1]
    refine h4 _ _ ?_
    try clear h4 K_h4
    refine T.cond rfl (fun h => by cases h) (fun _ => T.skip ?_)
    try simp only [List.cons_append, List.nil_append, List.replicate, then_normal, inBlock_normal, inBlock_normal]
    refine h3 _ _ ?_
    try clear h3 K_h3
    refine T.regi hm ?_
    simp only [↓reduceIte, namesOf, List.any, I.names, aopsI, astep, ev, setd, List.set, List.getD, List.getElem?_cons_zero, List.getElem?_cons_succ, List.cons_append, List.nil_append, List.replicate, then_normal, Option.getD_some, Bool.or_false, Bool.false_eq_true, up_zero, binv, ↓opt_def, eq_self, hw]
    exact ⟨hil, _, _, Gh.keep [0, 1, 2, 7, 8], v, G, by rw [hts, if_neg hle, List.append_nil]; exact hA1, by rw [hts, if_neg hle, List.append_nil]; rfl⟩
  have f1 : decide (x.en ≤ now - ret) = true := decide_eq_true hle
  rw [if_pos hle] at hts
  refine T.regi hm ?_
  simp only [↓reduceIte, namesOf, List.any, I.names, aopsI, astep, ev, setd, List.set, List.getD, List.getElem?_cons_zero, List.getElem?_cons_succ, List.cons_append, List.nil_append, List.length_cons, List.length_nil, List.replicate, then_normal, Option.getD_some, Bool.or_false, Bool.false_eq_true, up_zero, Nat.reduceAdd, binv, ↓opt_def, AV.cells, ldc, Int.natCast_nonneg, lt_len, Int.toNat_natCast, true_and, and_true, eq_self, decide_true, hil, mts_len, hgx, Nat.zero_add, List.drop, ws, f1]
  refine h4 _ _ ?_
  try clear h4 K_h4
  refine T.cond rfl (fun _ => ?_) (fun h => by cases h)
  have hend : ∀ t' g', AccG σ t' 6 (mtsAV (out ++ [x])) (.sl (mtsAV (out ++ [x])) (.tip g')) (some g') → ∀ ρ', keep [0, 1, 2, 7, 8] 0 ρ' = [.sl (mtsAV l) g, .int .i64 now, .int .i64 ret, .any, .any, .any, .any, .sl (mtsAV (out ++ [x])) (.tip g'), .int .i64 (i : Int)] ++ List.replicate 23 .any → K_h3 ρ' t' := by
    intro t' g' hA' ρ' hk
    refine h3 _ _ ?_
    refine T.gh (Gh.keep [0, 1, 2, 7, 8]) ?_
    rw [hk]
    refine T.regi hm ?_
    simp only [↓reduceIte, namesOf, List.any, I.names, aopsI, astep, ev, setd, List.set, List.getD, List.getElem?_cons_zero, List.getElem?_cons_succ, List.cons_append, List.nil_append, List.replicate, then_normal, Option.getD_some, Bool.or_false, Bool.false_eq_true, up_zero, binv, ↓opt_def, eq_self, hw]
    exact ⟨hil, _, _, Gh.keep [0, 1, 2, 7, 8], .tip g', some g', by rw [hts]; exact hA', by rw [hts]; rfl⟩
  have happ : mtsAV out ++ [.agg [.int .u64 (x.id : Int), .int .i64 x.level, .int .i64 x.st, .int .i64 x.en, .int .i64 x.pages, .int .i64 x.traces]] = mtsAV (out ++ [x]) := by simp [mtsAV]
  have hb2 : (out.length + 1) * 48 ≤ 70368744177664 := by omega
  have hb3 : out.length + 1 ≤ 4611686018427387904 := by omega
  cases G with
  | none =>
    obtain ⟨hx1, hx2, hLi⟩ := hA1
    obtain rfl : out = [] := by cases out with
      | nil => rfl
      | cons a r => simp [mtsAV] at hx2
    obtain rfl : v = .nil := by cases hx1; rfl
    have hm0 : mtsAV ([] : List Mt) = [] := rfl
    refine T.regi hm ?_
    simp only [↓reduceIte, namesOf, List.any, I.names, aopsI, astep, ev, setd, List.set, List.getD, List.getElem?_cons_zero, List.getElem?_cons_succ, List.cons_append, List.nil_append, List.length_cons, List.length_nil, List.replicate, then_normal, inBlock_normal, Option.getD_some, Bool.or_false, Bool.or_true, Bool.false_eq_true, Nat.reduceAdd, ↓opt_def, AV.isAny, AV.cells, ldc, List.map_cons, List.map_nil, Int.natCast_nonneg, lt_len, Int.toNat_natCast, true_and, eq_self, decide_true, hil, mts_len, hgx, hm0, held, srcOf, AV.er, AV.er1, AV.fits, AV.one, List.all_cons, List.all_nil, Nat.reduceBEq, Bool.not_false, Bool.and_self, Nat.zero_add, List.take, List.drop, Nat.reduceLeDiff, Nat.one_mul, and_self, List.isEmpty]
    try simp only [↓reduceIte, namesOf, List.any, I.names, aops, aopsI, aopsT, qstep, CPt, qget, Tbl.get, astep, ev, setd, List.set, List.getD, List.getElem?_cons_zero, List.getElem?_cons_succ, List.getElem?_nil, List.cons_append, List.nil_append, List.length_cons, List.length_nil, List.replicate, then_normal, inBlock_normal, Option.getD_some, Option.getD_none, Bool.or_false, Bool.or_true, Bool.true_or, Bool.false_or, Bool.false_eq_true, if_false, if_true, up_zero, Nat.reduceAdd, Nat.reduceSub, binv, ↓opt_def, AV.isAny, AV.cells, ldc, List.map_cons, List.map_nil, St.set_next, St.set_same, St.up_next, Int.natCast_nonneg, lt_len, le_len, Int.toNat_natCast, true_and, and_true, eq_self, reduceCtorEq, decide_true, List.length_singleton, er_int, er_bool, er_str, srcR, inBlock_normal]
    exact hend _ (u.next + 6) (.of_tip ⟨hLi.box (n := 8) (i := 6) _, St.set_same _ _ _, by have := hLi.next; omega, by simp⟩) _ rfl
  | some g0 =>
    obtain ⟨hx1, hTq⟩ := hA1
    obtain rfl : v = .tip g0 := by cases hx1; rfl
    have hru : ∀ k, (u.up k).res g0 = some (.tip 6) := fun _ => hTq.at_
    have hfit := mts_fits (out ++ [x])
    refine T.regi hm ?_
    simp only [↓reduceIte, namesOf, List.any, I.names, aopsI, astep, ev, setd, List.set, List.getD, List.getElem?_cons_zero, List.getElem?_cons_succ, List.cons_append, List.nil_append, List.length_cons, List.length_nil, List.replicate, then_normal, inBlock_normal, Option.getD_some, Bool.or_false, Bool.or_true, Nat.reduceAdd, ↓opt_def, AV.isAny, AV.cells, ldc, List.map_cons, List.map_nil, Int.natCast_nonneg, lt_len, Int.toNat_natCast, true_and, eq_self, decide_true, hil, hgx, mts_len, held, srcOf, AV.er, AV.er1, hru, happ, hfit, hb2, hb3, AV.fits, AV.one, List.all_cons, List.all_nil, Nat.reduceBEq, Bool.not_false, Bool.and_self, Nat.zero_add, List.take, List.drop, Nat.reduceLeDiff, and_self]
    try simp only [↓reduceIte, namesOf, List.any, I.names, aops, aopsI, aopsT, qstep, CPt, qget, Tbl.get, astep, ev, setd, List.set, List.getD, List.getElem?_cons_zero, List.getElem?_cons_succ, List.getElem?_nil, List.cons_append, List.nil_append, List.length_cons, List.length_nil, List.replicate, then_normal, inBlock_normal, Option.getD_some, Option.getD_none, Bool.or_false, Bool.or_true, Bool.true_or, Bool.false_or, Bool.false_eq_true, if_false, if_true, up_zero, Nat.reduceAdd, Nat.reduceSub, binv, ↓opt_def, AV.isAny, AV.cells, ldc, List.map_cons, List.map_nil, St.set_next, St.set_same, St.up_next, Int.natCast_nonneg, lt_len, le_len, Int.toNat_natCast, true_and, and_true, eq_self, reduceCtorEq, decide_true, List.length_singleton, er_int, er_bool, er_str, srcR, inBlock_normal]
    exact hend _ (u.next + 6) (.of_tip ⟨((hTq.like.up 8).del hTq.lo).set _ (by have := hTq.like.next; omega), St.set_same _ _ _, by have := hTq.like.next; omega, by simp⟩) _ rfl

end Go.VL
