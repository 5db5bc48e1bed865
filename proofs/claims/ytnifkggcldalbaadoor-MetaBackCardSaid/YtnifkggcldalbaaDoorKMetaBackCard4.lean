/- Texts put together, of these what the theorem needs: Numbers written: strconv.FormatUint to the bases 16 and 10. Contracts: spans and traces that are few; what may be. From arguments to plain data: numbers, bytes, texts, structs. From arguments to plain data: spans, traces, pages. What a row that lists the tables of numbers is given: their cells; a world that meets it. Numbers below a thousand written, to the base 10. FormatUint, strings.Repeat of a zero, digits: a number with leading zeros. Names of objects: meta.Name, and the document's. The compiled code of functions of this seat. MADE BY PROGRAM (mkc.py). Texts cut at '/': strings.Count, strings.Split. Digits read: internal/strconv.ParseUint, to the bases 16 and 10. strings.Clone, whose work the model does with frozen memory. strings.Clone at this seat. MADE BY PROGRAM (mkcl.py). -/
import Derived.Test.YtnifkggcldalbaaDoorKMetaBackCard3
import Derived.Test.YtnifkggcldalbaaDoorRows
import Derived.Test.YtnifkggcldalbaaDoorTie
import Derived.Test.YtnifkggcldalbaaDoorCards
import Derived.Test.YtnifkggcldalbaaDoorChecked

set_option linter.unusedSimpArgs false
set_option linter.unusedVariables false

namespace Go.VL

open Go.Proofs

def deB64 : List AV := ([0, 1, 56, 2, 57, 49, 28, 3, 61, 58, 42, 50, 38, 29, 17, 4, 62, 47, 59, 36, 45, 43, 51, 22, 53, 39, 33, 30, 24, 18, 12, 5, 63, 55, 48, 27, 60, 41, 37, 16, 46, 35, 44, 21, 52, 32, 23, 11, 54, 26, 40, 15, 34, 20, 31, 10, 25, 14, 19, 9, 13, 8, 7, 6] : List Int).map (.int .u8)

def pow10L : List AV := (List.range 20).map fun i => .int .u64 ((10 ^ i : Nat) : Int)

/-- the tables that numbers are written by are there -/
structure Tabs (σ : St) : Prop where
  p10 : σ.res g_pow10 = some (.gl g_pow10 pow10L)
  d64 : σ.res g_deB64 = some (.gl g_deB64 deB64)

theorem Tabs.mono {σ t : St} (h : Tabs σ) (hq : ∀ n r, σ.res n = some r → t.res n = some r) : Tabs t := ⟨hq _ _ h.p10, hq _ _ h.d64⟩

theorem Tabs.like {σ t : St} (h : Tabs σ) (wf : WF σ) (hL : Like σ t) : Tabs t := h.mono (hL.quiet wf)

theorem u64_mask {a k : Nat} (hk : k ≤ 63) (ha : a < 18446744073709551616) : IntKind.u64.wrap ((BitVec.ofInt IntKind.u64.bits (a : Int) &&& BitVec.ofInt IntKind.u64.bits ((2 ^ k - 1 : Nat) : Int)).toNat : Int) = ((a % 2 ^ k : Nat) : Int) := by
  have h2 : 2 ^ k ≤ 2 ^ 63 := Nat.pow_le_pow_right (by omega) hk
  have h3 : 0 < 2 ^ k := Nat.two_pow_pos k
  have e : (BitVec.ofInt IntKind.u64.bits (a : Int) &&& BitVec.ofInt IntKind.u64.bits ((2 ^ k - 1 : Nat) : Int)).toNat = a % 2 ^ k := by
    show (BitVec.ofInt 64 (a : Int) &&& BitVec.ofInt 64 ((2 ^ k - 1 : Nat) : Int)).toNat = a % 2 ^ k
    rw [BitVec.ofInt_natCast, BitVec.ofInt_natCast, BitVec.toNat_and, BitVec.toNat_ofNat, BitVec.toNat_ofNat, Nat.mod_eq_of_lt (show a < 2 ^ 64 from ha), Nat.mod_eq_of_lt (show 2 ^ k - 1 < 2 ^ 64 by omega), Nat.and_two_pow_sub_one_eq_mod]
  rw [e]
  exact u64w (Nat.lt_of_le_of_lt (Nat.mod_le _ _) ha)

theorem u64_and15 {a : Nat} (ha : a < 18446744073709551616) : IntKind.u64.wrap ((BitVec.ofInt IntKind.u64.bits (a : Int) &&& BitVec.ofInt IntKind.u64.bits 15).toNat : Int) = ((a % 16 : Nat) : Int) := u64_mask (k := 4) (by omega) ha

theorem u64_and32 {a : Nat} (ha : a < 18446744073709551616) : IntKind.u64.wrap ((BitVec.ofInt IntKind.u64.bits (a : Int) &&& BitVec.ofInt IntKind.u64.bits 4294967295).toNat : Int) = ((a % 4294967296 : Nat) : Int) := u64_mask (k := 32) (by omega) ha

theorem u64_shr (n k : Nat) (hk : k ≤ 63) : Int.fdiv (n : Int) (2 ^ min k IntKind.u64.bits) = ((n / 2 ^ k : Nat) : Int) := by
  have h1 : min k IntKind.u64.bits = k := by simp [IntKind.bits]; omega
  have h2 : (2 : Int) ^ k = ((2 ^ k : Nat) : Int) := by simp
  rw [h1, h2, Int.fdiv_eq_ediv_of_nonneg _ (Int.natCast_nonneg _), ← Int.natCast_ediv]

theorem u64_shr4 (n : Nat) : Int.fdiv (n : Int) (2 ^ min (4 : Int).toNat IntKind.u64.bits) = ((n / 16 : Nat) : Int) := u64_shr n 4 (by omega)

theorem u64_shr32 (n : Nat) : Int.fdiv (n : Int) (2 ^ min (32 : Int).toNat IntKind.u64.bits) = ((n / 4294967296 : Nat) : Int) := u64_shr n 32 (by omega)

theorem tz64_ok {σ : St} (hT : Tabs σ) : ACalls Tryd.prog n_tz64 [.int .u64 16] σ (fun v σ' => v = .int .i64 4 ∧ σ' = σ) := by
  refine s_tz64 (fun wf => ?_)
  unfold c_tz64
  have e0 : ((16 : Int) == 0) = false := rfl
  have e1 : IntKind.u64.wrap (0 - 16) = 18446744073709551600 := by decide
  have e2 : IntKind.u64.wrap ((BitVec.ofInt IntKind.u64.bits 16 &&& BitVec.ofInt IntKind.u64.bits 18446744073709551600).toNat : Int) = 16 := by decide +kernel
  have e3 : IntKind.u64.wrap (16 * 285870213051353865) = 4573923408821661840 := by decide
  have e4 : Int.fdiv 4573923408821661840 (2 ^ min (58 : Int).toNat IntKind.u64.bits) = 15 := by decide +kernel
  have e5 : ¬ ((58 : Int) < 0) := by decide
  have e6 : (0 : Int) ≤ 15 := by decide
  have e7 : (15 : Int) < ((64 : Nat) : Int) := by decide
  have e8 : (15 : Int).toNat * 1 ≤ deB64.length := by decide
  have e9 : (List.drop ((15 : Int).toNat * 1) deB64)[0]? = some (.int .u8 4) := rfl
  have e10 : IntKind.i64.wrap 4 = 4 := by decide
  have hd := hT.d64
  refine T.seq_k (fun K_h0 h0 => ?_)
  refine T.regi hm ?_
  simp only [↓reduceIte, namesOf, List.any, I.names, aopsI, astep, ev, setd, List.set, List.cons_append, List.nil_append, List.length_cons, List.length_nil, List.replicate, then_normal, Bool.or_false, Bool.false_eq_true, up_zero, Nat.reduceAdd, Nat.reduceSub]
  refine h0 _ _ ?_
  try clear h0 K_h0
  refine T.seq_k (fun K_h1 h1 => ?_)
  refine T.seq_k (fun K_h0 h0 => ?_)
  refine T.regi hm ?_
  simp only [↓reduceIte, namesOf, List.any, I.names, aopsI, astep, ev, setd, List.set, List.getD, List.getElem?_cons_zero, List.getElem?_cons_succ, then_normal, Option.getD_some, Bool.or_false, Bool.false_eq_true, up_zero, binv, ↓opt_def, eq_self, e0]
  refine h0 _ _ ?_
  try clear h0 K_h0
  refine T.cond rfl (fun h => by cases h) (fun _ => T.skip ?_)
  refine h1 _ _ ?_
  try clear h1 K_h1
  refine T.seq_k (fun K_h0 h0 => ?_)
  refine T.regi hm ?_
  simp only [↓reduceIte, namesOf, List.any, I.names, aopsI, astep, ev, setd, List.set, List.getD, List.getElem?_cons_zero, List.getElem?_cons_succ, then_normal, Option.getD_some, Bool.or_false, Bool.false_eq_true, up_zero, binv, ↓opt_def, ldc, and_true, eq_self, e1, e2, e3, e4, e5, e6, e7, e8, e9, e10, hd]
  refine h0 _ _ ?_
  try clear h0 K_h0
  exact T.ret (Fin.ret rfl ⟨rfl, rfl⟩)

theorem tz_ok {σ : St} (hT : Tabs σ) : ACalls Tryd.prog n_tz [.int .u64 16] σ (fun v σ' => v = .int .i64 4 ∧ σ' = σ) := by
  refine s_tz (fun wf => ?_)
  unfold c_tz
  refine T.seq_k (fun K_h0 h0 => ?_)
  refine T.regi hm ?_
  simp only [↓reduceIte, namesOf, List.any, I.names, aopsI, astep, ev, setd, List.set, List.cons_append, List.nil_append, List.length_cons, List.length_nil, List.replicate, then_normal, Bool.or_false, Bool.false_eq_true, up_zero, Nat.reduceAdd, Nat.reduceSub]
  refine h0 _ _ ?_
  try clear h0 K_h0
  refine T.seq_k (fun K_h1 h1 => ?_)
  refine T.cond rfl (fun h => by cases h) (fun _ => T.skip ?_)
  refine h1 _ _ ?_
  try clear h1 K_h1
  refine T.seq_k (fun K_h1 h1 => ?_)
  refine T.regi hm ?_
  simp only [↓reduceIte, namesOf, List.any, I.names, aopsI, astep, ev, setd, List.set, List.getD, List.getElem?_cons_zero, List.getElem?_cons_succ, then_normal, Option.getD_some, Bool.or_false, Bool.false_eq_true, up_zero, List.map_cons, List.map_nil]
  refine (tz64_ok hT).mono ?_
  rintro v σ1 ⟨rfl, rfl⟩
  try simp only [↓reduceIte, namesOf, List.any, I.names, aops, aopsI, aopsT, qstep, CPt, qget, Tbl.get, astep, ev, setd, List.set, List.getD, List.getElem?_cons_zero, List.getElem?_cons_succ, List.getElem?_nil, List.cons_append, List.nil_append, List.length_cons, List.length_nil, List.replicate, then_normal, inBlock_normal, Option.getD_some, Option.getD_none, Bool.or_false, Bool.or_true, Bool.true_or, Bool.false_or, Bool.false_eq_true, if_false, if_true, up_zero, Nat.reduceAdd, Nat.reduceSub, binv, ↓opt_def, AV.isAny, AV.cells, ldc, List.map_cons, List.map_nil, St.set_next, St.set_same, St.up_next, Int.natCast_nonneg, lt_len, le_len, Int.toNat_natCast, true_and, and_true, eq_self, reduceCtorEq, decide_true, List.length_singleton, er_int, er_bool, er_str, srcR, up_zero]
  refine h1 _ _ ?_
  try clear h1 K_h1
  exact T.ret (Fin.ret rfl ⟨rfl, rfl⟩)

theorem pow2_ok {σ : St} : ACalls Tryd.prog n_pow2 [.int .i64 16] σ (fun v σ' => v = .bool true ∧ σ' = σ) := by
  refine s_pow2 (fun wf => ?_)
  unfold c_pow2
  have e1 : IntKind.i64.wrap (16 - 1) = 15 := by decide
  have e2 : (IntKind.i64.wrap ((BitVec.ofInt IntKind.i64.bits 16 &&& BitVec.ofInt IntKind.i64.bits 15).toNat : Int) == 0) = true := by decide +kernel
  refine T.seq_k (fun K_h0 h0 => ?_)
  refine T.regi hm ?_
  simp only [↓reduceIte, namesOf, List.any, I.names, aopsI, astep, ev, setd, List.set, List.cons_append, List.nil_append, List.length_cons, List.length_nil, List.replicate, then_normal, Bool.or_false, Bool.false_eq_true, up_zero, Nat.reduceAdd, Nat.reduceSub]
  refine h0 _ _ ?_
  try clear h0 K_h0
  refine T.seq_k (fun K_h0 h0 => ?_)
  refine T.regi hm ?_
  simp only [↓reduceIte, namesOf, List.any, I.names, aopsI, astep, ev, setd, List.set, List.getD, List.getElem?_cons_zero, List.getElem?_cons_succ, then_normal, Option.getD_some, Bool.or_false, Bool.false_eq_true, up_zero, binv, ↓opt_def, eq_self, e1, e2]
  refine h0 _ _ ?_
  try clear h0 K_h0
  exact T.ret (Fin.ret rfl ⟨rfl, rfl⟩)

theorem dig36_get (d : Nat) (h : d < 16) : sDig36.data.toList[d]? = some (dgc d) := by
  have : ∀ d : Nat, d < 16 → sDig36.data.toList[d]? = some (dgc d) := by decide
  exact this d h

/-- a byte written into a row of zeros, ahead of what is there -/
theorem splice_rep {z x : AV} {n : Nat} {B : List AV} : splice (List.replicate (n + 1) z ++ B) n [x] = List.replicate n z ++ x :: B := by
  unfold splice
  have e1 : (List.replicate (n + 1) z ++ B).take n = List.replicate n z := by
    rw [List.take_append_of_le_length (by simp), List.take_replicate]; congr 1; omega
  have e2 : (List.replicate (n + 1) z ++ B).drop (n + [x].length) = B := by
    rw [List.drop_append_of_le_length (by simp)]; simp
  rw [e1, e2]; simp

set_option maxRecDepth 10000 in
set_option maxHeartbeats 1000000 in
theorem fbits_ok {u : Nat} {σ : St} (hT : Tabs σ) (hu : u < 18446744073709551616) : ACalls Tryd.prog n_fbits [.sl [] .nil, .int .u64 (u : Int), .int .i64 16, .bool false, .bool false] σ
    (fun v σ' => (∃ k, 1 ≤ k ∧ k ≤ 16 ∧ u < 16 ^ k ∧ v = .tup [.sl [] .nil, .str ⟨(dg 16 k u).toArray⟩]) ∧ σ' = σ) := by
  refine s_fbits (fun wf => ?_)
  unfold c_fbits
  have e0 : decide ((16 : Int) < 2) = false := rfl
  have e1 : ((16 : Int) == 10) = false := rfl
  have e2 : decide ((16 : Int) > 36) = false := rfl
  refine T.seq_k (fun K_h0 h0 => ?_)
  refine T.regi hm ?_
  simp only [↓reduceIte, namesOf, List.any, I.names, aopsI, astep, ev, setd, List.set, List.cons_append, List.nil_append, List.length_cons, List.length_nil, List.replicate, then_normal, Bool.or_false, Bool.false_eq_true, up_zero, Nat.reduceAdd, Nat.reduceSub]
  refine h0 _ _ ?_
  try clear h0 K_h0
  refine T.seq_k (fun K_h1 h1 => ?_)
  refine T.seq_k (fun K_h0 h0 => ?_)
  refine T.regi hm ?_
  simp only [↓reduceIte, namesOf, List.any, I.names, aopsI, astep, ev, setd, List.set, List.getD, List.getElem?_cons_zero, List.getElem?_cons_succ, then_normal, Option.getD_some, Bool.or_false, Bool.false_eq_true, up_zero, binv, ↓opt_def, eq_self, e0, e1, e2]
  refine h0 _ _ ?_
  try clear h0 K_h0
  refine T.cond rfl (fun h => by cases h) (fun _ => T.skip ?_)
  refine h1 _ _ ?_
  try clear h1 K_h1
  refine T.seq_k (fun K_h0 h0 => ?_)
  refine T.regi hm ?_
  simp only [↓reduceIte, namesOf, List.any, I.names, aopsI, astep, setd, List.set, List.length_cons, List.length_nil, then_normal, Bool.or_false, Nat.reduceAdd, eq_self]
  refine h0 _ _ ?_
  try clear h0 K_h0
  have hm0 : ((σ.up 1).set (σ.next + 0) (.obj (zeros 65 (.int .u8 0)))).res (σ.next + 0) = some (.obj (zeros 65 (.int .u8 0))) := St.set_same _ _ _
  have hL0 : Like σ ((σ.up 1).set (σ.next + 0) (.obj (zeros 65 (.int .u8 0)))) := (Like.refl σ).box (n := 1) (i := 0) _
  have hlo : σ.next ≤ σ.next + 0 := by omega
  have hlt0 : σ.next + 0 < ((σ.up 1).set (σ.next + 0) (.obj (zeros 65 (.int .u8 0)))).next := by simp
  generalize ((σ.up 1).set (σ.next + 0) (.obj (zeros 65 (.int .u8 0)))) = t0 at hm0 hL0 hlt0 ⊢
  generalize σ.next + 0 = m at hm0 hlo hlt0 ⊢
  refine T.seq_k (fun K_h0 h0 => ?_)
  refine T.regi hm ?_
  simp only [↓reduceIte, namesOf, List.any, I.names, aopsI, astep, ev, setd, List.set, then_normal, Bool.or_false, Bool.false_eq_true, up_zero]
  refine h0 _ _ ?_
  try clear h0 K_h0
  refine T.seq_k (fun K_h1 h1 => ?_)
  refine T.seq_k (fun K_h0 h0 => ?_)
  refine T.regi hm ?_
  simp only [↓reduceIte, namesOf, List.any, I.names, aopsI, astep, ev, setd, List.set, List.getD, List.getElem?_cons_zero, List.getElem?_cons_succ, then_normal, Option.getD_some, Bool.or_false, Bool.false_eq_true, up_zero]
  refine h0 _ _ ?_
  try clear h0 K_h0
  refine T.cond rfl (fun h => by cases h) (fun _ => T.skip ?_)
  refine h1 _ _ ?_
  try clear h1 K_h1
  refine T.seq_k (fun K_h1 h1 => ?_)
  refine T.seq_k (fun K_h2 h2 => ?_)
  refine T.regi hm ?_
  simp only [↓reduceIte, namesOf, List.any, I.names, aopsI, astep, ev, setd, List.set, List.getD, List.getElem?_cons_zero, List.getElem?_cons_succ, then_normal, Option.getD_some, Bool.or_false, Bool.false_eq_true, up_zero, List.map_cons, List.map_nil]
  refine pow2_ok.mono ?_
  rintro v σ1 ⟨rfl, rfl⟩
  try simp only [↓reduceIte, namesOf, List.any, I.names, aops, aopsI, aopsT, qstep, CPt, qget, Tbl.get, astep, ev, setd, List.set, List.getD, List.getElem?_cons_zero, List.getElem?_cons_succ, List.getElem?_nil, List.cons_append, List.nil_append, List.length_cons, List.length_nil, List.replicate, then_normal, inBlock_normal, Option.getD_some, Option.getD_none, Bool.or_false, Bool.or_true, Bool.true_or, Bool.false_or, Bool.false_eq_true, if_false, if_true, up_zero, Nat.reduceAdd, Nat.reduceSub, binv, ↓opt_def, AV.isAny, AV.cells, ldc, List.map_cons, List.map_nil, St.set_next, St.set_same, St.up_next, Int.natCast_nonneg, lt_len, le_len, Int.toNat_natCast, true_and, and_true, eq_self, reduceCtorEq, decide_true, List.length_singleton, er_int, er_bool, er_str, srcR, up_zero]
  refine h2 _ _ ?_
  try clear h2 K_h2
  refine T.cond rfl (fun _ => ?_) (fun h => by cases h)
  have w1 : IntKind.u64.wrap 16 = 16 := by decide
  have w2 : IntKind.u64.wrap 4 = 4 := by decide
  have w3 : IntKind.u64.wrap (16 - 1) = 15 := by decide
  refine T.seq_k (fun K_h2 h2 => ?_)
  refine T.regi hm ?_
  simp only [↓reduceIte, namesOf, List.any, I.names, aopsI, astep, ev, setd, List.set, List.getD, List.getElem?_cons_zero, List.getElem?_cons_succ, then_normal, Option.getD_some, Bool.or_false, Bool.false_eq_true, up_zero, List.map_cons, List.map_nil, w1]
  refine (tz_ok (hT.like wf (hL0))).mono ?_
  rintro v σ1 ⟨rfl, rfl⟩
  try simp only [w2]
  refine h2 _ _ ?_
  try clear h2 K_h2
  refine T.seq_k (fun K_h0 h0 => ?_)
  refine T.regi hm ?_
  simp only [↓reduceIte, namesOf, List.any, I.names, aopsI, astep, ev, setd, List.set, List.getD, List.getElem?_cons_zero, List.getElem?_cons_succ, then_normal, Option.getD_some, Bool.or_false, Bool.false_eq_true, up_zero, w1]
  refine h0 _ _ ?_
  try clear h0 K_h0
  refine T.seq_k (fun K_h0 h0 => ?_)
  refine T.regi hm ?_
  simp only [↓reduceIte, namesOf, List.any, I.names, aopsI, astep, ev, setd, List.set, List.getD, List.getElem?_cons_zero, List.getElem?_cons_succ, then_normal, Option.getD_some, Bool.or_false, Bool.false_eq_true, up_zero, binv, ↓opt_def, eq_self, w1, w3]
  refine h0 _ _ ?_
  try clear h0 K_h0
  refine T.seq_k (fun K_h2 h2 => ?_)
  refine T.block ?_
  refine T.gh (Gh.keep [0, 1, 2, 3, 4, 10, 12, 13, 14, 15, 16]) ?_
  refine T.loopi (fun j ρ t => Like σ t ∧ m < t.next ∧ t.res m = some (.obj (List.replicate (65 - j) (.int .u8 0) ++ bytesAV (dg 16 j u))) ∧
      ρ = [.sl [] .nil, .int .u64 ((u / 16 ^ j : Nat) : Int), .int .i64 16, .bool false, .bool false] ++ List.replicate 5 .any ++ [.sl [] .nil, .any, .ptr m 0, .int .i64 ((65 - j : Nat) : Int), .int .u64 4, .int .u64 16, .int .u64 15] ++ List.replicate 85 .any)
    15 0 (Nat.zero_le _) ⟨hL0, hlt0, by rw [hm0]; simp [zeros, dg, bytesAV], by rw [Nat.pow_zero, Nat.div_one]; rfl⟩ ?_
  clear hm0 hL0 hlt0
  rintro j ρ t hj ⟨hL, hlt, hob, rfl⟩
  have hxu : u / 16 ^ j < 18446744073709551616 := Nat.lt_of_le_of_lt (Nat.div_le_self _ _) hu
  have hnext : u / 16 ^ (j + 1) = u / 16 ^ j / 16 := by rw [Nat.div_div_eq_div_mul, Nat.pow_succ]
  have hdg : dg 16 (j + 1) u = dgc (u / 16 ^ j % 16) :: dg 16 j u := dg_cons 16 j u
  have hblen : (bytesAV (dg 16 j u)).length = j := by rw [bytesAV_len, dg_len]
  generalize hx : u / 16 ^ j = x at hxu hnext hdg ⊢
  have hsp : splice (List.replicate (65 - j) (AV.int .u8 0) ++ bytesAV (dg 16 j u)) (64 - j) [.int .u8 ((dgc (x % 16)).toNat : Int)] = List.replicate (64 - j) (.int .u8 0) ++ bytesAV (dg 16 (j + 1) u) := by
    rw [show 65 - j = (64 - j) + 1 by omega, splice_rep, hdg]; rfl
  have hw : IntKind.i64.wrap (((65 - j : Nat) : Int) - 1) = ((64 - j : Nat) : Int) := by rw [wrap64 (by omega) (by omega)]; omega
  have i1 : ((64 - j : Nat) : Int) < ((65 : Nat) : Int) := by omega
  have i2 : ((x % 16 : Nat) : Int) < (sDig36.size : Int) := by rw [sDig36_size]; omega
  have hdd := dig36_get (x % 16) (Nat.mod_lt _ (by omega))
  have hlen : 64 - j + 1 ≤ (List.replicate (65 - j) (AV.int .u8 0) ++ bytesAV (dg 16 j u)).length := by rw [List.length_append, List.length_replicate]; omega
  have s4 : ¬ ((4 : Int) < 0) := by decide
  refine T.seq_k (fun K_h3 h3 => ?_)
  by_cases hge : 16 ≤ x
  case neg =>
    have f1 : decide ((x : Int) ≥ 16) = false := decide_eq_false (by omega)
    refine T.seq_k (fun K_h0 h0 => ?_)
    refine T.regi hm ?_
    simp only [↓reduceIte, namesOf, List.any, I.names, aopsI, astep, ev, setd, List.set, List.getD, List.getElem?_cons_zero, List.getElem?_cons_succ, List.cons_append, List.nil_append, List.replicate, then_normal, Option.getD_some, Bool.or_false, Bool.false_eq_true, up_zero, binv, ↓opt_def, eq_self, f1]
    refine h0 _ _ ?_
    try clear h0 K_h0
    refine T.cond rfl (fun h => by cases h) (fun _ => T.exit ?_)
    try simp only [List.cons_append, List.nil_append, List.replicate, then_normal, inBlock_exit, then_exit]
    refine h2 _ _ ?_
    try clear h2 K_h2
    have hxm : x % 16 = x := Nat.mod_eq_of_lt (by omega)
    rw [hxm] at i2 hdd hsp
    refine T.gh (Gh.keep [0, 1, 3, 4, 10, 12, 13]) ?_
    show T _ _ _ _ ([.sl [] .nil, .int .u64 (x : Int), .any, .bool false, .bool false] ++ List.replicate 5 .any ++ [.sl [] .nil, .any, .ptr m 0, .int .i64 ((65 - j : Nat) : Int)] ++ List.replicate 88 .any) t
    refine T.seq_k (fun K_h0 h0 => ?_)
    refine T.regi hm ?_
    simp only [↓reduceIte, namesOf, List.any, I.names, aopsI, astep, ev, setd, List.set, List.getD, List.getElem?_cons_zero, List.getElem?_cons_succ, List.cons_append, List.nil_append, List.replicate, then_normal, Option.getD_some, Bool.or_false, Bool.false_eq_true, up_zero, binv, ↓opt_def, eq_self, hw]
    refine h0 _ _ ?_
    try clear h0 K_h0
    refine T.regi hm ?_
    simp only [↓reduceIte, namesOf, List.any, I.names, aopsI, astep, ev, setd, List.set, List.getD, List.getElem?_cons_zero, List.getElem?_cons_succ, List.length_cons, List.length_nil, then_normal, Option.getD_some, Bool.or_false, Bool.false_eq_true, up_zero, AV.isAny, AV.cells, Int.natCast_nonneg, Int.toNat_natCast, eq_self, decide_true, i1, i2, hdd, hob, hlen, hsp, AV.fits, AV.one, List.all_cons, List.all_nil, Nat.reduceBEq, Bool.not_false, Bool.and_self, Nat.zero_add, Nat.mul_one, and_self]
    have hm2 : (t.set m (.obj (List.replicate (64 - j) (.int .u8 0) ++ bytesAV (dg 16 (j + 1) u)))).res m = some (.obj (List.replicate (64 - j) (.int .u8 0) ++ bytesAV (dg 16 (j + 1) u))) := St.set_same _ _ _
    have hL2 : Like σ (t.set m (.obj (List.replicate (64 - j) (.int .u8 0) ++ bytesAV (dg 16 (j + 1) u)))) := hL.set _ hlo
    generalize (t.set m (.obj (List.replicate (64 - j) (.int .u8 0) ++ bytesAV (dg 16 (j + 1) u)))) = t2 at hm2 hL2 ⊢
    refine h1 _ _ ?_
    try clear h1 K_h1
    refine T.gh (Gh.keep [3, 4, 10, 12, 13]) ?_
    show T _ _ _ _ ([.any, .any, .any, .bool false, .bool false, .any, .any, .any, .any, .any, .sl [] .nil, .any, .ptr m 0, .int .i64 ((64 - j : Nat) : Int)] ++ List.replicate 88 .any) t2
    refine T.seq_k (fun K_h1 h1 => ?_)
    refine T.seq_k (fun K_h0 h0 => ?_)
    refine T.regi hm ?_
    simp only [↓reduceIte, namesOf, List.any, I.names, aopsI, astep, ev, setd, List.set, List.getD, List.getElem?_cons_zero, List.getElem?_cons_succ, List.cons_append, List.nil_append, List.replicate, then_normal, Option.getD_some, Bool.or_false, Bool.false_eq_true, up_zero]
    refine h0 _ _ ?_
    try clear h0 K_h0
    refine T.cond rfl (fun h => by cases h) (fun _ => T.skip ?_)
    refine h1 _ _ ?_
    try clear h1 K_h1
    refine T.seq_k (fun K_h1 h1 => ?_)
    refine T.seq_k (fun K_h0 h0 => ?_)
    refine T.regi hm ?_
    simp only [↓reduceIte, namesOf, List.any, I.names, aopsI, astep, ev, setd, List.set, List.getD, List.getElem?_cons_zero, List.getElem?_cons_succ, then_normal, Option.getD_some, Bool.or_false, Bool.false_eq_true, up_zero]
    refine h0 _ _ ?_
    try clear h0 K_h0
    refine T.cond rfl (fun h => by cases h) (fun _ => T.skip ?_)
    refine h1 _ _ ?_
    try clear h1 K_h1
    have j1 : (((65 : Nat) : Int) - ((64 - j : Nat) : Int)).toNat = j + 1 := by omega
    have j2 : 64 - j + (j + 1) ≤ (List.replicate (64 - j) (AV.int .u8 0) ++ bytesAV (dg 16 (j + 1) u)).length := by rw [List.length_append, List.length_replicate, bytesAV_len, dg_len]; omega
    have j3 : ((List.replicate (64 - j) (AV.int .u8 0) ++ bytesAV (dg 16 (j + 1) u)).drop (64 - j)).take (j + 1) = bytesAV (dg 16 (j + 1) u) := by
      rw [List.drop_append_of_le_length (by simp), List.drop_of_length_le (by simp), List.nil_append, List.take_of_length_le (by rw [bytesAV_len, dg_len]; omega)]
    refine T.seq_k (fun K_h0 h0 => ?_)
    refine T.regi hm ?_
    simp only [↓reduceIte, namesOf, List.any, I.names, aopsI, astep, ev, setd, List.set, List.getD, List.getElem?_cons_zero, List.getElem?_cons_succ, then_normal, Option.getD_some, Bool.or_false, Bool.false_eq_true, up_zero, ↓opt_def, Int.natCast_nonneg, Int.toNat_natCast, idx, i1, j1, j2, j3, hm2, Int.le_refl, and_self, Nat.zero_add, Nat.mul_one, toBytes_bytes]
    refine h0 _ _ ?_
    try clear h0 K_h0
    exact T.ret (Fin.quiet rfl ⟨⟨trivial, trivial⟩, trivial, trivial⟩ (hL2.quiet wf) ⟨⟨j + 1, by omega, by omega, by
      have h2 := Nat.div_add_mod u (16 ^ j)
      have h3 := Nat.mod_lt u (Nat.pow_pos (n := j) (show 0 < 16 by omega))
      rw [hx] at h2
      rw [Nat.pow_succ]
      have h4 : 16 ^ j * x ≤ 16 ^ j * 15 := Nat.mul_le_mul_left _ (by omega)
      omega, rfl⟩, rfl⟩)
  have hj15 : j < 15 := by
    rcases Nat.lt_or_ge j 15 with h | h
    · exact h
    · exfalso
      have : j = 15 := by omega
      subst this
      have : u / 16 ^ 15 < 16 := Nat.div_lt_of_lt_mul (by rw [← Nat.pow_succ]; exact hu)
      omega
  have f1 : decide ((x : Int) ≥ 16) = true := decide_eq_true (by omega)
  refine T.seq_k (fun K_h0 h0 => ?_)
  refine T.regi hm ?_
  simp only [↓reduceIte, namesOf, List.any, I.names, aopsI, astep, ev, setd, List.set, List.getD, List.getElem?_cons_zero, List.getElem?_cons_succ, List.cons_append, List.nil_append, List.replicate, then_normal, Option.getD_some, Bool.or_false, Bool.false_eq_true, up_zero, binv, ↓opt_def, eq_self, f1]
  refine h0 _ _ ?_
  try clear h0 K_h0
  refine T.cond rfl (fun _ => T.skip ?_) (fun h => by cases h)
  refine h3 _ _ ?_
  try clear h3 K_h3
  refine T.block ?_
  refine T.seq_k (fun K_h0 h0 => ?_)
  refine T.regi hm ?_
  simp only [↓reduceIte, namesOf, List.any, I.names, aopsI, astep, ev, setd, List.set, List.getD, List.getElem?_cons_zero, List.getElem?_cons_succ, List.cons_append, List.nil_append, List.replicate, then_normal, Option.getD_some, Bool.or_false, Bool.false_eq_true, up_zero, binv, ↓opt_def, eq_self, hw]
  refine h0 _ _ ?_
  try clear h0 K_h0
  refine T.seq_k (fun K_h0 h0 => ?_)
  refine T.regi hm ?_
  simp only [↓reduceIte, namesOf, List.any, I.names, aopsI, astep, ev, setd, List.set, List.getD, List.getElem?_cons_zero, List.getElem?_cons_succ, List.cons_append, List.nil_append, List.length_cons, List.length_nil, List.replicate, then_normal, Option.getD_some, Bool.or_false, Bool.false_eq_true, up_zero, binv, ↓opt_def, AV.isAny, AV.cells, Int.natCast_nonneg, Int.toNat_natCast, eq_self, decide_true, u64_and15 hxu, i1, i2, hdd, hob, hlen, hsp, AV.fits, AV.one, List.all_cons, List.all_nil, Nat.reduceBEq, Bool.not_false, Bool.and_self, Nat.zero_add, Nat.mul_one, and_self]
  refine h0 _ _ ?_
  try clear h0 K_h0
  refine T.regi hm ?_
  simp only [↓reduceIte, namesOf, List.any, I.names, aopsI, astep, ev, setd, List.set, List.getD, List.getElem?_cons_zero, List.getElem?_cons_succ, List.cons_append, List.nil_append, List.replicate, then_normal, inBlock_normal, Option.getD_some, Bool.or_false, Bool.false_eq_true, up_zero, binv, ↓opt_def, eq_self, u64_shr4, s4]
  try simp only [↓reduceIte, namesOf, List.any, I.names, aops, aopsI, aopsT, qstep, CPt, qget, Tbl.get, astep, ev, setd, List.set, List.getD, List.getElem?_cons_zero, List.getElem?_cons_succ, List.getElem?_nil, List.cons_append, List.nil_append, List.length_cons, List.length_nil, List.replicate, then_normal, inBlock_normal, Option.getD_some, Option.getD_none, Bool.or_false, Bool.or_true, Bool.true_or, Bool.false_or, Bool.false_eq_true, if_false, if_true, up_zero, Nat.reduceAdd, Nat.reduceSub, binv, ↓opt_def, AV.isAny, AV.cells, ldc, List.map_cons, List.map_nil, St.set_next, St.set_same, St.up_next, Int.natCast_nonneg, lt_len, le_len, Int.toNat_natCast, true_and, and_true, eq_self, reduceCtorEq, decide_true, List.length_singleton, er_int, er_bool, er_str, srcR, inBlock_normal]
  refine ⟨hj15, _, _, Gh.keep [0, 1, 2, 3, 4, 10, 12, 13, 14, 15, 16], hL.set _ hlo, hlt, ?_, ?_⟩
  · rw [St.set_same, show 65 - (j + 1) = 64 - j by omega]
  · rw [hnext, show 65 - (j + 1) = 64 - j by omega]; rfl

end Go.VL

namespace Go.VL

open Go.Proofs

/-- a span -/
structure Sp where
  tr : Nat
  id : Nat
  st : Int
  en : Int
  da : List UInt8
  deriving DecidableEq

def Sp.av (s : Sp) : AV := .agg [.int .u64 (s.tr : Int), .int .u64 (s.id : Int), .int .i64 s.st, .int .i64 s.en, .sl (bytesAV s.da) .none]

/-- a trace -/
structure Tc where
  id : Nat
  sp : List Sp
  deriving DecidableEq

def Tc.av (t : Tc) : AV := .agg [.int .u64 (t.id : Int), .sl (t.sp.map Sp.av) .none]

end Go.VL

namespace Go.VL

open Go.Proofs

def fts (P : Program) (t : TypeId) : Option (List TypeId) := match P.underlying t with
  | some (.struct fs) => some (fs.toList.map (·.type))
  | _ => none

def HasTs (P : Program) (n : Nat) : List TypeId → List AV → Prop
  | [], xs => xs = []
  | t :: r, xs => ∃ ys zs, xs = ys ++ zs ∧ HasT P n t ys ∧ HasTs P n r zs

theorem hasTs_of {P : Program} {n : Nat} : ∀ {fs : List Field} {xs : List AV}, HasF P n fs xs → HasTs P n (fs.map (·.type)) xs
  | [], xs, h => by rw [hasF_nil] at h; exact h
  | f :: r, xs, h => by
    rw [hasF_cons] at h
    obtain ⟨ys, zs, e, h1, h2⟩ := h
    exact ⟨ys, zs, e, h1, hasTs_of h2⟩

theorem has_fields {P : Program} {n : Nat} {t : TypeId} {ts : List TypeId} {y : AV} (hf : fts P t = some ts) (h : HasE P (n + 1) t y) : ∃ zs, y = .agg zs ∧ HasTs P n ts zs := by
  unfold fts at hf
  split at hf
  · rename_i fs hu
    simp only [Option.some.injEq] at hf; subst hf
    rw [hasE_iff] at h
    obtain ⟨h1, h2, _⟩ := h
    obtain ⟨zs, rfl⟩ := h2 (by unfold isStruct; rw [hu])
    rw [hasT_succ, hu] at h1
    exact ⟨zs, rfl, hasTs_of h1⟩
  · cases hf

theorem hasT_int {P : Program} {n : Nat} {t : TypeId} {k : IntKind} {xs : List AV} (hu : P.underlying t = some (.int k)) (h : HasT P (n + 1) t xs) : ∃ m, xs = [.int k m] ∧ k.min ≤ m ∧ m ≤ k.max := by
  rw [hasT_succ, hu] at h; exact h

theorem u64_nat {m : Int} (h1 : IntKind.u64.min ≤ m) (h2 : m ≤ IntKind.u64.max) : ∃ n : Nat, m = (n : Int) ∧ n < 18446744073709551616 := by
  have h1' : 0 ≤ m := h1
  have h2' : m ≤ 18446744073709551615 := h2
  exact ⟨m.toNat, by omega, by omega⟩

end Go.VL

namespace Go.Proofs.YtnifkggcldalbaaDoor

open Go.RowKit Go.VL

theorem own : ownKnob Tryd.prog.godebug = none := by kernel_rfl

theorem laidOut : laidOutB Tryd.prog = true := by kernel_rfl

end Go.Proofs.YtnifkggcldalbaaDoor

namespace Go.VL

open Go.Proofs

/-- a span whose numbers fit -/
def Sp.ok (s : Sp) : Prop := s.tr < 18446744073709551616 ∧ s.id < 18446744073709551616 ∧ (-9223372036854775808 ≤ s.st ∧ s.st ≤ 9223372036854775807) ∧ (-9223372036854775808 ≤ s.en ∧ s.en ≤ 9223372036854775807) ∧ s.da.length ≤ 9223372036854775807

def Tc.ok (t : Tc) : Prop := t.id < 18446744073709551616 ∧ t.sp.length ≤ 9223372036854775807 ∧ ∀ s ∈ t.sp, s.ok

theorem u8_of {m : Int} (h1 : IntKind.u8.min ≤ m) (h2 : m ≤ IntKind.u8.max) : ∃ d : UInt8, m = (d.toNat : Int) := by
  have a : (0 : Int) ≤ m := h1
  have b : m ≤ 255 := h2
  refine ⟨UInt8.ofNat m.toNat, ?_⟩
  rw [UInt8.toNat_ofNat']
  omega

end Go.VL

namespace Go.VL

open Go.RowKit Go.Proofs

def deBZ : List Int := [0, 1, 56, 2, 57, 49, 28, 3, 61, 58, 42, 50, 38, 29, 17, 4, 62, 47, 59, 36, 45, 43, 51, 22, 53, 39, 33, 30, 24, 18, 12, 5, 63, 55, 48, 27, 60, 41, 37, 16, 46, 35, 44, 21, 52, 32, 23, 11, 54, 26, 40, 15, 34, 20, 31, 10, 25, 14, 19, 9, 13, 8, 7, 6]

def powZ : List Int := (List.range 20).map fun i => ((10 ^ i : Nat) : Int)

theorem pow_eq : pow10L = powZ.map (AV.int .u64) := by unfold pow10L powZ; rw [List.map_map]; rfl

theorem vs_tab {κ : Kx} {w : World} {b : Nat} {k : IntKind} : ∀ (zs : List Int) (o : Nat), (∀ i, i < zs.length → w.cell? ⟨b, o + i, none⟩ = some (.int k (zs.getD i 0))) → (∀ i, κ.I b i) → Vs κ w b o (zs.map (AV.int k))
  | [], o, _, _ => .nil _ _
  | z :: zs, o, h, hI => .cons _ _ _ _ _ (hI o) (by have := h 0 (by simp); simpa using this) (.int k z) (vs_tab zs (o + 1) (fun i hi => by have := h (i + 1) (by simpa using hi); rw [show o + 1 + i = o + (i + 1) by omega]; simpa using this) hI)

section

variable {H : Type} {enc : TypeId × Value → H} {P : Program} {W : World}

def TabsW (W : World) : Prop := (∀ i, i < powZ.length → W.cell? ⟨g_pow10, i, none⟩ = some (.int .u64 (powZ.getD i 0))) ∧ (∀ i, i < deBZ.length → W.cell? ⟨g_deB64, i, none⟩ = some (.int .u8 (deBZ.getD i 0)))

theorem cell_lt {b i : Nat} {v : Value} (h : W.cell? ⟨b, i, none⟩ = some v) : b < W.heap.size := by
  rcases Nat.lt_or_ge b W.heap.size with h1 | h1
  · exact h1
  · simp [World.cell?, Array.getElem?_eq_none h1] at h

end

end Go.VL

namespace Go.Proofs.YtnifkggcldalbaaDoor

open Go.ChangeShapes Go.WideShapes Go.ChangeAt Go.RowKit Go.VL

theorem p10_at : Tryd.prog.globalNamed "internal/strconv.uint64pow10" = some g_pow10 := by kernel_rfl

theorem d64_at : Tryd.prog.globalNamed "math/bits.deBruijn64tab" = some g_deB64 := by kernel_rfl

theorem p10_ty : (Tryd.prog.globals[g_pow10]?).map (·.type) = some t_a20 := by kernel_rfl

theorem d64_ty : (Tryd.prog.globals[g_deB64]?).map (·.type) = some t_a64 := by kernel_rfl

theorem a20_un : Tryd.prog.underlying t_a20 = some (.array 20 t_u64) := by kernel_rfl

theorem a64_un : Tryd.prog.underlying t_a64 = some (.array 64 t_u8) := by kernel_rfl

theorem u64_un : Tryd.prog.underlying t_u64 = some (.int .u64) := by kernel_rfl

theorem u8_un : Tryd.prog.underlying t_u8 = some (.int .u8) := by kernel_rfl

end Go.Proofs.YtnifkggcldalbaaDoor

namespace Go.VL

open Go.Proofs

/-- a number's text, with as many digits as it may have -/
def Writ (b n most : Nat) (v : AV) : Prop := ∃ k, 1 ≤ k ∧ k ≤ most ∧ n < b ^ k ∧ v = .str ⟨(dg b k n).toArray⟩

theorem small1 (n : Nat) (h : n < 10) : sDig36.extract n (n + 1) = ⟨(dg 10 1 n).toArray⟩ := by
  have : ∀ n : Nat, n < 10 → sDig36.extract n (n + 1) = ⟨(dg 10 1 n).toArray⟩ := by decide +kernel
  exact this n h

theorem small2 (n : Nat) (h : n < 100) : sSmalls.extract (n * 2) (n * 2 + 2) = ⟨(dg 10 2 n).toArray⟩ := by
  have : ∀ n : Nat, n < 100 → sSmalls.extract (n * 2) (n * 2 + 2) = ⟨(dg 10 2 n).toArray⟩ := by decide +kernel
  exact this n h

theorem ismall_ok {n : Nat} {σ : St} (hn : n < 100) : ACalls Tryd.prog n_ismall [.int .i64 (n : Int)] σ (fun v σ' => Writ 10 n 3 v ∧ σ' = σ) := by
  refine s_ismall (fun wf => ?_)
  unfold c_ismall
  refine T.seq_k (fun K_h0 h0 => ?_)
  refine T.regi hm ?_
  simp only [↓reduceIte, namesOf, List.any, I.names, aopsI, astep, ev, setd, List.set, List.cons_append, List.nil_append, List.length_cons, List.length_nil, List.replicate, then_normal, Bool.or_false, Bool.false_eq_true, up_zero, Nat.reduceAdd, Nat.reduceSub]
  refine h0 _ _ ?_
  try clear h0 K_h0
  refine T.seq_k (fun K_h1 h1 => ?_)
  by_cases h10 : n < 10
  · have f1 : decide ((n : Int) < 10) = true := decide_eq_true (by omega)
    have w1 : IntKind.i64.wrap ((n : Int) + 1) = ((n + 1 : Nat) : Int) := by rw [wrap64 (by omega) (by omega)]; omega
    have i1 : (n : Int) ≤ ((n + 1 : Nat) : Int) := by omega
    have i2 : ((n + 1 : Nat) : Int) ≤ (sDig36.size : Int) := by rw [sDig36_size]; omega
    refine T.seq_k (fun K_h0 h0 => ?_)
    refine T.regi hm ?_
    simp only [↓reduceIte, namesOf, List.any, I.names, aopsI, astep, ev, setd, List.set, List.getD, List.getElem?_cons_zero, List.getElem?_cons_succ, then_normal, Option.getD_some, Bool.or_false, Bool.false_eq_true, up_zero, binv, ↓opt_def, eq_self, f1]
    refine h0 _ _ ?_
    try clear h0 K_h0
    refine T.cond rfl (fun _ => ?_) (fun h => by cases h)
    refine T.seq_k (fun K_h0 h0 => ?_)
    refine T.regi hm ?_
    simp only [↓reduceIte, namesOf, List.any, I.names, aopsI, astep, ev, setd, List.set, List.getD, List.getElem?_cons_zero, List.getElem?_cons_succ, then_normal, Option.getD_some, Bool.or_false, Bool.false_eq_true, up_zero, binv, ↓opt_def, Int.natCast_nonneg, Int.toNat_natCast, eq_self, w1, idx, i1, i2, and_self, small1 n h10]
    refine h0 _ _ ?_
    try clear h0 K_h0
    exact T.ret (Fin.ret rfl ⟨⟨1, by omega, by omega, by omega, rfl⟩, rfl⟩)
  have f1 : decide ((n : Int) < 10) = false := decide_eq_false (by omega)
  have w1 : IntKind.i64.wrap ((n : Int) * 2) = ((n * 2 : Nat) : Int) := by rw [wrap64 (by omega) (by omega)]; omega
  have w2 : IntKind.i64.wrap (((n * 2 : Nat) : Int) + 2) = ((n * 2 + 2 : Nat) : Int) := by rw [wrap64 (by omega) (by omega)]; omega
  have i1 : ((n * 2 : Nat) : Int) ≤ ((n * 2 + 2 : Nat) : Int) := by omega
  have i2 : ((n * 2 + 2 : Nat) : Int) ≤ (sSmalls.size : Int) := by rw [sSmalls_size]; omega
  refine T.seq_k (fun K_h0 h0 => ?_)
  refine T.regi hm ?_
  simp only [↓reduceIte, namesOf, List.any, I.names, aopsI, astep, ev, setd, List.set, List.getD, List.getElem?_cons_zero, List.getElem?_cons_succ, then_normal, Option.getD_some, Bool.or_false, Bool.false_eq_true, up_zero, binv, ↓opt_def, eq_self, f1]
  refine h0 _ _ ?_
  try clear h0 K_h0
  refine T.cond rfl (fun h => by cases h) (fun _ => T.skip ?_)
  refine h1 _ _ ?_
  try clear h1 K_h1
  refine T.seq_k (fun K_h0 h0 => ?_)
  refine T.regi hm ?_
  simp only [↓reduceIte, namesOf, List.any, I.names, aopsI, astep, ev, setd, List.set, List.getD, List.getElem?_cons_zero, List.getElem?_cons_succ, then_normal, Option.getD_some, Bool.or_false, Bool.false_eq_true, up_zero, binv, ↓opt_def, Int.natCast_nonneg, Int.toNat_natCast, eq_self, w1, w2, idx, i1, i2, and_self, small2 n hn]
  refine h0 _ _ ?_
  try clear h0 K_h0
  exact T.ret (Fin.ret rfl ⟨⟨2, by omega, by omega, by omega, rfl⟩, rfl⟩)

set_option maxRecDepth 100000 in
theorem len8_get (n : Nat) (h : n < 256) : sLen8.data.toList[n]? = some (sLen8.data.toList.getD n 0) := by
  have hl : n < sLen8.data.toList.length := by rw [show sLen8.data.toList.length = 256 from rfl]; exact h
  rw [List.getD_eq_getElem?_getD, List.getElem?_eq_getElem hl]; rfl

def lenN (n : Nat) : Nat := if n < 256 then (sLen8.data.toList.getD n 0).toNat else 8 + (sLen8.data.toList.getD (n / 256) 0).toNat

theorem lenN_log : ∀ n : Nat, n < 1000 → 100 ≤ n → lenN n * 78913 / 262144 = if n < 512 then 2 else 3 := by decide +kernel

theorem lenN_le : ∀ n : Nat, n < 1000 → lenN n ≤ 64 := by decide +kernel

theorem len64_ok {n : Nat} {σ : St} (hn : n < 1000) : ACalls Tryd.prog n_len64 [.int .u64 (n : Int)] σ (fun v σ' => v = .int .i64 (lenN n : Int) ∧ σ' = σ) := by
  refine s_len64 (fun wf => ?_)
  unfold c_len64
  have f1 : decide ((n : Int) ≥ 4294967296) = false := decide_eq_false (by omega)
  have f2 : decide ((n : Int) ≥ 65536) = false := decide_eq_false (by omega)
  refine T.seq_k (fun K_h0 h0 => ?_)
  refine T.regi hm ?_
  simp only [↓reduceIte, namesOf, List.any, I.names, aopsI, astep, ev, setd, List.set, List.cons_append, List.nil_append, List.length_cons, List.length_nil, List.replicate, then_normal, Bool.or_false, Bool.false_eq_true, up_zero, Nat.reduceAdd, Nat.reduceSub]
  refine h0 _ _ ?_
  try clear h0 K_h0
  refine T.seq_k (fun K_h1 h1 => ?_)
  refine T.seq_k (fun K_h0 h0 => ?_)
  refine T.regi hm ?_
  simp only [↓reduceIte, namesOf, List.any, I.names, aopsI, astep, ev, setd, List.set, List.getD, List.getElem?_cons_zero, List.getElem?_cons_succ, then_normal, Option.getD_some, Bool.or_false, Bool.false_eq_true, up_zero, binv, ↓opt_def, eq_self, f1]
  refine h0 _ _ ?_
  try clear h0 K_h0
  refine T.cond rfl (fun h => by cases h) (fun _ => T.skip ?_)
  refine h1 _ _ ?_
  try clear h1 K_h1
  refine T.seq_k (fun K_h1 h1 => ?_)
  refine T.seq_k (fun K_h0 h0 => ?_)
  refine T.regi hm ?_
  simp only [↓reduceIte, namesOf, List.any, I.names, aopsI, astep, ev, setd, List.set, List.getD, List.getElem?_cons_zero, List.getElem?_cons_succ, then_normal, Option.getD_some, Bool.or_false, Bool.false_eq_true, up_zero, binv, ↓opt_def, eq_self, f2]
  refine h0 _ _ ?_
  try clear h0 K_h0
  refine T.cond rfl (fun h => by cases h) (fun _ => T.skip ?_)
  refine h1 _ _ ?_
  try clear h1 K_h1
  refine T.seq_k (fun K_h1 h1 => ?_)
  have key : ∀ (q b : Nat) (ρ' : List AV), q < 256 → b + (sLen8.data.toList.getD q 0).toNat = lenN n → keep [0, 2] 0 ρ' = [.int .u64 (q : Int), .any, .int .i64 (b : Int)] ++ List.replicate 22 .any → K_h1 ρ' σ := by
    intro q b ρ' hq hb hk
    have hle := lenN_le n hn
    refine h1 _ _ ?_
    refine T.gh (Gh.keep [0, 2]) ?_
    rw [hk]
    have w1 : IntKind.u8.wrap (q : Int) = (q : Int) := by simp [IntKind.wrap, IntKind.bits, IntKind.signed]; omega
    have i1 : (q : Int) < (sLen8.size : Int) := by rw [sLen8_size]; omega
    have hg := len8_get q hq
    have hb8 := (sLen8.data.toList.getD q 0).toNat_lt
    generalize sLen8.data.toList.getD q 0 = x at hg hb hb8
    have w2 : IntKind.i64.wrap ((x.toNat : Nat) : Int) = ((x.toNat : Nat) : Int) := wrap64 (by omega) (by omega)
    have w3 : IntKind.i64.wrap ((b : Int) + ((x.toNat : Nat) : Int)) = (lenN n : Int) := by rw [wrap64 (by omega) (by omega)]; omega
    refine T.seq_k (fun K_h0 h0 => ?_)
    refine T.regi hm ?_
    simp only [↓reduceIte, namesOf, List.any, I.names, aopsI, astep, ev, setd, List.set, List.getD, List.getElem?_cons_zero, List.getElem?_cons_succ, List.cons_append, List.nil_append, List.replicate, then_normal, Option.getD_some, Bool.or_false, Bool.false_eq_true, up_zero, binv, ↓opt_def, Int.natCast_nonneg, Int.toNat_natCast, eq_self, w1, i1, hg, w2, w3, and_self]
    refine h0 _ _ ?_
    try clear h0 K_h0
    exact T.ret (Fin.ret rfl ⟨rfl, rfl⟩)
  by_cases h256 : n < 256
  · have f3 : decide ((n : Int) ≥ 256) = false := decide_eq_false (by omega)
    refine T.seq_k (fun K_h0 h0 => ?_)
    refine T.regi hm ?_
    simp only [↓reduceIte, namesOf, List.any, I.names, aopsI, astep, ev, setd, List.set, List.getD, List.getElem?_cons_zero, List.getElem?_cons_succ, then_normal, Option.getD_some, Bool.or_false, Bool.false_eq_true, up_zero, binv, ↓opt_def, eq_self, f3]
    refine h0 _ _ ?_
    try clear h0 K_h0
    refine T.cond rfl (fun h => by cases h) (fun _ => T.skip ?_)
    exact key n 0 _ h256 (by unfold lenN; rw [if_pos h256]; omega) rfl
  · have f3 : decide ((n : Int) ≥ 256) = true := decide_eq_true (by omega)
    have s8 : ¬ ((8 : Int) < 0) := by decide
    have e8 : Int.fdiv (n : Int) (2 ^ min (8 : Int).toNat IntKind.u64.bits) = ((n / 256 : Nat) : Int) := u64_shr n 8 (by omega)
    have w8 : IntKind.i64.wrap (0 + 8) = ((8 : Nat) : Int) := by decide
    refine T.seq_k (fun K_h0 h0 => ?_)
    refine T.regi hm ?_
    simp only [↓reduceIte, namesOf, List.any, I.names, aopsI, astep, ev, setd, List.set, List.getD, List.getElem?_cons_zero, List.getElem?_cons_succ, then_normal, Option.getD_some, Bool.or_false, Bool.false_eq_true, up_zero, binv, ↓opt_def, eq_self, f3]
    refine h0 _ _ ?_
    try clear h0 K_h0
    refine T.cond rfl (fun _ => ?_) (fun h => by cases h)
    refine T.seq_k (fun K_h0 h0 => ?_)
    refine T.regi hm ?_
    simp only [↓reduceIte, namesOf, List.any, I.names, aopsI, astep, ev, setd, List.set, List.getD, List.getElem?_cons_zero, List.getElem?_cons_succ, then_normal, Option.getD_some, Bool.or_false, Bool.false_eq_true, up_zero, binv, ↓opt_def, eq_self, s8, e8]
    refine h0 _ _ ?_
    try clear h0 K_h0
    refine T.regi hm ?_
    simp only [↓reduceIte, namesOf, List.any, I.names, aopsI, astep, ev, setd, List.set, List.getD, List.getElem?_cons_zero, List.getElem?_cons_succ, then_normal, Option.getD_some, Bool.or_false, Bool.false_eq_true, up_zero, binv, ↓opt_def, eq_self, w8]
    exact key (n / 256) 8 _ (by omega) (by unfold lenN; rw [if_neg h256]) rfl

theorem l10p2_ok {x : Nat} {σ : St} (hx : x ≤ 64) : ACalls Tryd.prog n_l10p2 [.int .i64 (x : Int)] σ (fun v σ' => v = .int .i64 ((x * 78913 / 262144 : Nat) : Int) ∧ σ' = σ) := by
  refine s_l10p2 (fun wf => ?_)
  unfold c_l10p2
  have w1 : IntKind.i64.wrap ((x : Int) * 78913) = ((x * 78913 : Nat) : Int) := by rw [wrap64 (by omega) (by omega)]; omega
  have s1 : ¬ ((18 : Int) < 0) := by decide
  have e1 : Int.fdiv ((x * 78913 : Nat) : Int) (2 ^ min (18 : Int).toNat IntKind.i64.bits) = ((x * 78913 / 262144 : Nat) : Int) := u64_shr (x * 78913) 18 (by omega)
  refine T.seq_k (fun K_h0 h0 => ?_)
  refine T.regi hm ?_
  simp only [↓reduceIte, namesOf, List.any, I.names, aopsI, astep, ev, setd, List.set, List.cons_append, List.nil_append, List.length_cons, List.length_nil, List.replicate, then_normal, Bool.or_false, Bool.false_eq_true, up_zero, Nat.reduceAdd, Nat.reduceSub]
  refine h0 _ _ ?_
  try clear h0 K_h0
  refine T.seq_k (fun K_h0 h0 => ?_)
  refine T.regi hm ?_
  simp only [↓reduceIte, namesOf, List.any, I.names, aopsI, astep, ev, setd, List.set, List.getD, List.getElem?_cons_zero, List.getElem?_cons_succ, then_normal, Option.getD_some, Bool.or_false, Bool.false_eq_true, up_zero, binv, ↓opt_def, eq_self, w1, s1, e1]
  refine h0 _ _ ?_
  try clear h0 K_h0
  exact T.ret (Fin.ret rfl ⟨rfl, rfl⟩)

theorem bool2i_ok {b : Bool} {σ : St} : ACalls Tryd.prog n_bool2i [.bool b] σ (fun v σ' => v = .int .i64 (if b then 1 else 0) ∧ σ' = σ) := by
  refine s_bool2i (fun wf => ?_)
  unfold c_bool2i
  refine T.seq_k (fun K_h0 h0 => ?_)
  refine T.regi hm ?_
  simp only [↓reduceIte, namesOf, List.any, I.names, aopsI, astep, ev, setd, List.set, List.cons_append, List.nil_append, List.length_cons, List.length_nil, List.replicate, then_normal, Bool.or_false, Bool.false_eq_true, up_zero, Nat.reduceAdd, Nat.reduceSub]
  refine h0 _ _ ?_
  try clear h0 K_h0
  refine T.seq_k (fun K_h1 h1 => ?_)
  cases b with
  | true =>
    refine T.seq_k (fun K_h0 h0 => ?_)
    refine T.regi hm ?_
    simp only [↓reduceIte, namesOf, List.any, I.names, aopsI, astep, ev, setd, List.set, List.getD, List.getElem?_cons_zero, then_normal, Option.getD_some, Bool.or_false, Bool.false_eq_true, up_zero, eq_self]
    refine h0 _ _ ?_
    try clear h0 K_h0
    refine T.cond rfl (fun _ => ?_) (fun h => by cases h)
    refine T.seq_k (fun K_h0 h0 => ?_)
    refine T.regi hm ?_
    simp only [↓reduceIte, namesOf, List.any, I.names, aopsI, astep, ev, setd, List.set, then_normal, Bool.or_false, Bool.false_eq_true, up_zero, eq_self]
    refine h0 _ _ ?_
    try clear h0 K_h0
    exact T.ret (Fin.ret rfl ⟨rfl, rfl⟩)
  | false =>
    refine T.seq_k (fun K_h0 h0 => ?_)
    refine T.regi hm ?_
    simp only [↓reduceIte, namesOf, List.any, I.names, aopsI, astep, ev, setd, List.set, List.getD, List.getElem?_cons_zero, then_normal, Option.getD_some, Bool.or_false, Bool.false_eq_true, up_zero]
    refine h0 _ _ ?_
    try clear h0 K_h0
    refine T.cond rfl (fun h => by cases h) (fun _ => T.skip ?_)
    refine h1 _ _ ?_
    try clear h1 K_h1
    refine T.seq_k (fun K_h0 h0 => ?_)
    refine T.regi hm ?_
    simp only [↓reduceIte, namesOf, List.any, I.names, aopsI, astep, ev, setd, List.set, then_normal, Bool.or_false, Bool.false_eq_true, up_zero]
    refine h0 _ _ ?_
    try clear h0 K_h0
    exact T.ret (Fin.ret rfl ⟨rfl, rfl⟩)

theorem numd_ok {n : Nat} {σ : St} (hT : Tabs σ) (hge : 100 ≤ n) (hn : n < 1000) : ACalls Tryd.prog n_numd [.int .u64 (n : Int)] σ (fun v σ' => v = .int .i64 3 ∧ σ' = σ) := by
  refine s_numd (fun wf => ?_)
  unfold c_numd
  refine T.seq_k (fun K_h0 h0 => ?_)
  refine T.regi hm ?_
  simp only [↓reduceIte, namesOf, List.any, I.names, aopsI, astep, ev, setd, List.set, List.cons_append, List.nil_append, List.length_cons, List.length_nil, List.replicate, then_normal, Bool.or_false, Bool.false_eq_true, up_zero, Nat.reduceAdd, Nat.reduceSub]
  refine h0 _ _ ?_
  try clear h0 K_h0
  refine T.seq_k (fun K_h1 h1 => ?_)
  refine T.regi hm ?_
  simp only [↓reduceIte, namesOf, List.any, I.names, aopsI, astep, ev, setd, List.set, List.getD, List.getElem?_cons_zero, List.getElem?_cons_succ, then_normal, Option.getD_some, Bool.or_false, Bool.false_eq_true, up_zero, List.map_cons, List.map_nil]
  refine (len64_ok hn).mono ?_
  rintro v σ1 ⟨rfl, rfl⟩
  try simp only [↓reduceIte, namesOf, List.any, I.names, aops, aopsI, aopsT, qstep, CPt, qget, Tbl.get, astep, ev, setd, List.set, List.getD, List.getElem?_cons_zero, List.getElem?_cons_succ, List.getElem?_nil, List.cons_append, List.nil_append, List.length_cons, List.length_nil, List.replicate, then_normal, inBlock_normal, Option.getD_some, Option.getD_none, Bool.or_false, Bool.or_true, Bool.true_or, Bool.false_or, Bool.false_eq_true, if_false, if_true, up_zero, Nat.reduceAdd, Nat.reduceSub, binv, ↓opt_def, AV.isAny, AV.cells, ldc, List.map_cons, List.map_nil, St.set_next, St.set_same, St.up_next, Int.natCast_nonneg, lt_len, le_len, Int.toNat_natCast, true_and, and_true, eq_self, reduceCtorEq, decide_true, List.length_singleton, er_int, er_bool, er_str, srcR, up_zero]
  refine (l10p2_ok (lenN_le n hn)).mono ?_
  rintro v σ1 ⟨rfl, rfl⟩
  rw [lenN_log n hn hge]
  have hp := hT.p10
  obtain ⟨q, hq, hq2⟩ : ∃ q : Nat, (if n < 512 then 2 else 3) = q ∧ (q = 2 ∨ q = 3 ∧ 512 ≤ n) := ⟨_, rfl, by split; exact .inl rfl; exact .inr ⟨rfl, by omega⟩⟩
  rw [hq]
  clear hq
  have g1 : (q : Int) < ((20 : Nat) : Int) := by omega
  have g3 : q * 1 ≤ pow10L.length := by rw [show pow10L.length = 20 from rfl]; omega
  have g4 : (List.drop (q * 1) pow10L)[0]? = some (.int .u64 ((10 ^ q : Nat) : Int)) := by rcases hq2 with rfl | ⟨rfl, _⟩ <;> rfl
  have w1 : IntKind.i64.wrap ((q : Int) + (if decide ((n : Int) ≥ ((10 ^ q : Nat) : Int)) = true then 1 else 0)) = 3 := by
    rcases hq2 with rfl | ⟨rfl, _⟩
    · have : decide ((n : Int) ≥ ((10 ^ 2 : Nat) : Int)) = true := decide_eq_true (by omega)
      rw [this]; rfl
    · have : decide ((n : Int) ≥ ((10 ^ 3 : Nat) : Int)) = false := decide_eq_false (by omega)
      rw [this]; rfl
  try simp only [↓reduceIte, namesOf, List.any, I.names, aops, aopsI, aopsT, qstep, CPt, qget, Tbl.get, astep, ev, setd, List.set, List.getD, List.getElem?_cons_zero, List.getElem?_cons_succ, List.getElem?_nil, List.cons_append, List.nil_append, List.length_cons, List.length_nil, List.replicate, then_normal, inBlock_normal, Option.getD_some, Option.getD_none, Bool.or_false, Bool.or_true, Bool.true_or, Bool.false_or, Bool.false_eq_true, if_false, if_true, up_zero, Nat.reduceAdd, Nat.reduceSub, binv, ↓opt_def, AV.isAny, AV.cells, ldc, List.map_cons, List.map_nil, St.set_next, St.set_same, St.up_next, Int.natCast_nonneg, lt_len, le_len, Int.toNat_natCast, true_and, and_true, eq_self, reduceCtorEq, decide_true, List.length_singleton, er_int, er_bool, er_str, srcR, up_zero]
  refine h1 _ _ ?_
  try clear h1 K_h1
  refine T.seq_k (fun K_h1 h1 => ?_)
  refine T.regi hm ?_
  simp only [↓reduceIte, namesOf, List.any, I.names, aopsI, astep, ev, setd, List.set, List.getD, List.getElem?_cons_zero, List.getElem?_cons_succ, then_normal, Option.getD_some, Bool.or_false, Bool.false_eq_true, up_zero, binv, ↓opt_def, ldc, List.map_cons, List.map_nil, Int.natCast_nonneg, Int.toNat_natCast, eq_self, hp, g1, g3, g4, and_self]
  refine bool2i_ok.mono ?_
  rintro v σ1 ⟨rfl, rfl⟩
  try simp only [↓reduceIte, eq_self, w1]
  refine h1 _ _ ?_
  try clear h1 K_h1
  exact T.ret (Fin.ret rfl ⟨rfl, rfl⟩)

theorem sm_get (r : Nat) (h : r < 100) : sSmalls.data.toList[r * 2]? = some (dgc (r / 10)) ∧ sSmalls.data.toList[r * 2 + 1]? = some (dgc (r % 10)) := by
  have : ∀ r : Nat, r < 100 → sSmalls.data.toList[r * 2]? = some (dgc (r / 10)) ∧ sSmalls.data.toList[r * 2 + 1]? = some (dgc (r % 10)) := by decide +kernel
  exact this r h

theorem dg3 (n : Nat) (h : n < 1000) : dg 10 3 n = [dgc (n / 100), dgc (n % 100 / 10), dgc (n % 100 % 10)] := by
  have e1 : n / 10 % 10 = n % 100 / 10 := by omega
  have e2 : n % 10 = n % 100 % 10 := by omega
  have e3 : n / 10 / 10 % 10 = n / 100 := by omega
  show [] ++ [dgc (n / 10 / 10 % 10)] ++ [dgc (n / 10 % 10)] ++ [dgc (n % 10)] = _
  rw [e1, e2, e3]; rfl

theorem dgc10 (d : Nat) (h : d < 10) : ((dgc d).toNat : Int) = ((48 + d : Nat) : Int) := by
  have : ∀ d : Nat, d < 10 → (dgc d).toNat = 48 + d := by decide
  rw [this d h]

theorem u32w {n : Nat} (h : n < 4294967296) : IntKind.u32.wrap (n : Int) = (n : Int) := by
  simp [IntKind.wrap, IntKind.bits, IntKind.signed]; omega

set_option maxRecDepth 10000 in
set_option maxHeartbeats 1000000 in
theorem fb10_ok {m n : Nat} {σ : St} (hn : n < 1000) (hob : σ.res m = some (.obj (zeros 24 (.int .u8 0)))) :
    ACalls Tryd.prog n_fb10 [.ref m 0 3, .int .u64 (n : Int)] σ (fun v σ' => v = .tup [] ∧ σ' = σ.set m (.obj (bytesAV (dg 10 3 n) ++ zeros 21 (.int .u8 0)))) := by
  refine s_fb10 (fun wf => ?_)
  unfold c_fb10
  refine T.seq_k (fun K_h0 h0 => ?_)
  refine T.regi hm ?_
  simp only [↓reduceIte, namesOf, List.any, I.names, aopsI, astep, ev, setd, List.set, List.getD, List.getElem?_cons_zero, List.getElem?_cons_succ, List.cons_append, List.nil_append, List.length_cons, List.length_nil, List.replicate, then_normal, Option.getD_some, Bool.or_false, Bool.false_eq_true, up_zero, Nat.reduceAdd, Nat.reduceSub]
  refine h0 _ _ ?_
  try clear h0 K_h0
  refine T.seq_k (fun K_h1 h1 => ?_)
  refine T.block ?_
  refine T.gh (Gh.keep [0, 1, 4]) ?_
  refine T.loopi (fun j ρ t => t = σ ∧ ρ = [.ref m 0 3, .int .u64 (n : Int), .any, .any, .int .i64 ((3 : Nat) : Int)] ++ List.replicate 162 .any) 0 0 (Nat.le_refl _) ⟨rfl, rfl⟩ ?_
  rintro j ρ t hj ⟨rfl, rfl⟩
  refine T.seq_k (fun K_h2 h2 => ?_)
  have f1 : decide (((3 : Nat) : Int) ≥ 8) = false := rfl
  refine T.seq_k (fun K_h0 h0 => ?_)
  refine T.regi hm ?_
  simp only [↓reduceIte, namesOf, List.any, I.names, aopsI, astep, ev, setd, List.set, List.getD, List.getElem?_cons_zero, List.getElem?_cons_succ, List.cons_append, List.nil_append, List.replicate, then_normal, Option.getD_some, Bool.or_false, Bool.false_eq_true, up_zero, binv, ↓opt_def, eq_self, f1]
  refine h0 _ _ ?_
  try clear h0 K_h0
  refine T.cond rfl (fun h => by cases h) (fun _ => T.exit ?_)
  try simp only [List.cons_append, List.nil_append, List.replicate, then_normal, inBlock_exit, then_exit]
  refine h1 _ _ ?_
  try clear h1 K_h1
  have w1 : IntKind.u32.wrap (n : Int) = (n : Int) := u32w (by omega)
  refine T.seq_k (fun K_h0 h0 => ?_)
  refine T.regi hm ?_
  simp only [↓reduceIte, namesOf, List.any, I.names, aopsI, astep, ev, setd, List.set, List.getD, List.getElem?_cons_zero, List.getElem?_cons_succ, then_normal, Option.getD_some, Bool.or_false, Bool.false_eq_true, up_zero, w1]
  refine h0 _ _ ?_
  try clear h0 K_h0
  refine T.seq_k (fun K_h1 h1 => ?_)
  have f2 : decide (((3 : Nat) : Int) ≥ 4) = false := rfl
  refine T.seq_k (fun K_h0 h0 => ?_)
  refine T.regi hm ?_
  simp only [↓reduceIte, namesOf, List.any, I.names, aopsI, astep, ev, setd, List.set, List.getD, List.getElem?_cons_zero, List.getElem?_cons_succ, then_normal, Option.getD_some, Bool.or_false, Bool.false_eq_true, up_zero, binv, ↓opt_def, eq_self, f2]
  refine h0 _ _ ?_
  try clear h0 K_h0
  refine T.cond rfl (fun h => by cases h) (fun _ => T.skip ?_)
  refine h1 _ _ ?_
  try clear h1 K_h1
  refine T.seq_k (fun K_h1 h1 => ?_)
  have f3 : decide (((3 : Nat) : Int) ≥ 2) = true := rfl
  refine T.seq_k (fun K_h0 h0 => ?_)
  refine T.regi hm ?_
  simp only [↓reduceIte, namesOf, List.any, I.names, aopsI, astep, ev, setd, List.set, List.getD, List.getElem?_cons_zero, List.getElem?_cons_succ, then_normal, Option.getD_some, Bool.or_false, Bool.false_eq_true, up_zero, binv, ↓opt_def, eq_self, f3]
  refine h0 _ _ ?_
  try clear h0 K_h0
  refine T.cond rfl (fun _ => ?_) (fun h => by cases h)
  have z1 : ((100 : Int) = 0) = False := eq_false (by decide)
  have w2 : IntKind.u32.wrap (((n % 100 : Nat) : Int) * 2) = ((n % 100 * 2 : Nat) : Int) := by
    rw [show ((n % 100 : Nat) : Int) * 2 = ((n % 100 * 2 : Nat) : Int) by omega]; exact u32w (by omega)
  have m1 : (n : Int).tmod 100 = ((n % 100 : Nat) : Int) := tmodN n 100
  have m2 : (n : Int).tdiv 100 = ((n / 100 : Nat) : Int) := tdivN n 100
  have w3 : IntKind.u32.wrap ((n / 100 : Nat) : Int) = ((n / 100 : Nat) : Int) := u32w (by omega)
  refine T.seq_k (fun K_h0 h0 => ?_)
  refine T.regi hm ?_
  simp only [↓reduceIte, namesOf, List.any, I.names, aopsI, astep, ev, setd, List.set, List.getD, List.getElem?_cons_zero, List.getElem?_cons_succ, then_normal, Option.getD_some, Bool.or_false, Bool.false_eq_true, up_zero, binv, ↓opt_def, eq_self, z1, m1, w2]
  refine h0 _ _ ?_
  try clear h0 K_h0
  refine T.seq_k (fun K_h0 h0 => ?_)
  refine T.regi hm ?_
  simp only [↓reduceIte, namesOf, List.any, I.names, aopsI, astep, ev, setd, List.set, List.getD, List.getElem?_cons_zero, List.getElem?_cons_succ, then_normal, Option.getD_some, Bool.or_false, Bool.false_eq_true, up_zero, binv, ↓opt_def, eq_self, z1, m2, w3]
  refine h0 _ _ ?_
  try clear h0 K_h0
  have hr100 : n % 100 < 100 := Nat.mod_lt _ (by omega)
  obtain ⟨g1, g2⟩ := sm_get (n % 100) hr100
  have w4 : IntKind.u32.wrap (((n % 100 * 2 : Nat) : Int) + 1) = ((n % 100 * 2 + 1 : Nat) : Int) := by
    rw [show ((n % 100 * 2 : Nat) : Int) + 1 = ((n % 100 * 2 + 1 : Nat) : Int) by omega]; exact u32w (by omega)
  have i1 : ((n % 100 * 2 : Nat) : Int) < (sSmalls.size : Int) := by rw [sSmalls_size]; omega
  have i2 : ((n % 100 * 2 + 1 : Nat) : Int) < (sSmalls.size : Int) := by rw [sSmalls_size]; omega
  have v1 : IntKind.i64.wrap (((3 : Nat) : Int) - 1) = ((2 : Nat) : Int) := by decide
  have v2 : IntKind.i64.wrap (((3 : Nat) : Int) - 2) = ((1 : Nat) : Int) := by decide
  have k1 : ((2 : Nat) : Int) < ((3 : Nat) : Int) := by decide
  have k2 : ((1 : Nat) : Int) < ((3 : Nat) : Int) := by decide
  have k3 : (0 : Int) < ((3 : Nat) : Int) := by decide
  generalize hd1 : dgc (n % 100 / 10) = d1 at g1
  generalize hd0 : dgc (n % 100 % 10) = d0 at g2
  generalize hr : n % 100 * 2 = r at g1 g2 i1 i2 w2 w4 ⊢
  have z24 : (zeros 24 (AV.int .u8 0)).length = 24 := rfl
  have z21 : (zeros 21 (AV.int .u8 0)).length = 21 := rfl
  have p1 : splice (zeros 24 (AV.int .u8 0)) 2 [.int .u8 (d0.toNat : Int)] = .int .u8 0 :: .int .u8 0 :: .int .u8 (d0.toNat : Int) :: zeros 21 (.int .u8 0) := rfl
  have p2 : splice (AV.int .u8 0 :: .int .u8 0 :: .int .u8 (d0.toNat : Int) :: zeros 21 (.int .u8 0)) 1 [.int .u8 (d1.toNat : Int)] = .int .u8 0 :: .int .u8 (d1.toNat : Int) :: .int .u8 (d0.toNat : Int) :: zeros 21 (.int .u8 0) := rfl
  have p3 : ∀ y : AV, splice (AV.int .u8 0 :: .int .u8 (d1.toNat : Int) :: .int .u8 (d0.toNat : Int) :: zeros 21 (.int .u8 0)) 0 [y] = y :: .int .u8 (d1.toNat : Int) :: .int .u8 (d0.toNat : Int) :: zeros 21 (.int .u8 0) := fun _ => rfl
  refine T.seq_k (fun K_h0 h0 => ?_)
  refine T.regi hm ?_
  simp only [↓reduceIte, namesOf, List.any, I.names, aopsI, astep, ev, setd, List.set, List.getD, List.getElem?_cons_zero, List.getElem?_cons_succ, List.length_cons, List.length_nil, then_normal, Option.getD_some, Bool.or_false, Bool.false_eq_true, up_zero, Nat.reduceAdd, binv, ↓opt_def, AV.isAny, AV.cells, St.set_same, Int.natCast_nonneg, Int.toNat_natCast, eq_self, decide_true, w4, i1, i2, g1, g2, v1, v2, k1, k2, hob, z24, z21, p1, p2, AV.fits, AV.one, List.all_cons, List.all_nil, Nat.reduceBEq, Bool.not_false, Bool.and_self, Nat.zero_add, Nat.mul_one, Nat.reduceLeDiff, and_self, St.set_set]
  refine h0 _ _ ?_
  try clear h0 K_h0
  refine T.regi hm ?_
  simp only [↓reduceIte, namesOf, List.any, I.names, aopsI, astep, ev, setd, List.set, List.getD, List.getElem?_cons_zero, List.getElem?_cons_succ, then_normal, Option.getD_some, Bool.or_false, Bool.false_eq_true, up_zero, binv, ↓opt_def, eq_self, v2]
  refine h1 _ _ ?_
  try clear h1 K_h1
  refine T.seq_k (fun K_h1 h1 => ?_)
  have f4 : decide (((1 : Nat) : Int) > 0) = true := rfl
  have w5 : IntKind.u32.wrap (48 + ((n / 100 : Nat) : Int)) = ((48 + n / 100 : Nat) : Int) := by
    rw [show 48 + ((n / 100 : Nat) : Int) = ((48 + n / 100 : Nat) : Int) by omega]; exact u32w (by omega)
  have w6 : IntKind.u8.wrap ((48 + n / 100 : Nat) : Int) = ((48 + n / 100 : Nat) : Int) := by
    simp [IntKind.wrap, IntKind.bits, IntKind.signed]; omega
  refine T.regi hm ?_
  simp only [↓reduceIte, namesOf, List.any, I.names, aopsI, astep, ev, setd, List.set, List.getD, List.getElem?_cons_zero, List.getElem?_cons_succ, then_normal, Option.getD_some, Bool.or_false, Bool.false_eq_true, up_zero, binv, ↓opt_def, eq_self, f4]
  refine h1 _ _ ?_
  try clear h1 K_h1
  refine T.cond rfl (fun _ => ?_) (fun h => by cases h)
  refine T.regi hm ?_
  simp only [↓reduceIte, namesOf, List.any, I.names, aopsI, astep, ev, setd, List.set, List.getD, List.getElem?_cons_zero, List.getElem?_cons_succ, List.length_cons, List.length_nil, Option.getD_some, Bool.or_false, Bool.false_eq_true, up_zero, Nat.reduceAdd, binv, ↓opt_def, AV.isAny, AV.cells, St.set_same, eq_self, decide_true, w5, w6, k3, z21, p3, AV.fits, AV.one, List.all_cons, List.all_nil, Nat.reduceBEq, Bool.not_false, Bool.and_self, Nat.zero_add, Nat.mul_one, Nat.reduceLeDiff, and_self, St.set_set, Int.le_refl, Int.toNat_zero]
  refine Fin.retn rfl ⟨rfl, ?_⟩
  rw [dg3 n hn, hd1, hd0]
  have e3 := dgc10 (n / 100) (by omega)
  simp only [bytesAV, List.map_cons, List.map_nil, List.cons_append, List.nil_append, e3]

end Go.VL

namespace Go.VL

open Go.Proofs

theorem sz_mk (l : List UInt8) : (⟨l.toArray⟩ : ByteArray).size = l.length := by simp [ByteArray.size]

theorem sb_add {a b : List UInt8} (h : a.length + b.length ≤ 4000000000) : sbinv .add ⟨a.toArray⟩ ⟨b.toArray⟩ = some (.str ⟨(a ++ b).toArray⟩) := by
  have e : (⟨a.toArray⟩ : ByteArray) ++ ⟨b.toArray⟩ = ⟨(a ++ b).toArray⟩ := by
    apply ByteArray.ext
    simp [ByteArray.data_append]
  simp only [sbinv, sz_mk, e]
  have hm : ¬ ((a.length + b.length : Nat) : Int) > IntKind.i64.max := by
    have : IntKind.i64.max = 9223372036854775807 := by decide
    omega
  rw [if_neg hm]

theorem ifmtU16_ok {n : Nat} {σ : St} (hT : Tabs σ) (hn : n < 18446744073709551616) : ACalls Tryd.prog n_ifmtU [.int .u64 (n : Int), .int .i64 16] σ (fun v σ' => Writ 16 n 16 v ∧ σ' = σ) := by
  refine s_ifmtU (fun wf => ?_)
  unfold c_ifmtU
  have e1 : ((16 : Int) == 10) = false := rfl
  refine T.seq_k (fun K_h0 h0 => ?_)
  refine T.regi hm ?_
  simp only [↓reduceIte, namesOf, List.any, I.names, aopsI, astep, ev, setd, List.set, List.cons_append, List.nil_append, List.length_cons, List.length_nil, List.replicate, then_normal, Bool.or_false, Bool.false_eq_true, up_zero, Nat.reduceAdd, Nat.reduceSub]
  refine h0 _ _ ?_
  try clear h0 K_h0
  refine T.seq_k (fun K_h1 h1 => ?_)
  refine T.seq_k (fun K_h0 h0 => ?_)
  refine T.regi hm ?_
  simp only [↓reduceIte, namesOf, List.any, I.names, aopsI, astep, ev, setd, List.set, List.getD, List.getElem?_cons_zero, List.getElem?_cons_succ, then_normal, Option.getD_some, Bool.or_false, Bool.false_eq_true, up_zero, binv, ↓opt_def, eq_self, e1]
  refine h0 _ _ ?_
  try clear h0 K_h0
  refine T.cond rfl (fun h => by cases h) (fun _ => T.skip ?_)
  refine h1 _ _ ?_
  try clear h1 K_h1
  refine T.seq_k (fun K_h1 h1 => ?_)
  refine T.regi hm ?_
  simp only [↓reduceIte, namesOf, List.any, I.names, aopsI, astep, ev, setd, List.set, List.getD, List.getElem?_cons_zero, List.getElem?_cons_succ, then_normal, Option.getD_some, Bool.or_false, Bool.false_eq_true, up_zero, ↓opt_def, List.map_cons, List.map_nil]
  refine (fbits_ok hT hn).mono ?_
  rintro v σ1 ⟨⟨k, k1, k2, k3, rfl⟩, rfl⟩
  try simp only [List.getElem?_cons_zero, List.getElem?_cons_succ]
  refine h1 _ _ ?_
  try clear h1 K_h1
  refine T.seq_k (fun K_h0 h0 => ?_)
  refine T.regi hm ?_
  simp only [↓reduceIte, namesOf, List.any, I.names, aopsI, astep, ev, setd, List.set, List.getD, List.getElem?_cons_zero, List.getElem?_cons_succ, then_normal, Option.getD_some, Bool.or_false, Bool.false_eq_true, up_zero]
  refine h0 _ _ ?_
  try clear h0 K_h0
  exact T.ret (Fin.ret rfl ⟨⟨k, k1, k2, k3, rfl⟩, rfl⟩)

set_option maxRecDepth 10000 in
theorem ifmtU10_ok {n : Nat} {σ : St} (hT : Tabs σ) (hn : n < 1000) : ACalls Tryd.prog n_ifmtU [.int .u64 (n : Int), .int .i64 10] σ (fun v σ' => Writ 10 n 3 v ∧ σ' = σ) := by
  refine s_ifmtU (fun wf => ?_)
  unfold c_ifmtU
  have e1 : ((10 : Int) == 10) = true := rfl
  refine T.seq_k (fun K_h0 h0 => ?_)
  refine T.regi hm ?_
  simp only [↓reduceIte, namesOf, List.any, I.names, aopsI, astep, ev, setd, List.set, List.cons_append, List.nil_append, List.length_cons, List.length_nil, List.replicate, then_normal, Bool.or_false, Bool.false_eq_true, up_zero, Nat.reduceAdd, Nat.reduceSub]
  refine h0 _ _ ?_
  try clear h0 K_h0
  refine T.seq_k (fun K_h1 h1 => ?_)
  refine T.seq_k (fun K_h0 h0 => ?_)
  refine T.regi hm ?_
  simp only [↓reduceIte, namesOf, List.any, I.names, aopsI, astep, ev, setd, List.set, List.getD, List.getElem?_cons_zero, List.getElem?_cons_succ, then_normal, Option.getD_some, Bool.or_false, Bool.false_eq_true, up_zero, binv, ↓opt_def, eq_self, e1]
  refine h0 _ _ ?_
  try clear h0 K_h0
  refine T.cond rfl (fun _ => ?_) (fun h => by cases h)
  refine T.seq_k (fun K_h1 h1 => ?_)
  by_cases h100 : n < 100
  · have f1 : decide ((n : Int) < 100) = true := decide_eq_true (by omega)
    have w1 : IntKind.i64.wrap (n : Int) = (n : Int) := wrap64 (by omega) (by omega)
    refine T.seq_k (fun K_h0 h0 => ?_)
    refine T.regi hm ?_
    simp only [↓reduceIte, namesOf, List.any, I.names, aopsI, astep, ev, setd, List.set, List.getD, List.getElem?_cons_zero, List.getElem?_cons_succ, then_normal, Option.getD_some, Bool.or_false, Bool.false_eq_true, up_zero, binv, ↓opt_def, eq_self, f1]
    refine h0 _ _ ?_
    try clear h0 K_h0
    refine T.cond rfl (fun _ => ?_) (fun h => by cases h)
    refine T.seq_k (fun K_h2 h2 => ?_)
    refine T.regi hm ?_
    simp only [↓reduceIte, namesOf, List.any, I.names, aopsI, astep, ev, setd, List.set, List.getD, List.getElem?_cons_zero, List.getElem?_cons_succ, then_normal, Option.getD_some, Bool.or_false, Bool.false_eq_true, up_zero, List.map_cons, List.map_nil, w1]
    refine (ismall_ok h100).mono ?_
    rintro v σ1 ⟨hv, rfl⟩
    try simp only [↓reduceIte, namesOf, List.any, I.names, aops, aopsI, aopsT, qstep, CPt, qget, Tbl.get, astep, ev, setd, List.set, List.getD, List.getElem?_cons_zero, List.getElem?_cons_succ, List.getElem?_nil, List.cons_append, List.nil_append, List.length_cons, List.length_nil, List.replicate, then_normal, inBlock_normal, Option.getD_some, Option.getD_none, Bool.or_false, Bool.or_true, Bool.true_or, Bool.false_or, Bool.false_eq_true, if_false, if_true, up_zero, Nat.reduceAdd, Nat.reduceSub, binv, ↓opt_def, AV.isAny, AV.cells, ldc, List.map_cons, List.map_nil, St.set_next, St.set_same, St.up_next, Int.natCast_nonneg, lt_len, le_len, Int.toNat_natCast, true_and, and_true, eq_self, reduceCtorEq, decide_true, List.length_singleton, er_int, er_bool, er_str, srcR, up_zero]
    refine h2 _ _ ?_
    try clear h2 K_h2
    exact T.ret (Fin.ret rfl ⟨hv, rfl⟩)
  have f1 : decide ((n : Int) < 100) = false := decide_eq_false (by omega)
  refine T.seq_k (fun K_h0 h0 => ?_)
  refine T.regi hm ?_
  simp only [↓reduceIte, namesOf, List.any, I.names, aopsI, astep, ev, setd, List.set, List.getD, List.getElem?_cons_zero, List.getElem?_cons_succ, then_normal, Option.getD_some, Bool.or_false, Bool.false_eq_true, up_zero, binv, ↓opt_def, eq_self, f1]
  refine h0 _ _ ?_
  try clear h0 K_h0
  refine T.cond rfl (fun h => by cases h) (fun _ => T.skip ?_)
  refine h1 _ _ ?_
  try clear h1 K_h1
  refine T.seq_k (fun K_h0 h0 => ?_)
  refine T.regi hm ?_
  simp only [↓reduceIte, namesOf, List.any, I.names, aopsI, astep, setd, List.set, List.length_cons, List.length_nil, then_normal, Bool.or_false, Nat.reduceAdd, eq_self]
  refine h0 _ _ ?_
  try clear h0 K_h0
  have hm0 : ((σ.up 1).set (σ.next + 0) (.obj (zeros 24 (.int .u8 0)))).res (σ.next + 0) = some (.obj (zeros 24 (.int .u8 0))) := St.set_same _ _ _
  have hL0 : Like σ ((σ.up 1).set (σ.next + 0) (.obj (zeros 24 (.int .u8 0)))) := (Like.refl σ).box (n := 1) (i := 0) _
  generalize ((σ.up 1).set (σ.next + 0) (.obj (zeros 24 (.int .u8 0)))) = t0 at hm0 hL0 ⊢
  have hlo : σ.next ≤ σ.next + 0 := by omega
  generalize σ.next + 0 = m at hm0 hlo ⊢
  refine T.seq_k (fun K_h1 h1 => ?_)
  refine T.regi hm ?_
  simp only [↓reduceIte, namesOf, List.any, I.names, aopsI, astep, ev, setd, List.set, List.getD, List.getElem?_cons_zero, List.getElem?_cons_succ, then_normal, Option.getD_some, Bool.or_false, Bool.false_eq_true, up_zero, List.map_cons, List.map_nil]
  refine (numd_ok (hT.like wf hL0) (by omega) hn).mono ?_
  rintro v σ1 ⟨rfl, rfl⟩
  try simp only [↓reduceIte, namesOf, List.any, I.names, aops, aopsI, aopsT, qstep, CPt, qget, Tbl.get, astep, ev, setd, List.set, List.getD, List.getElem?_cons_zero, List.getElem?_cons_succ, List.getElem?_nil, List.cons_append, List.nil_append, List.length_cons, List.length_nil, List.replicate, then_normal, inBlock_normal, Option.getD_some, Option.getD_none, Bool.or_false, Bool.or_true, Bool.true_or, Bool.false_or, Bool.false_eq_true, if_false, if_true, up_zero, Nat.reduceAdd, Nat.reduceSub, binv, ↓opt_def, AV.isAny, AV.cells, ldc, List.map_cons, List.map_nil, St.set_next, St.set_same, St.up_next, Int.natCast_nonneg, lt_len, le_len, Int.toNat_natCast, true_and, and_true, eq_self, reduceCtorEq, decide_true, List.length_singleton, er_int, er_bool, er_str, srcR, up_zero]
  refine h1 _ _ ?_
  try clear h1 K_h1
  have i1 : (0 : Int) < 3 := by decide
  have i2 : (3 : Int) ≤ ((24 : Nat) : Int) := by decide
  have i3 : ((3 : Int) - 0).toNat = 3 := rfl
  refine T.seq_k (fun K_h1 h1 => ?_)
  refine T.regi hm ?_
  simp only [↓reduceIte, namesOf, List.any, I.names, aopsI, astep, ev, setd, List.set, List.getD, List.getElem?_cons_zero, List.getElem?_cons_succ, then_normal, Option.getD_some, Bool.or_false, Bool.false_eq_true, up_zero, List.map_cons, List.map_nil, idx, i1, i2, i3, Int.le_refl, and_self, Int.toNat_zero, Nat.zero_mul, Nat.add_zero]
  refine (fb10_ok hn hm0).mono ?_
  rintro v σ2 ⟨rfl, rfl⟩
  try simp only [↓reduceIte, namesOf, List.any, I.names, aops, aopsI, aopsT, qstep, CPt, qget, Tbl.get, astep, ev, setd, List.set, List.getD, List.getElem?_cons_zero, List.getElem?_cons_succ, List.getElem?_nil, List.cons_append, List.nil_append, List.length_cons, List.length_nil, List.replicate, then_normal, inBlock_normal, Option.getD_some, Option.getD_none, Bool.or_false, Bool.or_true, Bool.true_or, Bool.false_or, Bool.false_eq_true, if_false, if_true, up_zero, Nat.reduceAdd, Nat.reduceSub, binv, ↓opt_def, AV.isAny, AV.cells, ldc, List.map_cons, List.map_nil, St.set_next, St.set_same, St.up_next, Int.natCast_nonneg, lt_len, le_len, Int.toNat_natCast, true_and, and_true, eq_self, reduceCtorEq, decide_true, List.length_singleton, er_int, er_bool, er_str, srcR, up_zero]
  refine h1 _ _ ?_
  try clear h1 K_h1
  have hm1 : (σ1.set m (.obj (bytesAV (dg 10 3 n) ++ zeros 21 (.int .u8 0)))).res m = some (.obj (bytesAV (dg 10 3 n) ++ zeros 21 (.int .u8 0))) := St.set_same _ _ _
  have hl3 : (bytesAV (dg 10 3 n)).length = 3 := by rw [bytesAV_len, dg_len]
  have j2 : 0 + 3 ≤ (bytesAV (dg 10 3 n) ++ zeros 21 (AV.int .u8 0)).length := by rw [List.length_append, hl3]; omega
  have j3 : ((bytesAV (dg 10 3 n) ++ zeros 21 (AV.int .u8 0)).drop 0).take 3 = bytesAV (dg 10 3 n) := by
    rw [List.drop_zero, List.take_append_of_le_length (by omega), List.take_of_length_le (by omega)]
  refine T.seq_k (fun K_h0 h0 => ?_)
  refine T.regi hm ?_
  simp only [↓reduceIte, namesOf, List.any, I.names, aopsI, astep, ev, setd, List.set, List.getD, List.getElem?_cons_zero, List.getElem?_cons_succ, then_normal, Option.getD_some, Bool.or_false, Bool.false_eq_true, up_zero, Nat.reduceAdd, ↓opt_def, St.set_same, idx, i1, i2, i3, j2, j3, Int.le_refl, and_self, Int.toNat_zero, Nat.zero_mul, Nat.add_zero, toBytes_bytes]
  refine h0 _ _ ?_
  try clear h0 K_h0
  exact T.ret (Fin.quiet rfl trivial ((hL0.set _ hlo).quiet wf) ⟨⟨3, by omega, by omega, by omega, rfl⟩, rfl⟩)

theorem fmtU_ok {b n most : Nat} {σ : St} (hT : Tabs σ) (hb : (b = 16 ∧ most = 16 ∧ n < 18446744073709551616) ∨ (b = 10 ∧ most = 3 ∧ n < 1000)) :
    ACalls Tryd.prog n_fmtU [.int .u64 (n : Int), .int .i64 (b : Int)] σ (fun v σ' => Writ b n most v ∧ σ' = σ) := by
  refine s_fmtU (fun wf => ?_)
  unfold c_fmtU
  refine T.seq_k (fun K_h0 h0 => ?_)
  refine T.regi hm ?_
  simp only [↓reduceIte, namesOf, List.any, I.names, aopsI, astep, ev, setd, List.set, List.cons_append, List.nil_append, List.length_cons, List.length_nil, List.replicate, then_normal, Bool.or_false, Bool.false_eq_true, up_zero, Nat.reduceAdd, Nat.reduceSub]
  refine h0 _ _ ?_
  try clear h0 K_h0
  refine T.seq_k (fun K_h1 h1 => ?_)
  refine T.regi hm ?_
  simp only [↓reduceIte, namesOf, List.any, I.names, aopsI, astep, ev, setd, List.set, List.getD, List.getElem?_cons_zero, List.getElem?_cons_succ, then_normal, Option.getD_some, Bool.or_false, Bool.false_eq_true, up_zero, List.map_cons, List.map_nil]
  have key : ACalls Tryd.prog n_ifmtU [.int .u64 (n : Int), .int .i64 (b : Int)] σ (fun v σ' => Writ b n most v ∧ σ' = σ) := by
    rcases hb with ⟨rfl, rfl, hn⟩ | ⟨rfl, rfl, hn⟩
    · exact ifmtU16_ok hT hn
    · exact ifmtU10_ok hT hn
  refine key.mono ?_
  rintro v σ1 ⟨hv, rfl⟩
  try simp only [↓reduceIte, namesOf, List.any, I.names, aops, aopsI, aopsT, qstep, CPt, qget, Tbl.get, astep, ev, setd, List.set, List.getD, List.getElem?_cons_zero, List.getElem?_cons_succ, List.getElem?_nil, List.cons_append, List.nil_append, List.length_cons, List.length_nil, List.replicate, then_normal, inBlock_normal, Option.getD_some, Option.getD_none, Bool.or_false, Bool.or_true, Bool.true_or, Bool.false_or, Bool.false_eq_true, if_false, if_true, up_zero, Nat.reduceAdd, Nat.reduceSub, binv, ↓opt_def, AV.isAny, AV.cells, ldc, List.map_cons, List.map_nil, St.set_next, St.set_same, St.up_next, Int.natCast_nonneg, lt_len, le_len, Int.toNat_natCast, true_and, and_true, eq_self, reduceCtorEq, decide_true, List.length_singleton, er_int, er_bool, er_str, srcR, up_zero]
  refine h1 _ _ ?_
  try clear h1 K_h1
  exact T.ret (Fin.ret rfl ⟨hv, rfl⟩)

theorem slHasPre_ok {s p : ByteArray} {σ : St} : ACalls Tryd.prog n_slHasPre [.str s, .str p] σ (fun v σ' => v = .bool (decide (p.size ≤ s.size ∧ s.extract 0 p.size = p)) ∧ σ' = σ) := by
  refine s_slHasPre (fun wf => ?_)
  unfold c_slHasPre
  refine T.seq_k (fun K_h0 h0 => ?_)
  refine T.regi hm ?_
  simp only [↓reduceIte, namesOf, List.any, I.names, aopsI, astep, ev, setd, List.set, List.cons_append, List.nil_append, List.length_cons, List.length_nil, List.replicate, then_normal, Bool.or_false, Bool.false_eq_true, up_zero, Nat.reduceAdd, Nat.reduceSub]
  refine h0 _ _ ?_
  try clear h0 K_h0
  refine T.seq_k (fun K_h1 h1 => ?_)
  by_cases hl : p.size ≤ s.size
  · have f1 : decide ((s.size : Int) ≥ (p.size : Int)) = true := decide_eq_true (by omega)
    have i1 : (p.size : Int) ≤ (s.size : Int) := by omega
    have e : decide (p.size ≤ s.size ∧ s.extract 0 p.size = p) = decide (s.extract 0 p.size = p) := by simp [hl]
    refine T.regi hm ?_
    simp only [↓reduceIte, namesOf, List.any, I.names, aopsI, astep, ev, setd, List.set, List.getD, List.getElem?_cons_zero, List.getElem?_cons_succ, then_normal, Option.getD_some, Bool.or_false, Bool.false_eq_true, up_zero, binv, ↓opt_def, Int.natCast_nonneg, Int.toNat_natCast, eq_self, decide_true, idx, i1, Int.le_refl, and_self, Int.toNat_zero, sbinv]
    refine h1 _ _ ?_
    try clear h1 K_h1
    exact T.ret (Fin.ret rfl ⟨by rw [e]; rfl, rfl⟩)
  · have f1 : decide ((s.size : Int) ≥ (p.size : Int)) = false := decide_eq_false (by omega)
    have e : decide (p.size ≤ s.size ∧ s.extract 0 p.size = p) = false := decide_eq_false (fun h => hl h.1)
    refine T.regi hm ?_
    simp only [↓reduceIte, namesOf, List.any, I.names, aopsI, astep, ev, setd, List.set, List.getD, List.getElem?_cons_zero, List.getElem?_cons_succ, then_normal, Option.getD_some, Bool.or_false, Bool.false_eq_true, up_zero, binv, ↓opt_def, eq_self, f1]
    refine h1 _ _ ?_
    try clear h1 K_h1
    exact T.ret (Fin.ret rfl ⟨by rw [e]; rfl, rfl⟩)

theorem hasPre_ok {s p : ByteArray} {σ : St} : ACalls Tryd.prog n_hasPre [.str s, .str p] σ (fun v σ' => v = .bool (decide (p.size ≤ s.size ∧ s.extract 0 p.size = p)) ∧ σ' = σ) := by
  refine s_hasPre (fun wf => ?_)
  unfold c_hasPre
  refine T.seq_k (fun K_h0 h0 => ?_)
  refine T.regi hm ?_
  simp only [↓reduceIte, namesOf, List.any, I.names, aopsI, astep, ev, setd, List.set, List.cons_append, List.nil_append, List.length_cons, List.length_nil, List.replicate, then_normal, Bool.or_false, Bool.false_eq_true, up_zero, Nat.reduceAdd, Nat.reduceSub]
  refine h0 _ _ ?_
  try clear h0 K_h0
  refine T.seq_k (fun K_h1 h1 => ?_)
  refine T.regi hm ?_
  simp only [↓reduceIte, namesOf, List.any, I.names, aopsI, astep, ev, setd, List.set, List.getD, List.getElem?_cons_zero, List.getElem?_cons_succ, then_normal, Option.getD_some, Bool.or_false, Bool.false_eq_true, up_zero, List.map_cons, List.map_nil]
  refine slHasPre_ok.mono ?_
  rintro v σ1 ⟨rfl, rfl⟩
  try simp only [↓reduceIte, namesOf, List.any, I.names, aops, aopsI, aopsT, qstep, CPt, qget, Tbl.get, astep, ev, setd, List.set, List.getD, List.getElem?_cons_zero, List.getElem?_cons_succ, List.getElem?_nil, List.cons_append, List.nil_append, List.length_cons, List.length_nil, List.replicate, then_normal, inBlock_normal, Option.getD_some, Option.getD_none, Bool.or_false, Bool.or_true, Bool.true_or, Bool.false_or, Bool.false_eq_true, if_false, if_true, up_zero, Nat.reduceAdd, Nat.reduceSub, binv, ↓opt_def, AV.isAny, AV.cells, ldc, List.map_cons, List.map_nil, St.set_next, St.set_same, St.up_next, Int.natCast_nonneg, lt_len, le_len, Int.toNat_natCast, true_and, and_true, eq_self, reduceCtorEq, decide_true, List.length_singleton, er_int, er_bool, er_str, srcR, up_zero]
  refine h1 _ _ ?_
  try clear h1 K_h1
  exact T.ret (Fin.ret rfl ⟨rfl, rfl⟩)

theorem bmul64_ok {c : Nat} {σ : St} (hc : c ≤ 1000) : ACalls Tryd.prog n_bmul64 [.int .u64 1, .int .u64 (c : Int)] σ (fun v σ' => v = .tup [.int .u64 0, .int .u64 (c : Int)] ∧ σ' = σ) := by
  refine s_bmul64 (fun wf => ?_)
  unfold c_bmul64
  have a1 : IntKind.u64.wrap ((BitVec.ofInt IntKind.u64.bits 1 &&& BitVec.ofInt IntKind.u64.bits 4294967295).toNat : Int) = 1 := by decide +kernel
  have a0 : IntKind.u64.wrap ((BitVec.ofInt IntKind.u64.bits 0 &&& BitVec.ofInt IntKind.u64.bits 4294967295).toNat : Int) = 0 := by decide +kernel
  have ac : IntKind.u64.wrap ((BitVec.ofInt IntKind.u64.bits (c : Int) &&& BitVec.ofInt IntKind.u64.bits 4294967295).toNat : Int) = (c : Int) := by
    rw [u64_and32 (by omega)]; congr 1; exact Nat.mod_eq_of_lt (by omega)
  have b1 : Int.fdiv 1 (2 ^ min (32 : Int).toNat IntKind.u64.bits) = 0 := by decide +kernel
  have b0 : Int.fdiv 0 (2 ^ min (32 : Int).toNat IntKind.u64.bits) = 0 := by decide +kernel
  have bc : Int.fdiv (c : Int) (2 ^ min (32 : Int).toNat IntKind.u64.bits) = 0 := by
    rw [u64_shr32, Nat.div_eq_of_lt (by omega)]; rfl
  have s32 : ¬ ((32 : Int) < 0) := by decide
  have m1 : IntKind.u64.wrap (1 * (c : Int)) = (c : Int) := by rw [Int.one_mul]; exact u64w (by omega)
  have m0 : IntKind.u64.wrap (0 * (c : Int)) = 0 := by rw [Int.zero_mul]; decide
  have z0 : IntKind.u64.wrap (0 + 0) = 0 := by decide
  have z1 : IntKind.u64.wrap (1 * 0) = 0 := by decide
  have z2 : IntKind.u64.wrap (0 * 0) = 0 := by decide
  refine T.seq_k (fun K_h0 h0 => ?_)
  refine T.regi hm ?_
  simp only [↓reduceIte, namesOf, List.any, I.names, aopsI, astep, ev, setd, List.set, List.cons_append, List.nil_append, List.length_cons, List.length_nil, List.replicate, then_normal, Bool.or_false, Bool.false_eq_true, up_zero, Nat.reduceAdd, Nat.reduceSub]
  refine h0 _ _ ?_
  try clear h0 K_h0
  refine T.seq_k (fun K_h0 h0 => ?_)
  refine T.regi hm ?_
  simp only [↓reduceIte, namesOf, List.any, I.names, aopsI, astep, ev, setd, List.set, List.getD, List.getElem?_cons_zero, List.getElem?_cons_succ, then_normal, Option.getD_some, Bool.or_false, Bool.false_eq_true, up_zero, binv, ↓opt_def, eq_self, a1]
  refine h0 _ _ ?_
  try clear h0 K_h0
  refine T.seq_k (fun K_h0 h0 => ?_)
  refine T.regi hm ?_
  simp only [↓reduceIte, namesOf, List.any, I.names, aopsI, astep, ev, setd, List.set, List.getD, List.getElem?_cons_zero, List.getElem?_cons_succ, then_normal, Option.getD_some, Bool.or_false, Bool.false_eq_true, up_zero, binv, ↓opt_def, eq_self, b1, s32]
  refine h0 _ _ ?_
  try clear h0 K_h0
  refine T.seq_k (fun K_h0 h0 => ?_)
  refine T.regi hm ?_
  simp only [↓reduceIte, namesOf, List.any, I.names, aopsI, astep, ev, setd, List.set, List.getD, List.getElem?_cons_zero, List.getElem?_cons_succ, then_normal, Option.getD_some, Bool.or_false, Bool.false_eq_true, up_zero, binv, ↓opt_def, eq_self, ac]
  refine h0 _ _ ?_
  try clear h0 K_h0
  refine T.seq_k (fun K_h0 h0 => ?_)
  refine T.regi hm ?_
  simp only [↓reduceIte, namesOf, List.any, I.names, aopsI, astep, ev, setd, List.set, List.getD, List.getElem?_cons_zero, List.getElem?_cons_succ, then_normal, Option.getD_some, Bool.or_false, Bool.false_eq_true, up_zero, binv, ↓opt_def, eq_self, bc, s32]
  refine h0 _ _ ?_
  try clear h0 K_h0
  refine T.seq_k (fun K_h0 h0 => ?_)
  refine T.regi hm ?_
  simp only [↓reduceIte, namesOf, List.any, I.names, aopsI, astep, ev, setd, List.set, List.getD, List.getElem?_cons_zero, List.getElem?_cons_succ, then_normal, Option.getD_some, Bool.or_false, Bool.false_eq_true, up_zero, binv, ↓opt_def, eq_self, m1]
  refine h0 _ _ ?_
  try clear h0 K_h0
  refine T.seq_k (fun K_h0 h0 => ?_)
  refine T.regi hm ?_
  simp only [↓reduceIte, namesOf, List.any, I.names, aopsI, astep, ev, setd, List.set, List.getD, List.getElem?_cons_zero, List.getElem?_cons_succ, then_normal, Option.getD_some, Bool.or_false, Bool.false_eq_true, up_zero, binv, ↓opt_def, eq_self, m0, bc, s32, z0]
  refine h0 _ _ ?_
  try clear h0 K_h0
  refine T.seq_k (fun K_h0 h0 => ?_)
  refine T.regi hm ?_
  simp only [↓reduceIte, namesOf, List.any, I.names, aopsI, astep, ev, setd, List.set, List.getD, List.getElem?_cons_zero, List.getElem?_cons_succ, then_normal, Option.getD_some, Bool.or_false, Bool.false_eq_true, up_zero, binv, ↓opt_def, eq_self, a0]
  refine h0 _ _ ?_
  try clear h0 K_h0
  refine T.seq_k (fun K_h0 h0 => ?_)
  refine T.regi hm ?_
  simp only [↓reduceIte, namesOf, List.any, I.names, aopsI, astep, ev, setd, List.set, List.getD, List.getElem?_cons_zero, List.getElem?_cons_succ, then_normal, Option.getD_some, Bool.or_false, Bool.false_eq_true, up_zero, binv, ↓opt_def, eq_self, b0, s32]
  refine h0 _ _ ?_
  try clear h0 K_h0
  refine T.seq_k (fun K_h0 h0 => ?_)
  refine T.regi hm ?_
  simp only [↓reduceIte, namesOf, List.any, I.names, aopsI, astep, ev, setd, List.set, List.getD, List.getElem?_cons_zero, List.getElem?_cons_succ, then_normal, Option.getD_some, Bool.or_false, Bool.false_eq_true, up_zero, binv, ↓opt_def, eq_self, z1, z0]
  refine h0 _ _ ?_
  try clear h0 K_h0
  refine T.seq_k (fun K_h0 h0 => ?_)
  refine T.regi hm ?_
  simp only [↓reduceIte, namesOf, List.any, I.names, aopsI, astep, ev, setd, List.set, List.getD, List.getElem?_cons_zero, List.getElem?_cons_succ, then_normal, Option.getD_some, Bool.or_false, Bool.false_eq_true, up_zero, binv, ↓opt_def, eq_self, z2, z0, b0, s32]
  refine h0 _ _ ?_
  try clear h0 K_h0
  refine T.seq_k (fun K_h0 h0 => ?_)
  refine T.regi hm ?_
  simp only [↓reduceIte, namesOf, List.any, I.names, aopsI, astep, ev, setd, List.set, List.getD, List.getElem?_cons_zero, List.getElem?_cons_succ, then_normal, Option.getD_some, Bool.or_false, Bool.false_eq_true, up_zero, binv, ↓opt_def, eq_self, m1]
  refine h0 _ _ ?_
  try clear h0 K_h0
  exact T.ret (Fin.ret rfl ⟨rfl, rfl⟩)

theorem bmul_ok {c : Nat} {σ : St} (hc : c ≤ 1000) : ACalls Tryd.prog n_bmul [.int .u64 1, .int .u64 (c : Int)] σ (fun v σ' => v = .tup [.int .u64 0, .int .u64 (c : Int)] ∧ σ' = σ) := by
  refine s_bmul (fun wf => ?_)
  unfold c_bmul
  refine T.seq_k (fun K_h0 h0 => ?_)
  refine T.regi hm ?_
  simp only [↓reduceIte, namesOf, List.any, I.names, aopsI, astep, ev, setd, List.set, List.cons_append, List.nil_append, List.length_cons, List.length_nil, List.replicate, then_normal, Bool.or_false, Bool.false_eq_true, up_zero, Nat.reduceAdd, Nat.reduceSub]
  refine h0 _ _ ?_
  try clear h0 K_h0
  refine T.seq_k (fun K_h1 h1 => ?_)
  refine T.cond rfl (fun h => by cases h) (fun _ => T.skip ?_)
  refine h1 _ _ ?_
  try clear h1 K_h1
  refine T.seq_k (fun K_h1 h1 => ?_)
  refine T.regi hm ?_
  simp only [↓reduceIte, namesOf, List.any, I.names, aopsI, astep, ev, setd, List.set, List.getD, List.getElem?_cons_zero, List.getElem?_cons_succ, then_normal, Option.getD_some, Bool.or_false, Bool.false_eq_true, up_zero, ↓opt_def, List.map_cons, List.map_nil]
  refine (bmul64_ok hc).mono ?_
  rintro v σ1 ⟨rfl, rfl⟩
  try simp only [List.getElem?_cons_zero, List.getElem?_cons_succ]
  refine h1 _ _ ?_
  try clear h1 K_h1
  refine T.seq_k (fun K_h0 h0 => ?_)
  refine T.regi hm ?_
  simp only [↓reduceIte, namesOf, List.any, I.names, aopsI, astep, ev, setd, List.set, List.getD, List.getElem?_cons_zero, List.getElem?_cons_succ, then_normal, Option.getD_some, Bool.or_false, Bool.false_eq_true, up_zero]
  refine h0 _ _ ?_
  try clear h0 K_h0
  exact T.ret (Fin.ret rfl ⟨rfl, rfl⟩)

theorem zeros_cut (c : Nat) (h : c ≤ 64) : sZe.extract 0 c = ⟨(List.replicate c 48).toArray⟩ := by
  have : ∀ c : Nat, c < 65 → sZe.extract 0 c = ⟨(List.replicate c 48).toArray⟩ := by decide +kernel
  exact this c (by omega)

set_option maxRecDepth 10000 in
theorem srep_ok {c : Nat} {σ : St} (hc : c ≤ 16) : ACalls Tryd.prog n_srep [.str ⟨#[48]⟩, .int .i64 (c : Int)] σ (fun v σ' => v = .str ⟨(List.replicate c 48).toArray⟩ ∧ σ' = σ) := by
  refine s_srep (fun wf => ?_)
  unfold c_srep
  refine T.seq_k (fun K_h0 h0 => ?_)
  refine T.regi hm ?_
  simp only [↓reduceIte, namesOf, List.any, I.names, aopsI, astep, ev, setd, List.set, List.cons_append, List.nil_append, List.length_cons, List.length_nil, List.replicate, then_normal, Bool.or_false, Bool.false_eq_true, up_zero, Nat.reduceAdd, Nat.reduceSub]
  refine h0 _ _ ?_
  try clear h0 K_h0
  refine T.seq_k (fun K_h1 h1 => ?_)
  refine T.seq_k (fun K_h0 h0 => ?_)
  refine T.regi hm ?_
  simp only [↓reduceIte, namesOf, List.any, I.names, aopsI, astep, ev, setd, List.set, List.getD, List.getElem?_cons_zero, List.getElem?_cons_succ, then_normal, Option.getD_some, Bool.or_false, Bool.false_eq_true, up_zero]
  refine h0 _ _ ?_
  try clear h0 K_h0
  refine T.block ?_
  by_cases h0 : c = 0
  · subst h0
    have f0 : (((0 : Nat) : Int) == 0) = true := rfl
    refine T.seq_k (fun K_h0 h0 => ?_)
    refine T.regi hm ?_
    simp only [↓reduceIte, namesOf, List.any, I.names, aopsI, astep, ev, setd, List.set, List.getD, List.getElem?_cons_zero, List.getElem?_cons_succ, List.replicate, then_normal, Option.getD_some, Bool.or_false, Bool.false_eq_true, up_zero, binv, ↓opt_def, eq_self, f0]
    refine h0 _ _ ?_
    try clear h0 K_h0
    refine T.cond rfl (fun _ => ?_) (fun h => by cases h)
    refine T.seq_k (fun K_h0 h0 => ?_)
    refine T.regi hm ?_
    simp only [↓reduceIte, namesOf, List.any, I.names, aopsI, astep, ev, setd, List.set, List.replicate, then_normal, Bool.or_false, Bool.false_eq_true, up_zero]
    refine h0 _ _ ?_
    try clear h0 K_h0
    exact T.ret (Fin.ret rfl ⟨rfl, rfl⟩)
  have f0 : ((c : Int) == 0) = false := by simpa using h0
  refine T.seq_k (fun K_h0 h0 => ?_)
  refine T.regi hm ?_
  simp only [↓reduceIte, namesOf, List.any, I.names, aopsI, astep, ev, setd, List.set, List.getD, List.getElem?_cons_zero, List.getElem?_cons_succ, then_normal, Option.getD_some, Bool.or_false, Bool.false_eq_true, up_zero, binv, ↓opt_def, eq_self, f0]
  refine h0 _ _ ?_
  try clear h0 K_h0
  refine T.cond rfl (fun h => by cases h) (fun _ => ?_)
  by_cases h1c : c = 1
  · subst h1c
    have f1 : (((1 : Nat) : Int) == 1) = true := rfl
    refine T.seq_k (fun K_h0 h0 => ?_)
    refine T.regi hm ?_
    simp only [↓reduceIte, namesOf, List.any, I.names, aopsI, astep, ev, setd, List.set, List.getD, List.getElem?_cons_zero, List.getElem?_cons_succ, List.replicate, then_normal, Option.getD_some, Bool.or_false, Bool.false_eq_true, up_zero, binv, ↓opt_def, eq_self, f1]
    refine h0 _ _ ?_
    try clear h0 K_h0
    refine T.cond rfl (fun _ => ?_) (fun h => by cases h)
    refine T.seq_k (fun K_h0 h0 => ?_)
    refine T.regi hm ?_
    simp only [↓reduceIte, namesOf, List.any, I.names, aopsI, astep, ev, setd, List.set, List.getD, List.getElem?_cons_zero, List.getElem?_cons_succ, List.replicate, then_normal, Option.getD_some, Bool.or_false, Bool.false_eq_true, up_zero]
    refine h0 _ _ ?_
    try clear h0 K_h0
    exact T.ret (Fin.ret rfl ⟨rfl, rfl⟩)
  have f1 : ((c : Int) == 1) = false := by simp; omega
  refine T.seq_k (fun K_h0 h0 => ?_)
  refine T.regi hm ?_
  simp only [↓reduceIte, namesOf, List.any, I.names, aopsI, astep, ev, setd, List.set, List.getD, List.getElem?_cons_zero, List.getElem?_cons_succ, then_normal, Option.getD_some, Bool.or_false, Bool.false_eq_true, up_zero, binv, ↓opt_def, eq_self, f1]
  refine h0 _ _ ?_
  try clear h0 K_h0
  refine T.cond rfl (fun h => by cases h) (fun _ => T.skip ?_)
  try simp only [then_normal, inBlock_normal, inBlock_normal]
  refine h1 _ _ ?_
  try clear h1 K_h1
  refine T.seq_k (fun K_h1 h1 => ?_)
  have f2 : decide ((c : Int) < 0) = false := decide_eq_false (by omega)
  refine T.seq_k (fun K_h0 h0 => ?_)
  refine T.regi hm ?_
  simp only [↓reduceIte, namesOf, List.any, I.names, aopsI, astep, ev, setd, List.set, List.getD, List.getElem?_cons_zero, List.getElem?_cons_succ, then_normal, Option.getD_some, Bool.or_false, Bool.false_eq_true, up_zero, binv, ↓opt_def, eq_self, f2]
  refine h0 _ _ ?_
  try clear h0 K_h0
  refine T.cond rfl (fun h => by cases h) (fun _ => T.skip ?_)
  refine h1 _ _ ?_
  try clear h1 K_h1
  refine T.seq_k (fun K_h1 h1 => ?_)
  have hs1 : ((⟨#[48]⟩ : ByteArray).size : Int) = 1 := rfl
  have w1 : IntKind.u64.wrap 1 = 1 := by decide
  have w2 : IntKind.u64.wrap (c : Int) = (c : Int) := u64w (by omega)
  refine T.regi hm ?_
  simp only [↓reduceIte, namesOf, List.any, I.names, aopsI, astep, ev, setd, List.set, List.getD, List.getElem?_cons_zero, List.getElem?_cons_succ, then_normal, Option.getD_some, Bool.or_false, Bool.false_eq_true, up_zero, ↓opt_def, List.map_cons, List.map_nil, hs1, w1, w2]
  refine (bmul_ok (by omega)).mono ?_
  rintro v σ1 ⟨rfl, rfl⟩
  try simp only [List.getElem?_cons_zero, List.getElem?_cons_succ]
  refine h1 _ _ ?_
  try clear h1 K_h1
  refine T.seq_k (fun K_h1 h1 => ?_)
  have f3 : decide ((0 : Int) > 0) = false := rfl
  have f4 : decide ((c : Int) > 9223372036854775807) = false := decide_eq_false (by omega)
  refine T.seq_k (fun K_h0 h0 => ?_)
  refine T.regi hm ?_
  simp only [↓reduceIte, namesOf, List.any, I.names, aopsI, astep, ev, setd, List.set, List.getD, List.getElem?_cons_zero, List.getElem?_cons_succ, then_normal, Option.getD_some, Bool.or_false, Bool.false_eq_true, up_zero, binv, ↓opt_def, eq_self, f3, f4]
  refine h0 _ _ ?_
  try clear h0 K_h0
  refine T.cond rfl (fun h => by cases h) (fun _ => T.skip ?_)
  refine h1 _ _ ?_
  try clear h1 K_h1
  have w3 : IntKind.i64.wrap (c : Int) = (c : Int) := wrap64 (by omega) (by omega)
  refine T.seq_k (fun K_h0 h0 => ?_)
  refine T.regi hm ?_
  simp only [↓reduceIte, namesOf, List.any, I.names, aopsI, astep, ev, setd, List.set, List.getD, List.getElem?_cons_zero, List.getElem?_cons_succ, then_normal, Option.getD_some, Bool.or_false, Bool.false_eq_true, up_zero, w3]
  refine h0 _ _ ?_
  try clear h0 K_h0
  refine T.seq_k (fun K_h1 h1 => ?_)
  have f5 : ((1 : Int) == 0) = false := rfl
  refine T.seq_k (fun K_h0 h0 => ?_)
  refine T.regi hm ?_
  simp only [↓reduceIte, namesOf, List.any, I.names, aopsI, astep, ev, setd, List.set, List.getD, List.getElem?_cons_zero, List.getElem?_cons_succ, then_normal, Option.getD_some, Bool.or_false, Bool.false_eq_true, up_zero, binv, ↓opt_def, eq_self, hs1, f5]
  refine h0 _ _ ?_
  try clear h0 K_h0
  refine T.cond rfl (fun h => by cases h) (fun _ => T.skip ?_)
  refine h1 _ _ ?_
  try clear h1 K_h1
  refine T.seq_k (fun K_h1 h1 => ?_)
  have i0 : (0 : Int) < 1 := by decide
  have g0 : (⟨#[48]⟩ : ByteArray).data.toList[(0 : Int).toNat]? = some 48 := rfl
  have n48 : (((48 : UInt8).toNat : Nat) : Int) = 48 := rfl
  refine T.seq_k (fun K_h0 h0 => ?_)
  refine T.regi hm ?_
  simp only [↓reduceIte, namesOf, List.any, I.names, aopsI, astep, ev, setd, List.set, List.getD, List.getElem?_cons_zero, List.getElem?_cons_succ, then_normal, Option.getD_some, Bool.or_false, Bool.false_eq_true, up_zero, hs1, i0, g0, n48, Int.le_refl, and_self]
  refine h0 _ _ ?_
  try clear h0 K_h0
  refine T.block ?_
  refine T.seq_k (fun K_h2 h2 => ?_)
  have k1 : ((48 : Int) == 32) = false := rfl
  have k2 : ((48 : Int) == 45) = false := rfl
  have k3 : ((48 : Int) == 48) = true := rfl
  refine T.seq_k (fun K_h0 h0 => ?_)
  refine T.regi hm ?_
  simp only [↓reduceIte, namesOf, List.any, I.names, aopsI, astep, ev, setd, List.set, List.getD, List.getElem?_cons_zero, List.getElem?_cons_succ, then_normal, Option.getD_some, Bool.or_false, Bool.false_eq_true, up_zero, binv, ↓opt_def, eq_self, k1]
  refine h0 _ _ ?_
  try clear h0 K_h0
  refine T.cond rfl (fun h => by cases h) (fun _ => ?_)
  refine T.seq_k (fun K_h0 h0 => ?_)
  refine T.regi hm ?_
  simp only [↓reduceIte, namesOf, List.any, I.names, aopsI, astep, ev, setd, List.set, List.getD, List.getElem?_cons_zero, List.getElem?_cons_succ, then_normal, Option.getD_some, Bool.or_false, Bool.false_eq_true, up_zero, binv, ↓opt_def, eq_self, k2]
  refine h0 _ _ ?_
  try clear h0 K_h0
  refine T.cond rfl (fun h => by cases h) (fun _ => ?_)
  refine T.seq_k (fun K_h0 h0 => ?_)
  refine T.regi hm ?_
  simp only [↓reduceIte, namesOf, List.any, I.names, aopsI, astep, ev, setd, List.set, List.getD, List.getElem?_cons_zero, List.getElem?_cons_succ, then_normal, Option.getD_some, Bool.or_false, Bool.false_eq_true, up_zero, binv, ↓opt_def, eq_self, k3]
  refine h0 _ _ ?_
  try clear h0 K_h0
  refine T.cond rfl (fun _ => T.skip ?_) (fun h => by cases h)
  refine h2 _ _ ?_
  try clear h2 K_h2
  refine T.cond rfl (fun _ => ?_) (fun h => by cases h)
  refine T.block ?_
  have q1 : decide ((⟨#[48]⟩ : ByteArray).size ≤ sSp.size ∧ sSp.extract 0 (⟨#[48]⟩ : ByteArray).size = ⟨#[48]⟩) = false := by decide +kernel
  have q2 : decide ((⟨#[48]⟩ : ByteArray).size ≤ sDa.size ∧ sDa.extract 0 (⟨#[48]⟩ : ByteArray).size = ⟨#[48]⟩) = false := by decide +kernel
  have q3 : decide ((⟨#[48]⟩ : ByteArray).size ≤ sZe.size ∧ sZe.extract 0 (⟨#[48]⟩ : ByteArray).size = ⟨#[48]⟩) = true := by decide +kernel
  have l1 : decide ((c : Int) ≤ 128) = true := decide_eq_true (by omega)
  have l2 : decide ((c : Int) ≤ 64) = true := decide_eq_true (by omega)
  refine T.seq_k (fun K_h2 h2 => ?_)
  refine T.regi hm ?_
  simp only [↓reduceIte, namesOf, List.any, I.names, aopsI, astep, ev, setd, List.set, List.getD, List.getElem?_cons_zero, List.getElem?_cons_succ, then_normal, Option.getD_some, Bool.or_false, Bool.false_eq_true, up_zero, binv, ↓opt_def, List.map_cons, List.map_nil, eq_self, l1]
  refine hasPre_ok.mono ?_
  rintro v σ1 ⟨rfl, rfl⟩
  try simp only [q1]
  refine h2 _ _ ?_
  try clear h2 K_h2
  refine T.cond rfl (fun h => by cases h) (fun _ => ?_)
  refine T.seq_k (fun K_h2 h2 => ?_)
  refine T.regi hm ?_
  simp only [↓reduceIte, namesOf, List.any, I.names, aopsI, astep, ev, setd, List.set, List.getD, List.getElem?_cons_zero, List.getElem?_cons_succ, then_normal, Option.getD_some, Bool.or_false, Bool.false_eq_true, up_zero, binv, ↓opt_def, List.map_cons, List.map_nil, eq_self, l1]
  refine hasPre_ok.mono ?_
  rintro v σ1 ⟨rfl, rfl⟩
  try simp only [q2]
  refine h2 _ _ ?_
  try clear h2 K_h2
  refine T.cond rfl (fun h => by cases h) (fun _ => ?_)
  refine T.seq_k (fun K_h2 h2 => ?_)
  refine T.regi hm ?_
  simp only [↓reduceIte, namesOf, List.any, I.names, aopsI, astep, ev, setd, List.set, List.getD, List.getElem?_cons_zero, List.getElem?_cons_succ, then_normal, Option.getD_some, Bool.or_false, Bool.false_eq_true, up_zero, binv, ↓opt_def, List.map_cons, List.map_nil, eq_self, l2]
  refine hasPre_ok.mono ?_
  rintro v σ1 ⟨rfl, rfl⟩
  try simp only [q3]
  refine h2 _ _ ?_
  try clear h2 K_h2
  refine T.cond rfl (fun _ => ?_) (fun h => by cases h)
  have i3 : (c : Int) ≤ (sZe.size : Int) := by rw [sZe_size]; omega
  refine T.seq_k (fun K_h0 h0 => ?_)
  refine T.regi hm ?_
  simp only [↓reduceIte, namesOf, List.any, I.names, aopsI, astep, ev, setd, List.set, List.getD, List.getElem?_cons_zero, List.getElem?_cons_succ, then_normal, Option.getD_some, Bool.or_false, Bool.false_eq_true, up_zero, Int.natCast_nonneg, Int.toNat_natCast, idx, i3, Int.le_refl, and_self, Int.toNat_zero, zeros_cut c (by omega)]
  refine h0 _ _ ?_
  try clear h0 K_h0
  exact T.ret (Fin.ret rfl ⟨rfl, rfl⟩)

/-- so many digits of a number, with leading zeros -/
theorem mDig_ok {b n most : Nat} {σ : St} (hT : Tabs σ) (hb : (b = 16 ∧ most = 16 ∧ n < 18446744073709551616) ∨ (b = 10 ∧ most = 3 ∧ n < 1000)) :
    ACalls Tryd.prog n_mDig [.int .u64 (n : Int), .int .i64 (b : Int), .int .i64 (most : Int)] σ (fun v σ' => v = .str ⟨(dg b most n).toArray⟩ ∧ σ' = σ) := by
  have hmost : most ≤ 16 := by rcases hb with ⟨_, rfl, _⟩ | ⟨_, rfl, _⟩ <;> omega
  refine s_mDig (fun wf => ?_)
  unfold c_mDig
  refine T.seq_k (fun K_h0 h0 => ?_)
  refine T.regi hm ?_
  simp only [↓reduceIte, namesOf, List.any, I.names, aopsI, astep, ev, setd, List.set, List.cons_append, List.nil_append, List.length_cons, List.length_nil, List.replicate, then_normal, Bool.or_false, Bool.false_eq_true, up_zero, Nat.reduceAdd, Nat.reduceSub]
  refine h0 _ _ ?_
  try clear h0 K_h0
  refine T.seq_k (fun K_h1 h1 => ?_)
  refine T.regi hm ?_
  simp only [↓reduceIte, namesOf, List.any, I.names, aopsI, astep, ev, setd, List.set, List.getD, List.getElem?_cons_zero, List.getElem?_cons_succ, then_normal, Option.getD_some, Bool.or_false, Bool.false_eq_true, up_zero, List.map_cons, List.map_nil]
  refine (fmtU_ok hT hb).mono ?_
  rintro v σ1 ⟨⟨k, k1, k2, k3, rfl⟩, rfl⟩
  try simp only [↓reduceIte, namesOf, List.any, I.names, aops, aopsI, aopsT, qstep, CPt, qget, Tbl.get, astep, ev, setd, List.set, List.getD, List.getElem?_cons_zero, List.getElem?_cons_succ, List.getElem?_nil, List.cons_append, List.nil_append, List.length_cons, List.length_nil, List.replicate, then_normal, inBlock_normal, Option.getD_some, Option.getD_none, Bool.or_false, Bool.or_true, Bool.true_or, Bool.false_or, Bool.false_eq_true, if_false, if_true, up_zero, Nat.reduceAdd, Nat.reduceSub, binv, ↓opt_def, AV.isAny, AV.cells, ldc, List.map_cons, List.map_nil, St.set_next, St.set_same, St.up_next, Int.natCast_nonneg, lt_len, le_len, Int.toNat_natCast, true_and, and_true, eq_self, reduceCtorEq, decide_true, List.length_singleton, er_int, er_bool, er_str, srcR, up_zero]
  refine h1 _ _ ?_
  try clear h1 K_h1
  have hsz : ((⟨(dg b k n).toArray⟩ : ByteArray).size : Int) = (k : Int) := by rw [sz_mk, dg_len]
  have w1 : IntKind.i64.wrap ((most : Int) - (k : Int)) = ((most - k : Nat) : Int) := by rw [wrap64 (by omega) (by omega)]; omega
  have w2 : ((0 : Int) > ((most - k : Nat) : Int)) = False := eq_false (by omega)
  have hadd : sbinv .add ⟨(List.replicate (most - k) (48 : UInt8)).toArray⟩ ⟨(dg b k n).toArray⟩ = some (.str ⟨(dg b most n).toArray⟩) := by
    rw [sb_add (by rw [List.length_replicate, dg_len]; omega), ← dg_pad k3, show most - k + k = most by omega]
  refine T.seq_k (fun K_h1 h1 => ?_)
  refine T.regi hm ?_
  simp only [↓reduceIte, namesOf, List.any, I.names, aopsI, astep, ev, setd, List.set, List.getD, List.getElem?_cons_zero, List.getElem?_cons_succ, then_normal, Option.getD_some, Bool.or_false, Bool.false_eq_true, up_zero, binv, ↓opt_def, List.map_cons, List.map_nil, eq_self, hsz, w1, w2, mx2, List.foldlM, bind, Option.bind, pure]
  refine (srep_ok (by omega)).mono ?_
  rintro v σ1 ⟨rfl, rfl⟩
  try simp only [hadd]
  refine h1 _ _ ?_
  try clear h1 K_h1
  exact T.ret (Fin.ret rfl ⟨rfl, rfl⟩)

end Go.VL

namespace Go.VL

open Go.Proofs

theorem slIdxB_ok {s : ByteArray} {c : UInt8} {σ : St} : ACalls Tryd.prog n_slIdxB [.str s, .int .u8 (c.toNat : Int)] σ (fun v σ' => v = .int .i64 (Lib.indexByte s.data.toList c) ∧ σ' = σ) := by
  refine s_slIdxB (fun wf => ?_)
  unfold c_slIdxB
  have hc : c.toNat.toUInt8 = c := by simp
  refine T.seq_k (fun K_h0 h0 => ?_)
  refine T.regi hm ?_
  simp only [↓reduceIte, namesOf, List.any, I.names, aopsI, astep, ev, setd, List.set, List.cons_append, List.nil_append, List.length_cons, List.length_nil, List.replicate, then_normal, Bool.or_false, Bool.false_eq_true, up_zero, Nat.reduceAdd, Nat.reduceSub]
  refine h0 _ _ ?_
  try clear h0 K_h0
  refine T.seq_k (fun K_h0 h0 => ?_)
  refine T.regi hm ?_
  simp only [↓reduceIte, namesOf, List.any, I.names, aopsI, astep, ev, setd, List.set, List.getD, List.getElem?_cons_zero, List.getElem?_cons_succ, then_normal, Option.getD_some, Bool.or_false, Bool.false_eq_true, up_zero, Int.toNat_natCast, hc]
  refine h0 _ _ ?_
  try clear h0 K_h0
  exact T.ret (Fin.ret rfl ⟨rfl, rfl⟩)

set_option maxRecDepth 10000 in
theorem slIndex_ok {l : List UInt8} {c : UInt8} {σ : St} : ACalls Tryd.prog n_slIndex [.str ⟨l.toArray⟩, .str ⟨[c].toArray⟩] σ (fun v σ' => v = .int .i64 (Lib.indexByte l c) ∧ σ' = σ) := by
  refine s_slIndex (fun wf => ?_)
  unfold c_slIndex
  have h1s : ((⟨[c].toArray⟩ : ByteArray).size : Int) = 1 := rfl
  have e0 : ((1 : Int) == 0) = false := rfl
  have e1 : ((1 : Int) == 1) = true := rfl
  refine T.seq_k (fun K_h0 h0 => ?_)
  refine T.regi hm ?_
  simp only [↓reduceIte, namesOf, List.any, I.names, aopsI, astep, ev, setd, List.set, List.cons_append, List.nil_append, List.length_cons, List.length_nil, List.replicate, then_normal, Bool.or_false, Bool.false_eq_true, up_zero, Nat.reduceAdd, Nat.reduceSub]
  refine h0 _ _ ?_
  try clear h0 K_h0
  refine T.seq_k (fun K_h0 h0 => ?_)
  refine T.regi hm ?_
  simp only [↓reduceIte, namesOf, List.any, I.names, aopsI, astep, ev, setd, List.set, List.getD, List.getElem?_cons_zero, List.getElem?_cons_succ, then_normal, Option.getD_some, Bool.or_false, Bool.false_eq_true, up_zero, h1s]
  refine h0 _ _ ?_
  try clear h0 K_h0
  refine T.seq_k (fun K_h1 h1 => ?_)
  refine T.block ?_
  by_cases hl : [c] = l
  · have f1 : decide ([c] = l) = true := decide_eq_true hl
    have hi : Lib.indexByte l c = 0 := by rw [← hl]; simp [Lib.indexByte]
    refine T.seq_k (fun K_h0 h0 => ?_)
    refine T.regi hm ?_
    simp only [↓reduceIte, namesOf, List.any, I.names, aopsI, astep, ev, setd, List.set, List.getD, List.getElem?_cons_zero, List.getElem?_cons_succ, then_normal, Option.getD_some, Bool.or_false, Bool.false_eq_true, up_zero, binv, ↓opt_def, eq_self, e0, sbinv, ba_eq, f1]
    refine h0 _ _ ?_
    try clear h0 K_h0
    refine T.cond rfl (fun _ => ?_) (fun h => by cases h)
    refine T.seq_k (fun K_h0 h0 => ?_)
    refine T.regi hm ?_
    simp only [↓reduceIte, namesOf, List.any, I.names, aopsI, astep, ev, setd, List.set, then_normal, Bool.or_false, Bool.false_eq_true, up_zero]
    refine h0 _ _ ?_
    try clear h0 K_h0
    exact T.ret (Fin.ret rfl ⟨by rw [hi]; rfl, rfl⟩)
  · have f1 : decide ([c] = l) = false := decide_eq_false hl
    refine T.seq_k (fun K_h0 h0 => ?_)
    refine T.regi hm ?_
    simp only [↓reduceIte, namesOf, List.any, I.names, aopsI, astep, ev, setd, List.set, List.getD, List.getElem?_cons_zero, List.getElem?_cons_succ, then_normal, Option.getD_some, Bool.or_false, Bool.false_eq_true, up_zero, binv, ↓opt_def, eq_self, e0, sbinv, ba_eq, f1]
    refine h0 _ _ ?_
    try clear h0 K_h0
    refine T.cond rfl (fun h => by cases h) (fun _ => ?_)
    refine T.seq_k (fun K_h0 h0 => ?_)
    refine T.regi hm ?_
    simp only [↓reduceIte, namesOf, List.any, I.names, aopsI, astep, ev, setd, List.set, List.getD, List.getElem?_cons_zero, List.getElem?_cons_succ, then_normal, Option.getD_some, Bool.or_false, Bool.false_eq_true, up_zero, binv, ↓opt_def, eq_self, e1]
    refine h0 _ _ ?_
    try clear h0 K_h0
    refine T.cond rfl (fun _ => ?_) (fun h => by cases h)
    have i0 : (0 : Int) < 1 := by decide
    have g0 : (⟨[c].toArray⟩ : ByteArray).data.toList[(0 : Int).toNat]? = some c := rfl
    refine T.seq_k (fun K_h2 h2 => ?_)
    refine T.regi hm ?_
    simp only [↓reduceIte, namesOf, List.any, I.names, aopsI, astep, ev, setd, List.set, List.getD, List.getElem?_cons_zero, List.getElem?_cons_succ, then_normal, Option.getD_some, Bool.or_false, Bool.false_eq_true, up_zero, List.map_cons, List.map_nil, h1s, i0, g0, Int.le_refl, and_self]
    refine slIdxB_ok.mono ?_
    rintro v σ1 ⟨rfl, rfl⟩
    try simp only []
    refine h2 _ _ ?_
    try clear h2 K_h2
    exact T.ret (Fin.ret rfl ⟨rfl, rfl⟩)

theorem sindex_ok {l : List UInt8} {c : UInt8} {σ : St} : ACalls Tryd.prog n_sindex [.str ⟨l.toArray⟩, .str ⟨[c].toArray⟩] σ (fun v σ' => v = .int .i64 (Lib.indexByte l c) ∧ σ' = σ) := by
  refine s_sindex (fun wf => ?_)
  unfold c_sindex
  refine T.seq_k (fun K_h0 h0 => ?_)
  refine T.regi hm ?_
  simp only [↓reduceIte, namesOf, List.any, I.names, aopsI, astep, ev, setd, List.set, List.cons_append, List.nil_append, List.length_cons, List.length_nil, List.replicate, then_normal, Bool.or_false, Bool.false_eq_true, up_zero, Nat.reduceAdd, Nat.reduceSub]
  refine h0 _ _ ?_
  try clear h0 K_h0
  refine T.seq_k (fun K_h1 h1 => ?_)
  refine T.regi hm ?_
  simp only [↓reduceIte, namesOf, List.any, I.names, aopsI, astep, ev, setd, List.set, List.getD, List.getElem?_cons_zero, List.getElem?_cons_succ, then_normal, Option.getD_some, Bool.or_false, Bool.false_eq_true, up_zero, List.map_cons, List.map_nil]
  refine slIndex_ok.mono ?_
  rintro v σ1 ⟨rfl, rfl⟩
  try simp only [↓reduceIte, namesOf, List.any, I.names, aops, aopsI, aopsT, qstep, CPt, qget, Tbl.get, astep, ev, setd, List.set, List.getD, List.getElem?_cons_zero, List.getElem?_cons_succ, List.getElem?_nil, List.cons_append, List.nil_append, List.length_cons, List.length_nil, List.replicate, then_normal, inBlock_normal, Option.getD_some, Option.getD_none, Bool.or_false, Bool.or_true, Bool.true_or, Bool.false_or, Bool.false_eq_true, if_false, if_true, up_zero, Nat.reduceAdd, Nat.reduceSub, binv, ↓opt_def, AV.isAny, AV.cells, ldc, List.map_cons, List.map_nil, St.set_next, St.set_same, St.up_next, Int.natCast_nonneg, lt_len, le_len, Int.toNat_natCast, true_and, and_true, eq_self, reduceCtorEq, decide_true, List.length_singleton, er_int, er_bool, er_str, srcR, up_zero]
  refine h1 _ _ ?_
  try clear h1 K_h1
  exact T.ret (Fin.ret rfl ⟨rfl, rfl⟩)

theorem scont_ok {l : List UInt8} {c : UInt8} {σ : St} : ACalls Tryd.prog n_scont [.str ⟨l.toArray⟩, .str ⟨[c].toArray⟩] σ (fun v σ' => v = .bool (decide (Lib.indexByte l c ≥ 0)) ∧ σ' = σ) := by
  refine s_scont (fun wf => ?_)
  unfold c_scont
  refine T.seq_k (fun K_h0 h0 => ?_)
  refine T.regi hm ?_
  simp only [↓reduceIte, namesOf, List.any, I.names, aopsI, astep, ev, setd, List.set, List.cons_append, List.nil_append, List.length_cons, List.length_nil, List.replicate, then_normal, Bool.or_false, Bool.false_eq_true, up_zero, Nat.reduceAdd, Nat.reduceSub]
  refine h0 _ _ ?_
  try clear h0 K_h0
  refine T.seq_k (fun K_h1 h1 => ?_)
  refine T.regi hm ?_
  simp only [↓reduceIte, namesOf, List.any, I.names, aopsI, astep, ev, setd, List.set, List.getD, List.getElem?_cons_zero, List.getElem?_cons_succ, then_normal, Option.getD_some, Bool.or_false, Bool.false_eq_true, up_zero, binv, ↓opt_def, List.map_cons, List.map_nil]
  refine sindex_ok.mono ?_
  rintro v σ1 ⟨rfl, rfl⟩
  try simp only [↓reduceIte, eq_self]
  refine h1 _ _ ?_
  try clear h1 K_h1
  exact T.ret (Fin.ret rfl ⟨rfl, rfl⟩)

theorem idx_mifx (c : UInt8) : decide (Lib.indexByte [109, 105, 102, 120] c ≥ 0) = decide ([c] = [109] ∨ [c] = [105] ∨ [c] = [102] ∨ [c] = [120]) := by
  have : ∀ n : _root_.Fin 256, decide (Lib.indexByte [109, 105, 102, 120] (UInt8.ofNat n.val) ≥ 0) = decide ([UInt8.ofNat n.val] = [109] ∨ [UInt8.ofNat n.val] = [105] ∨ [UInt8.ofNat n.val] = [102] ∨ [UInt8.ofNat n.val] = [120]) := by decide +kernel
  have h := this ⟨c.toNat, c.toNat_lt⟩
  simpa using h

theorem mx_page (page : Int) : (if (0 : Int) > page then (0 : Int) else page) = ((page.toNat : Nat) : Int) := by split <;> omega

theorem rem_page (n : Nat) : ((n : Nat) : Int).tmod 1000 = ((n % 1000 : Nat) : Int) := tmodN n 1000

def nmTop (id : Nat) : List UInt8 := [98, 47] ++ dg 16 16 id

theorem head_len (id : Nat) : (nmHead id).length = 19 := by simp [nmHead, dg_len]

set_option maxRecDepth 10000 in
set_option maxHeartbeats 1000000 in
theorem mName_ok {id : Nat} {what : List UInt8} {page : Int} {σ : St} (hT : Tabs σ) (hid : id < 18446744073709551616) (hp : -9223372036854775808 ≤ page ∧ page ≤ 9223372036854775807) (hw : what.length ≤ 1000000000) :
    ACalls Tryd.prog n_mName [.int .u64 (id : Int), .str ⟨what.toArray⟩, .int .i64 page] σ (fun v σ' => v = .str ⟨(nmF id what page).toArray⟩ ∧ σ' = σ) := by
  refine s_mName (fun wf => ?_)
  unfold c_mName
  have a1 : sbinv .add ⟨#[98, 47]⟩ ⟨(dg 16 16 id).toArray⟩ = some (.str ⟨(nmTop id).toArray⟩) := sb_add (a := [98, 47]) (by rw [dg_len]; simp)
  have a2 : sbinv .add ⟨(nmTop id).toArray⟩ ⟨#[47, 112]⟩ = some (.str ⟨(nmHead id ++ [112]).toArray⟩) := by
    rw [sb_add (a := nmTop id) (b := [47, 112]) (by simp [nmTop, dg_len])]; simp [nmHead, nmTop]
  have a3 : sbinv .add ⟨(nmTop id).toArray⟩ ⟨#[47]⟩ = some (.str ⟨(nmHead id).toArray⟩) := sb_add (a := nmTop id) (b := [47]) (by simp [nmTop, dg_len])
  refine T.seq_k (fun K_h0 h0 => ?_)
  refine T.regi hm ?_
  simp only [↓reduceIte, namesOf, List.any, I.names, aopsI, astep, ev, setd, List.set, List.cons_append, List.nil_append, List.length_cons, List.length_nil, List.replicate, then_normal, Bool.or_false, Bool.false_eq_true, up_zero, Nat.reduceAdd, Nat.reduceSub]
  refine h0 _ _ ?_
  try clear h0 K_h0
  refine T.seq_k (fun K_h1 h1 => ?_)
  refine T.block ?_
  by_cases hwp : what = [112]
  · have f1 : sbinv .eql ⟨what.toArray⟩ ⟨#[112]⟩ = some (.bool true) := by
      simp only [sbinv, ba_eq what [112]]; rw [decide_eq_true hwp]
    have hmx := mx_page page
    have hrem := rem_page page.toNat
    have z1 : ((1000 : Int) = 0) = False := eq_false (by decide)
    have hlt : page.toNat % 1000 < 1000 := Nat.mod_lt _ (by omega)
    have w1 : IntKind.u64.wrap ((page.toNat % 1000 : Nat) : Int) = ((page.toNat % 1000 : Nat) : Int) := u64w (by omega)
    have a4 : sbinv .add ⟨(nmHead id ++ [112]).toArray⟩ ⟨(dg 10 3 (page.toNat % 1000)).toArray⟩ = some (.str ⟨(nmF id what page).toArray⟩) := by
      rw [sb_add (by simp [head_len, dg_len])]; unfold nmF; rw [if_pos hwp]
    refine T.seq_k (fun K_h0 h0 => ?_)
    refine T.regi hm ?_
    simp only [↓reduceIte, namesOf, List.any, I.names, aopsI, astep, ev, setd, List.set, List.getD, List.getElem?_cons_zero, List.getElem?_cons_succ, then_normal, Option.getD_some, Bool.or_false, Bool.false_eq_true, up_zero, ↓opt_def, f1]
    refine h0 _ _ ?_
    try clear h0 K_h0
    refine T.cond rfl (fun _ => ?_) (fun h => by cases h)
    refine T.seq_k (fun K_h2 h2 => ?_)
    refine T.regi hm ?_
    simp only [↓reduceIte, namesOf, List.any, I.names, aopsI, astep, ev, setd, List.set, List.getD, List.getElem?_cons_zero, List.getElem?_cons_succ, then_normal, Option.getD_some, Bool.or_false, Bool.false_eq_true, up_zero, binv, ↓opt_def, List.map_cons, List.map_nil]
    refine (mDig_ok (b := 16) (most := 16) hT (.inl ⟨rfl, rfl, hid⟩)).mono ?_
    rintro v σ1 ⟨rfl, rfl⟩
    try simp only [↓reduceIte, eq_self, a1, a2, mx2, List.foldlM, bind, Option.bind, pure, hmx, hrem, z1, w1]
    refine (mDig_ok (b := 10) (most := 3) (n := page.toNat % 1000) hT (.inr ⟨rfl, rfl, hlt⟩)).mono ?_
    rintro v σ2 ⟨rfl, rfl⟩
    try simp only [a4]
    refine h2 _ _ ?_
    try clear h2 K_h2
    exact T.ret (Fin.ret rfl ⟨rfl, rfl⟩)
  have f1 : sbinv .eql ⟨what.toArray⟩ ⟨#[112]⟩ = some (.bool false) := by
    simp only [sbinv, ba_eq what [112]]; rw [decide_eq_false hwp]
  refine T.seq_k (fun K_h0 h0 => ?_)
  refine T.regi hm ?_
  simp only [↓reduceIte, namesOf, List.any, I.names, aopsI, astep, ev, setd, List.set, List.getD, List.getElem?_cons_zero, List.getElem?_cons_succ, then_normal, Option.getD_some, Bool.or_false, Bool.false_eq_true, up_zero, ↓opt_def, f1]
  refine h0 _ _ ?_
  try clear h0 K_h0
  refine T.cond rfl (fun h => by cases h) (fun _ => ?_)
  have hsz : ((⟨what.toArray⟩ : ByteArray).size : Int) = (what.length : Int) := by rw [sz_mk]
  by_cases hone : ∃ c, what = [c]
  · obtain ⟨c, rfl⟩ := hone
    have e1 : ((⟨[c].toArray⟩ : ByteArray).size : Int) = 1 := rfl
    have e2 : ((1 : Int) == 1) = true := rfl
    refine T.seq_k (fun K_h2 h2 => ?_)
    refine T.regi hm ?_
    simp only [↓reduceIte, namesOf, List.any, I.names, aopsI, astep, ev, setd, List.set, List.getD, List.getElem?_cons_zero, List.getElem?_cons_succ, then_normal, Option.getD_some, Bool.or_false, Bool.false_eq_true, up_zero, binv, ↓opt_def, List.map_cons, List.map_nil, eq_self, e1, e2]
    refine (scont_ok (l := [109, 105, 102, 120])).mono ?_
    rintro v σ1 ⟨rfl, rfl⟩
    rw [idx_mifx]
    try simp only [↓reduceIte, namesOf, List.any, I.names, aops, aopsI, aopsT, qstep, CPt, qget, Tbl.get, astep, ev, setd, List.set, List.getD, List.getElem?_cons_zero, List.getElem?_cons_succ, List.getElem?_nil, List.cons_append, List.nil_append, List.length_cons, List.length_nil, List.replicate, then_normal, inBlock_normal, Option.getD_some, Option.getD_none, Bool.or_false, Bool.or_true, Bool.true_or, Bool.false_or, Bool.false_eq_true, if_false, if_true, up_zero, Nat.reduceAdd, Nat.reduceSub, binv, ↓opt_def, AV.isAny, AV.cells, ldc, List.map_cons, List.map_nil, St.set_next, St.set_same, St.up_next, Int.natCast_nonneg, lt_len, le_len, Int.toNat_natCast, true_and, and_true, eq_self, reduceCtorEq, decide_true, List.length_singleton, er_int, er_bool, er_str, srcR, up_zero]
    refine h2 _ _ ?_
    try clear h2 K_h2
    by_cases hin : [c] = [109] ∨ [c] = [105] ∨ [c] = [102] ∨ [c] = [120]
    · rw [decide_eq_true hin]
      refine T.cond rfl (fun _ => ?_) (fun h => by cases h)
      have a4 : sbinv .add ⟨(nmHead id).toArray⟩ ⟨[c].toArray⟩ = some (.str ⟨(nmF id [c] page).toArray⟩) := by
        rw [sb_add (by simp [head_len])]; unfold nmF; rw [if_neg hwp, if_pos hin]
      refine T.seq_k (fun K_h2 h2 => ?_)
      refine T.regi hm ?_
      simp only [↓reduceIte, namesOf, List.any, I.names, aopsI, astep, ev, setd, List.set, List.getD, List.getElem?_cons_zero, List.getElem?_cons_succ, then_normal, Option.getD_some, Bool.or_false, Bool.false_eq_true, up_zero, ↓opt_def, List.map_cons, List.map_nil]
      refine (mDig_ok (b := 16) (most := 16) hT (.inl ⟨rfl, rfl, hid⟩)).mono ?_
      rintro v σ1 ⟨rfl, rfl⟩
      try simp only [a1, a3, a4]
      refine h2 _ _ ?_
      try clear h2 K_h2
      exact T.ret (Fin.ret rfl ⟨rfl, rfl⟩)
    · rw [decide_eq_false hin]
      refine T.cond rfl (fun h => by cases h) (fun _ => T.skip ?_)
      try simp only [then_normal, inBlock_normal, inBlock_normal]
      refine h1 _ _ ?_
      try clear h1 K_h1
      refine T.seq_k (fun K_h0 h0 => ?_)
      refine T.regi hm ?_
      simp only [↓reduceIte, namesOf, List.any, I.names, aopsI, astep, ev, setd, List.set, then_normal, Bool.or_false, Bool.false_eq_true, up_zero]
      refine h0 _ _ ?_
      try clear h0 K_h0
      exact T.ret (Fin.ret rfl ⟨by unfold nmF; rw [if_neg hwp, if_neg hin]; rfl, rfl⟩)
  · have hl1 : what.length ≠ 1 := fun h => hone (List.length_eq_one_iff.1 h)
    have e2 : ((what.length : Int) == 1) = false := by simp; omega
    have hin : ¬ (what = [109] ∨ what = [105] ∨ what = [102] ∨ what = [120]) := fun h => by
      rcases h with rfl | rfl | rfl | rfl <;> simp at hl1
    refine T.seq_k (fun K_h0 h0 => ?_)
    refine T.regi hm ?_
    simp only [↓reduceIte, namesOf, List.any, I.names, aopsI, astep, ev, setd, List.set, List.getD, List.getElem?_cons_zero, List.getElem?_cons_succ, then_normal, Option.getD_some, Bool.or_false, Bool.false_eq_true, up_zero, binv, ↓opt_def, eq_self, hsz, e2]
    refine h0 _ _ ?_
    try clear h0 K_h0
    refine T.cond rfl (fun h => by cases h) (fun _ => T.skip ?_)
    try simp only [then_normal, inBlock_normal, inBlock_normal]
    refine h1 _ _ ?_
    try clear h1 K_h1
    refine T.seq_k (fun K_h0 h0 => ?_)
    refine T.regi hm ?_
    simp only [↓reduceIte, namesOf, List.any, I.names, aopsI, astep, ev, setd, List.set, then_normal, Bool.or_false, Bool.false_eq_true, up_zero]
    refine h0 _ _ ?_
    try clear h0 K_h0
    exact T.ret (Fin.ret rfl ⟨by unfold nmF; rw [if_neg hwp, if_neg hin]; rfl, rfl⟩)

end Go.VL

namespace Go.VL

open Go.Proofs

abbrev n_mParse : Nat := 20

def c_mParse : C := (.seq (.reg [⟨(some 2), (.mv (.c (.int .u64 0))), none⟩, ⟨(some 3), (.mv (.c (.str ⟨#[]⟩))), none⟩, ⟨(some 4), (.mv (.c (.int .i64 0))), none⟩, ⟨(some 5), (.mv (.c (.bool false))), none⟩]) (.seq (.reg [⟨(some 13), (.mv (.t 0)), none⟩, ⟨(some 14), (.call 41 [(.t 13), (.c (.str ⟨#[47]⟩))]), none⟩, ⟨(some 6), (.mv (.t 14)), none⟩]) (.seq (.seq (.reg [⟨(some 15), (.mv (.t 6)), none⟩, ⟨(some 16), (.len (.t 15)), none⟩, ⟨(some 17), (.bin .neq .i64 (.t 16) (.c (.int .i64 3))), none⟩, ⟨(some 18), (.mv (.t 17)), none⟩, ⟨(some 19), (.mv (.t 6)), (some (18, false))⟩, ⟨(some 20), (.iaddr 1 (.t 19) (.c (.int .i64 2))), (some (18, false))⟩, ⟨(some 21), (.load none (.t 20)), (some (18, false))⟩, ⟨(some 22), (.sbin .eql (.t 21) (.c (.str ⟨#[]⟩))), (some (18, false))⟩, ⟨(some 23), (.pick (.t 18) (.c (.bool true)) (.t 22)), none⟩]) (.cond (.t 23) (.seq (.reg [⟨(some 2), (.mv (.c (.int .u64 0))), none⟩, ⟨(some 3), (.mv (.c (.str ⟨#[]⟩))), none⟩, ⟨(some 4), (.mv (.c (.int .i64 0))), none⟩, ⟨(some 5), (.mv (.c (.bool false))), none⟩]) .ret) .skip)) (.seq (.reg [⟨(some 25), (.mv (.t 6)), none⟩, ⟨(some 26), (.iaddr 1 (.t 25) (.c (.int .i64 1))), none⟩, ⟨(some 27), (.load none (.t 26)), none⟩, ⟨(some 28), (.call 42 [(.t 27), (.c (.int .i64 16)), (.c (.int .i64 64))]), none⟩, ⟨(some 24), (.mv (.t 28)), none⟩, ⟨(some 29), (.ext (.t 24) 0), none⟩, ⟨(some 30), (.ext (.t 24) 1), none⟩, ⟨(some 7), (.mv (.t 29)), none⟩, ⟨(some 8), (.mv (.t 30)), none⟩]) (.seq (.seq (.reg [⟨(some 31), (.mv (.t 8)), none⟩, ⟨(some 32), (.eqI true true [(40, .i64)] (.t 31) (.c .nili)), none⟩]) (.cond (.t 32) (.seq (.reg [⟨(some 2), (.mv (.c (.int .u64 0))), none⟩, ⟨(some 3), (.mv (.c (.str ⟨#[]⟩))), none⟩, ⟨(some 4), (.mv (.c (.int .i64 0))), none⟩, ⟨(some 5), (.mv (.c (.bool false))), none⟩]) .ret) .skip)) (.seq (.reg [⟨(some 33), (.mv (.t 6)), none⟩, ⟨(some 34), (.iaddr 1 (.t 33) (.c (.int .i64 2))), none⟩, ⟨(some 35), (.load none (.t 34)), none⟩, ⟨(some 36), (.sslice (.t 35) none (some (.c (.int .i64 1)))), none⟩, ⟨(some 9), (.mv (.t 36)), none⟩, ⟨(some 10), (.mv (.c (.int .i64 0))), none⟩]) (.seq (.seq (.reg [⟨(some 37), (.mv (.t 9)), none⟩, ⟨(some 38), (.sbin .eql (.t 37) (.c (.str ⟨#[112]⟩))), none⟩]) (.cond (.t 38) (.seq (.reg [⟨(some 40), (.mv (.t 6)), none⟩, ⟨(some 41), (.iaddr 1 (.t 40) (.c (.int .i64 2))), none⟩, ⟨(some 42), (.load none (.t 41)), none⟩, ⟨(some 43), (.sslice (.t 42) (some (.c (.int .i64 1))) none), none⟩, ⟨(some 44), (.call 43 [(.t 43)]), none⟩, ⟨(some 39), (.mv (.t 44)), none⟩, ⟨(some 45), (.ext (.t 39) 0), none⟩, ⟨(some 46), (.ext (.t 39) 1), none⟩, ⟨(some 11), (.mv (.t 45)), none⟩, ⟨(some 12), (.mv (.t 46)), none⟩]) (.seq (.seq (.reg [⟨(some 47), (.mv (.t 12)), none⟩, ⟨(some 48), (.eqI true true [(40, .i64)] (.t 47) (.c .nili)), none⟩]) (.cond (.t 48) (.seq (.reg [⟨(some 2), (.mv (.c (.int .u64 0))), none⟩, ⟨(some 3), (.mv (.c (.str ⟨#[]⟩))), none⟩, ⟨(some 4), (.mv (.c (.int .i64 0))), none⟩, ⟨(some 5), (.mv (.c (.bool false))), none⟩]) .ret) .skip)) (.reg [⟨(some 49), (.mv (.t 11)), none⟩, ⟨(some 10), (.mv (.t 49)), none⟩]))) .skip)) (.seq (.seq (.reg [⟨(some 50), (.mv (.t 7)), none⟩, ⟨(some 51), (.mv (.t 9)), none⟩, ⟨(some 52), (.mv (.t 10)), none⟩, ⟨(some 53), (.call 22 [(.t 50), (.t 51), (.t 52)]), none⟩, ⟨(some 54), (.mv (.t 0)), none⟩, ⟨(some 55), (.sbin .neq (.t 53) (.t 54)), none⟩]) (.cond (.t 55) (.seq (.reg [⟨(some 2), (.mv (.c (.int .u64 0))), none⟩, ⟨(some 3), (.mv (.c (.str ⟨#[]⟩))), none⟩, ⟨(some 4), (.mv (.c (.int .i64 0))), none⟩, ⟨(some 5), (.mv (.c (.bool false))), none⟩]) .ret) .skip)) (.seq (.reg [⟨(some 56), (.mv (.t 7)), none⟩, ⟨(some 57), (.mv (.t 9)), none⟩, ⟨(some 58), (.mv (.t 10)), none⟩, ⟨(some 2), (.mv (.t 56)), none⟩, ⟨(some 3), (.mv (.t 57)), none⟩, ⟨(some 4), (.mv (.t 58)), none⟩, ⟨(some 5), (.mv (.c (.bool true))), none⟩]) .ret)))))))))

set_option maxRecDepth 100000 in
theorem k_mParse : compileC Tryd.prog ann (Tryd.f20.body.getD .skip) = some c_mParse := by kernel_rfl

theorem s_mParse {args : List AV} {σ : St} {K : AV → St → Prop} (h : WF σ → T Tryd.prog ann c_mParse (Fin σ [(.t 2), (.t 3), (.t 4), (.t 5)] K) (args ++ List.replicate (59 - args.length) (.tup [])) σ) : ACalls Tryd.prog n_mParse args σ K :=
  calls_ok Tryd.func20 (by kernel_rfl) (by kernel_rfl) k_mParse (by kernel_rfl) (by kernel_rfl) h

abbrev n_split : Nat := 41

def c_split : C := (.seq (.reg [⟨(some 4), (.mv (.c (.sl [] .nil))), none⟩]) (.seq (.reg [⟨(some 5), (.mv (.t 0)), none⟩, ⟨(some 6), (.mv (.t 1)), none⟩, ⟨(some 7), (.call 59 [(.t 5), (.t 6), (.c (.int .i64 0)), (.c (.int .i64 (-1)))]), none⟩, ⟨(some 4), (.mv (.t 7)), none⟩]) .ret))

set_option maxRecDepth 100000 in
theorem k_split : compileC Tryd.prog ann (Tryd.f41.body.getD .skip) = some c_split := by kernel_rfl

theorem s_split {args : List AV} {σ : St} {K : AV → St → Prop} (h : WF σ → T Tryd.prog ann c_split (Fin σ [(.t 4)] K) (args ++ List.replicate (8 - args.length) (.tup [])) σ) : ACalls Tryd.prog n_split args σ K :=
  calls_ok Tryd.func41 (by kernel_rfl) (by kernel_rfl) k_split (by kernel_rfl) (by kernel_rfl) h

abbrev n_gsplit : Nat := 59

def c_gsplit : C := (.seq (.reg [⟨(some 8), (.mv (.c (.sl [] .nil))), none⟩]) (.seq (.seq (.reg [⟨(some 12), (.mv (.t 3)), none⟩, ⟨(some 13), (.bin .eql .i64 (.t 12) (.c (.int .i64 0))), none⟩]) (.cond (.t 13) (.seq (.reg [⟨(some 8), (.mv (.c (.sl [] .nil))), none⟩]) .ret) .skip)) (.seq (.seq (.reg [⟨(some 14), (.mv (.t 1)), none⟩, ⟨(some 15), (.sbin .eql (.t 14) (.c (.str ⟨#[]⟩))), none⟩]) (.cond (.t 15) (.seq (.reg [⟨(some 16), (.mv (.t 0)), none⟩, ⟨(some 17), (.mv (.t 3)), none⟩, ⟨(some 18), (.call 77 [(.t 16), (.t 17)]), none⟩, ⟨(some 8), (.mv (.t 18)), none⟩]) .ret) .skip)) (.seq (.seq (.reg [⟨(some 19), (.mv (.t 3)), none⟩, ⟨(some 20), (.bin .lss .i64 (.t 19) (.c (.int .i64 0))), none⟩]) (.cond (.t 20) (.reg [⟨(some 21), (.mv (.t 0)), none⟩, ⟨(some 22), (.mv (.t 1)), none⟩, ⟨(some 23), (.call 78 [(.t 21), (.t 22)]), none⟩, ⟨(some 24), (.bin .add .i64 (.t 23) (.c (.int .i64 1))), none⟩, ⟨(some 3), (.mv (.t 24)), none⟩]) .skip)) (.seq (.reg [⟨(some 25), (.mv (.t 3)), none⟩, ⟨(some 26), (.mv (.t 0)), none⟩, ⟨(some 27), (.slen (.t 26)), none⟩, ⟨(some 28), (.bin .add .i64 (.t 27) (.c (.int .i64 1))), none⟩, ⟨(some 29), (.mn [(.t 25), (.t 28)]), none⟩, ⟨(some 3), (.mv (.t 29)), none⟩]) (.seq (.reg [⟨(some 30), (.mv (.t 3)), none⟩, ⟨(some 31), (.mkS 1 16 .own (.str ⟨#[]⟩) (.t 30) (.t 30)), none⟩, ⟨(some 9), (.mv (.t 31)), none⟩]) (.seq (.reg [⟨(some 32), (.mv (.t 3)), none⟩, ⟨(some 33), (.bin .sub .i64 (.t 32) (.c (.int .i64 1))), none⟩, ⟨(some 3), (.mv (.t 33)), none⟩]) (.seq (.reg [⟨(some 10), (.mv (.c (.int .i64 0))), none⟩]) (.seq (.block 0 (.loop (.seq (.seq (.reg [⟨(some 34), (.mv (.t 10)), none⟩, ⟨(some 35), (.mv (.t 3)), none⟩, ⟨(some 36), (.bin .lss .i64 (.t 34) (.t 35)), none⟩]) (.cond (.t 36) .skip (.exit 0))) (.block 1 (.seq (.reg [⟨(some 37), (.mv (.t 0)), none⟩, ⟨(some 38), (.mv (.t 1)), none⟩, ⟨(some 39), (.call 65 [(.t 37), (.t 38)]), none⟩, ⟨(some 11), (.mv (.t 39)), none⟩]) (.seq (.seq (.reg [⟨(some 40), (.mv (.t 11)), none⟩, ⟨(some 41), (.bin .lss .i64 (.t 40) (.c (.int .i64 0))), none⟩]) (.cond (.t 41) (.exit 0) .skip)) (.seq (.reg [⟨(some 42), (.mv (.t 9)), none⟩, ⟨(some 43), (.mv (.t 10)), none⟩, ⟨(some 44), (.mv (.t 0)), none⟩, ⟨(some 45), (.mv (.t 11)), none⟩, ⟨(some 46), (.mv (.t 2)), none⟩, ⟨(some 47), (.bin .add .i64 (.t 45) (.t 46)), none⟩, ⟨(some 48), (.sslice (.t 44) none (some (.t 47))), none⟩, ⟨(some 49), (.iaddr 1 (.t 42) (.t 43)), none⟩, ⟨none, (.store 1 (.t 49) (.t 48)), none⟩]) (.seq (.reg [⟨(some 50), (.mv (.t 0)), none⟩, ⟨(some 51), (.mv (.t 11)), none⟩, ⟨(some 52), (.mv (.t 1)), none⟩, ⟨(some 53), (.slen (.t 52)), none⟩, ⟨(some 54), (.bin .add .i64 (.t 51) (.t 53)), none⟩, ⟨(some 55), (.sslice (.t 50) (some (.t 54)) none), none⟩, ⟨(some 0), (.mv (.t 55)), none⟩]) (.reg [⟨(some 56), (.mv (.t 10)), none⟩, ⟨(some 57), (.bin .add .i64 (.t 56) (.c (.int .i64 1))), none⟩, ⟨(some 10), (.mv (.t 57)), none⟩]))))))))) (.seq (.reg [⟨(some 58), (.mv (.t 9)), none⟩, ⟨(some 59), (.mv (.t 10)), none⟩, ⟨(some 60), (.mv (.t 0)), none⟩, ⟨(some 61), (.iaddr 1 (.t 58) (.t 59)), none⟩, ⟨none, (.store 1 (.t 61) (.t 60)), none⟩]) (.seq (.reg [⟨(some 62), (.mv (.t 9)), none⟩, ⟨(some 63), (.mv (.t 10)), none⟩, ⟨(some 64), (.bin .add .i64 (.t 63) (.c (.int .i64 1))), none⟩, ⟨(some 65), (.slice 1 (.t 62) none (some (.t 64))), none⟩, ⟨(some 8), (.mv (.t 65)), none⟩]) .ret)))))))))))

set_option maxRecDepth 100000 in
theorem k_gsplit : compileC Tryd.prog ann (Tryd.f59.body.getD .skip) = some c_gsplit := by kernel_rfl

theorem s_gsplit {args : List AV} {σ : St} {K : AV → St → Prop} (h : WF σ → T Tryd.prog ann c_gsplit (Fin σ [(.t 8)] K) (args ++ List.replicate (66 - args.length) (.tup [])) σ) : ACalls Tryd.prog n_gsplit args σ K :=
  calls_ok Tryd.func59 (by kernel_rfl) (by kernel_rfl) k_gsplit (by kernel_rfl) (by kernel_rfl) h

abbrev n_scount : Nat := 78

def c_scount : C := (.seq (.reg [⟨(some 4), (.mv (.c (.int .i64 0))), none⟩]) (.seq (.seq (.reg [⟨(some 7), (.mv (.t 1)), none⟩, ⟨(some 8), (.slen (.t 7)), none⟩, ⟨(some 9), (.bin .eql .i64 (.t 8) (.c (.int .i64 0))), none⟩]) (.cond (.t 9) (.seq (.reg [⟨(some 10), (.mv (.t 0)), none⟩, ⟨(some 11), (.call 97 [(.t 10)]), none⟩, ⟨(some 12), (.bin .add .i64 (.t 11) (.c (.int .i64 1))), none⟩, ⟨(some 4), (.mv (.t 12)), none⟩]) .ret) .skip)) (.seq (.seq (.reg [⟨(some 13), (.mv (.t 1)), none⟩, ⟨(some 14), (.slen (.t 13)), none⟩, ⟨(some 15), (.bin .eql .i64 (.t 14) (.c (.int .i64 1))), none⟩]) (.cond (.t 15) (.seq (.reg [⟨(some 16), (.mv (.t 0)), none⟩, ⟨(some 17), (.mv (.t 1)), none⟩, ⟨(some 18), (.idxS (.t 17) (.c (.int .i64 0))), none⟩, ⟨(some 19), (.xcnt (.t 16) (.t 18)), none⟩, ⟨(some 4), (.mv (.t 19)), none⟩]) .ret) .skip)) (.seq (.reg [⟨(some 5), (.mv (.c (.int .i64 0))), none⟩]) (.block 0 (.loop (.block 1 (.seq (.reg [⟨(some 20), (.mv (.t 0)), none⟩, ⟨(some 21), (.mv (.t 1)), none⟩, ⟨(some 22), (.call 65 [(.t 20), (.t 21)]), none⟩, ⟨(some 6), (.mv (.t 22)), none⟩]) (.seq (.seq (.reg [⟨(some 23), (.mv (.t 6)), none⟩, ⟨(some 24), (.bin .eql .i64 (.t 23) (.c (.int .i64 (-1)))), none⟩]) (.cond (.t 24) (.seq (.reg [⟨(some 25), (.mv (.t 5)), none⟩, ⟨(some 4), (.mv (.t 25)), none⟩]) .ret) .skip)) (.seq (.reg [⟨(some 26), (.mv (.t 5)), none⟩, ⟨(some 27), (.bin .add .i64 (.t 26) (.c (.int .i64 1))), none⟩, ⟨(some 5), (.mv (.t 27)), none⟩]) (.reg [⟨(some 28), (.mv (.t 0)), none⟩, ⟨(some 29), (.mv (.t 6)), none⟩, ⟨(some 30), (.mv (.t 1)), none⟩, ⟨(some 31), (.slen (.t 30)), none⟩, ⟨(some 32), (.bin .add .i64 (.t 29) (.t 31)), none⟩, ⟨(some 33), (.sslice (.t 28) (some (.t 32)) none), none⟩, ⟨(some 0), (.mv (.t 33)), none⟩])))))))))))

set_option maxRecDepth 100000 in
theorem k_scount : compileC Tryd.prog ann (Tryd.f78.body.getD .skip) = some c_scount := by kernel_rfl

theorem s_scount {args : List AV} {σ : St} {K : AV → St → Prop} (h : WF σ → T Tryd.prog ann c_scount (Fin σ [(.t 4)] K) (args ++ List.replicate (34 - args.length) (.tup [])) σ) : ACalls Tryd.prog n_scount args σ K :=
  calls_ok Tryd.func78 (by kernel_rfl) (by kernel_rfl) k_scount (by kernel_rfl) (by kernel_rfl) h

abbrev n_parU : Nat := 42

def c_parU : C := (.seq (.reg [⟨(some 6), (.mv (.c (.int .u64 0))), none⟩, ⟨(some 7), (.mv (.c .nili)), none⟩]) (.seq (.reg [⟨(some 11), (.mv (.t 0)), none⟩, ⟨(some 12), (.mv (.t 1)), none⟩, ⟨(some 13), (.mv (.t 2)), none⟩, ⟨(some 14), (.call 60 [(.t 11), (.t 12), (.t 13)]), none⟩, ⟨(some 10), (.mv (.t 14)), none⟩, ⟨(some 15), (.ext (.t 10) 0), none⟩, ⟨(some 16), (.ext (.t 10) 1), none⟩, ⟨(some 8), (.mv (.t 15)), none⟩, ⟨(some 9), (.mv (.t 16)), none⟩]) (.seq (.seq (.reg [⟨(some 17), (.mv (.t 9)), none⟩, ⟨(some 18), (.eqI true true [(40, .i64)] (.t 17) (.c .nili)), none⟩]) (.cond (.t 18) (.seq (.reg [⟨(some 19), (.mv (.t 8)), none⟩, ⟨(some 20), (.mv (.t 0)), none⟩, ⟨(some 21), (.mv (.t 1)), none⟩, ⟨(some 22), (.mv (.t 2)), none⟩, ⟨(some 23), (.mv (.t 9)), none⟩, ⟨(some 24), (.call 61 [(.c (.str ⟨#[80, 97, 114, 115, 101, 85, 105, 110, 116]⟩)), (.t 20), (.t 21), (.t 22), (.t 23)]), none⟩, ⟨(some 6), (.mv (.t 19)), none⟩, ⟨(some 7), (.mv (.t 24)), none⟩]) .ret) .skip)) (.seq (.reg [⟨(some 25), (.mv (.t 8)), none⟩, ⟨(some 6), (.mv (.t 25)), none⟩, ⟨(some 7), (.mv (.c .nili)), none⟩]) .ret))))

set_option maxRecDepth 100000 in
theorem k_parU : compileC Tryd.prog ann (Tryd.f42.body.getD .skip) = some c_parU := by kernel_rfl

theorem s_parU {args : List AV} {σ : St} {K : AV → St → Prop} (h : WF σ → T Tryd.prog ann c_parU (Fin σ [(.t 6), (.t 7)] K) (args ++ List.replicate (26 - args.length) (.tup [])) σ) : ACalls Tryd.prog n_parU args σ K :=
  calls_ok Tryd.func42 (by kernel_rfl) (by kernel_rfl) k_parU (by kernel_rfl) (by kernel_rfl) h

abbrev n_iparU : Nat := 60

def c_iparU : C := (.seq (.reg [⟨(some 6), (.mv (.c (.int .u64 0))), none⟩, ⟨(some 7), (.mv (.c .nili)), none⟩]) (.seq (.seq (.reg [⟨(some 18), (.mv (.t 0)), none⟩, ⟨(some 19), (.sbin .eql (.t 18) (.c (.str ⟨#[]⟩))), none⟩]) (.cond (.t 19) (.seq (.reg [⟨(some 20), (.mkI 115 (.c (.int .i64 2))), none⟩, ⟨(some 6), (.mv (.c (.int .u64 0))), none⟩, ⟨(some 7), (.mv (.t 20)), none⟩]) .ret) .skip)) (.seq (.reg [⟨(some 21), (.mv (.t 1)), none⟩, ⟨(some 22), (.bin .eql .i64 (.t 21) (.c (.int .i64 0))), none⟩, ⟨(some 8), (.mv (.t 22)), none⟩]) (.seq (.reg [⟨(some 23), (.mv (.t 0)), none⟩, ⟨(some 9), (.mv (.t 23)), none⟩]) (.seq (.block 0 (.seq (.reg [⟨(some 26), (.mv (.t 1)), none⟩, ⟨(some 27), (.bin .leq .i64 (.c (.int .i64 2)) (.t 26)), none⟩, ⟨(some 28), (.mv (.t 27)), none⟩, ⟨(some 29), (.mv (.t 1)), (some (28, true))⟩, ⟨(some 30), (.bin .leq .i64 (.t 29) (.c (.int .i64 36))), (some (28, true))⟩, ⟨(some 31), (.pick (.t 28) (.t 30) (.c (.bool false))), none⟩, ⟨(some 25), (.mv (.t 31)), none⟩]) (.cond (.t 25) .skip (.seq (.reg [⟨(some 33), (.mv (.t 1)), none⟩, ⟨(some 34), (.bin .eql .i64 (.t 33) (.c (.int .i64 0))), none⟩, ⟨(some 32), (.mv (.t 34)), none⟩]) (.cond (.t 32) (.seq (.reg [⟨(some 1), (.mv (.c (.int .i64 10))), none⟩]) (.seq (.reg [⟨(some 35), (.mv (.t 0)), none⟩, ⟨(some 36), (.idxS (.t 35) (.c (.int .i64 0))), none⟩, ⟨(some 37), (.bin .eql .u8 (.t 36) (.c (.int .u8 48))), none⟩]) (.cond (.t 37) (.block 1 (.seq (.reg [⟨(some 41), (.mv (.t 0)), none⟩, ⟨(some 42), (.slen (.t 41)), none⟩, ⟨(some 43), (.bin .geq .i64 (.t 42) (.c (.int .i64 3))), none⟩, ⟨(some 44), (.mv (.t 43)), none⟩, ⟨(some 45), (.mv (.t 0)), (some (44, true))⟩, ⟨(some 46), (.idxS (.t 45) (.c (.int .i64 1))), (some (44, true))⟩, ⟨(some 47), (.call 79 [(.t 46)]), (some (44, true))⟩, ⟨(some 48), (.bin .eql .u8 (.t 47) (.c (.int .u8 98))), (some (44, true))⟩, ⟨(some 49), (.pick (.t 44) (.t 48) (.c (.bool false))), none⟩, ⟨(some 40), (.mv (.t 49)), none⟩]) (.cond (.t 40) (.seq (.reg [⟨(some 1), (.mv (.c (.int .i64 2))), none⟩]) (.reg [⟨(some 50), (.mv (.t 0)), none⟩, ⟨(some 51), (.sslice (.t 50) (some (.c (.int .i64 2))) none), none⟩, ⟨(some 0), (.mv (.t 51)), none⟩])) (.seq (.reg [⟨(some 53), (.mv (.t 0)), none⟩, ⟨(some 54), (.slen (.t 53)), none⟩, ⟨(some 55), (.bin .geq .i64 (.t 54) (.c (.int .i64 3))), none⟩, ⟨(some 56), (.mv (.t 55)), none⟩, ⟨(some 57), (.mv (.t 0)), (some (56, true))⟩, ⟨(some 58), (.idxS (.t 57) (.c (.int .i64 1))), (some (56, true))⟩, ⟨(some 59), (.call 79 [(.t 58)]), (some (56, true))⟩, ⟨(some 60), (.bin .eql .u8 (.t 59) (.c (.int .u8 111))), (some (56, true))⟩, ⟨(some 61), (.pick (.t 56) (.t 60) (.c (.bool false))), none⟩, ⟨(some 52), (.mv (.t 61)), none⟩]) (.cond (.t 52) (.seq (.reg [⟨(some 1), (.mv (.c (.int .i64 8))), none⟩]) (.reg [⟨(some 62), (.mv (.t 0)), none⟩, ⟨(some 63), (.sslice (.t 62) (some (.c (.int .i64 2))) none), none⟩, ⟨(some 0), (.mv (.t 63)), none⟩])) (.seq (.reg [⟨(some 65), (.mv (.t 0)), none⟩, ⟨(some 66), (.slen (.t 65)), none⟩, ⟨(some 67), (.bin .geq .i64 (.t 66) (.c (.int .i64 3))), none⟩, ⟨(some 68), (.mv (.t 67)), none⟩, ⟨(some 69), (.mv (.t 0)), (some (68, true))⟩, ⟨(some 70), (.idxS (.t 69) (.c (.int .i64 1))), (some (68, true))⟩, ⟨(some 71), (.call 79 [(.t 70)]), (some (68, true))⟩, ⟨(some 72), (.bin .eql .u8 (.t 71) (.c (.int .u8 120))), (some (68, true))⟩, ⟨(some 73), (.pick (.t 68) (.t 72) (.c (.bool false))), none⟩, ⟨(some 64), (.mv (.t 73)), none⟩]) (.cond (.t 64) (.seq (.reg [⟨(some 1), (.mv (.c (.int .i64 16))), none⟩]) (.reg [⟨(some 74), (.mv (.t 0)), none⟩, ⟨(some 75), (.sslice (.t 74) (some (.c (.int .i64 2))) none), none⟩, ⟨(some 0), (.mv (.t 75)), none⟩])) (.seq (.reg [⟨(some 1), (.mv (.c (.int .i64 8))), none⟩]) (.reg [⟨(some 38), (.mv (.t 0)), none⟩, ⟨(some 39), (.sslice (.t 38) (some (.c (.int .i64 1))) none), none⟩, ⟨(some 0), (.mv (.t 39)), none⟩]))))))))) .skip))) (.seq (.reg [⟨(some 24), (.mkI 115 (.c (.int .i64 3))), none⟩, ⟨(some 6), (.mv (.c (.int .u64 0))), none⟩, ⟨(some 7), (.mv (.t 24)), none⟩]) .ret)))))) (.seq (.seq (.reg [⟨(some 76), (.mv (.t 2)), none⟩, ⟨(some 77), (.bin .eql .i64 (.t 76) (.c (.int .i64 0))), none⟩]) (.cond (.t 77) (.reg [⟨(some 2), (.mv (.c (.int .i64 64))), none⟩]) (.seq (.reg [⟨(some 78), (.mv (.t 2)), none⟩, ⟨(some 79), (.bin .lss .i64 (.t 78) (.c (.int .i64 0))), none⟩, ⟨(some 80), (.mv (.t 79)), none⟩, ⟨(some 81), (.mv (.t 2)), (some (80, false))⟩, ⟨(some 82), (.bin .gtr .i64 (.t 81) (.c (.int .i64 64))), (some (80, false))⟩, ⟨(some 83), (.pick (.t 80) (.c (.bool true)) (.t 82)), none⟩]) (.cond (.t 83) (.seq (.reg [⟨(some 84), (.mkI 115 (.c (.int .i64 4))), none⟩, ⟨(some 6), (.mv (.c (.int .u64 0))), none⟩, ⟨(some 7), (.mv (.t 84)), none⟩]) .ret) .skip)))) (.seq (.reg [⟨(some 10), (.mv (.c (.int .u64 0))), none⟩]) (.seq (.seq (.reg [⟨(some 85), (.mv (.t 1)), none⟩]) (.block 2 (.seq (.reg [⟨(some 91), (.bin .eql .i64 (.t 85) (.c (.int .i64 10))), none⟩, ⟨(some 90), (.mv (.t 91)), none⟩]) (.cond (.t 90) (.reg [⟨(some 10), (.mv (.c (.int .u64 1844674407370955162))), none⟩]) (.seq (.reg [⟨(some 93), (.bin .eql .i64 (.t 85) (.c (.int .i64 16))), none⟩, ⟨(some 92), (.mv (.t 93)), none⟩]) (.cond (.t 92) (.reg [⟨(some 10), (.mv (.c (.int .u64 1152921504606846976))), none⟩]) (.reg [⟨(some 86), (.mv (.t 1)), none⟩, ⟨(some 87), (.conv .u64 (.t 86)), none⟩, ⟨(some 88), (.bin .quo .u64 (.c (.int .u64 18446744073709551615)) (.t 87)), none⟩, ⟨(some 89), (.bin .add .u64 (.t 88) (.c (.int .u64 1))), none⟩, ⟨(some 10), (.mv (.t 89)), none⟩]))))))) (.seq (.reg [⟨(some 94), (.mv (.t 2)), none⟩, ⟨(some 95), (.conv .u64 (.t 94)), none⟩, ⟨(some 96), (.bin .shl .u64 (.c (.int .u64 1)) (.t 95)), none⟩, ⟨(some 97), (.bin .sub .u64 (.t 96) (.c (.int .u64 1))), none⟩, ⟨(some 11), (.mv (.t 97)), none⟩]) (.seq (.reg [⟨(some 12), (.mv (.c (.bool false))), none⟩]) (.seq (.reg [⟨(some 13), (.mv (.c (.int .u64 0))), none⟩]) (.seq (.seq (.reg [⟨(some 98), (.mv (.t 0)), none⟩, ⟨(some 99), (.convSB .tip (.t 98)), none⟩, ⟨(some 100), (.len (.t 99)), none⟩, ⟨(some 101), (.mv (.c (.int .i64 0))), none⟩]) (.block 3 (.loop (.seq (.reg [⟨(some 102), (.bin .lss .i64 (.t 101) (.t 100)), none⟩]) (.seq (.cond (.t 102) .skip (.exit 3)) (.seq (.block 4 (.seq (.reg [⟨(some 103), (.iaddr 1 (.t 99) (.t 101)), none⟩, ⟨(some 104), (.load none (.t 103)), none⟩, ⟨(some 15), (.mv (.t 104)), none⟩]) (.seq (.reg [⟨(some 16), (.mv (.c (.int .u8 0))), none⟩]) (.seq (.block 5 (.seq (.reg [⟨(some 107), (.mv (.t 15)), none⟩, ⟨(some 108), (.bin .eql .u8 (.t 107) (.c (.int .u8 95))), none⟩, ⟨(some 109), (.mv (.t 108)), none⟩, ⟨(some 110), (.mv (.t 8)), (some (109, true))⟩, ⟨(some 111), (.pick (.t 109) (.t 110) (.c (.bool false))), none⟩, ⟨(some 106), (.mv (.t 111)), none⟩]) (.cond (.t 106) (.seq (.reg [⟨(some 12), (.mv (.c (.bool true))), none⟩]) (.exit 4)) (.seq (.reg [⟨(some 113), (.mv (.t 15)), none⟩, ⟨(some 114), (.bin .leq .u8 (.c (.int .u8 48)) (.t 113)), none⟩, ⟨(some 115), (.mv (.t 114)), none⟩, ⟨(some 116), (.mv (.t 15)), (some (115, true))⟩, ⟨(some 117), (.bin .leq .u8 (.t 116) (.c (.int .u8 57))), (some (115, true))⟩, ⟨(some 118), (.pick (.t 115) (.t 117) (.c (.bool false))), none⟩, ⟨(some 112), (.mv (.t 118)), none⟩]) (.cond (.t 112) (.reg [⟨(some 119), (.mv (.t 15)), none⟩, ⟨(some 120), (.bin .sub .u8 (.t 119) (.c (.int .u8 48))), none⟩, ⟨(some 16), (.mv (.t 120)), none⟩]) (.seq (.reg [⟨(some 122), (.mv (.t 15)), none⟩, ⟨(some 123), (.call 79 [(.t 122)]), none⟩, ⟨(some 124), (.bin .leq .u8 (.c (.int .u8 97)) (.t 123)), none⟩, ⟨(some 125), (.mv (.t 124)), none⟩, ⟨(some 126), (.mv (.t 15)), (some (125, true))⟩, ⟨(some 127), (.call 79 [(.t 126)]), (some (125, true))⟩, ⟨(some 128), (.bin .leq .u8 (.t 127) (.c (.int .u8 122))), (some (125, true))⟩, ⟨(some 129), (.pick (.t 125) (.t 128) (.c (.bool false))), none⟩, ⟨(some 121), (.mv (.t 129)), none⟩]) (.cond (.t 121) (.reg [⟨(some 130), (.mv (.t 15)), none⟩, ⟨(some 131), (.call 79 [(.t 130)]), none⟩, ⟨(some 132), (.bin .sub .u8 (.t 131) (.c (.int .u8 97))), none⟩, ⟨(some 133), (.bin .add .u8 (.t 132) (.c (.int .u8 10))), none⟩, ⟨(some 16), (.mv (.t 133)), none⟩]) (.seq (.reg [⟨(some 105), (.mkI 115 (.c (.int .i64 2))), none⟩, ⟨(some 6), (.mv (.c (.int .u64 0))), none⟩, ⟨(some 7), (.mv (.t 105)), none⟩]) .ret)))))))) (.seq (.seq (.reg [⟨(some 134), (.mv (.t 16)), none⟩, ⟨(some 135), (.mv (.t 1)), none⟩, ⟨(some 136), (.conv .u8 (.t 135)), none⟩, ⟨(some 137), (.bin .geq .u8 (.t 134) (.t 136)), none⟩]) (.cond (.t 137) (.seq (.reg [⟨(some 138), (.mkI 115 (.c (.int .i64 2))), none⟩, ⟨(some 6), (.mv (.c (.int .u64 0))), none⟩, ⟨(some 7), (.mv (.t 138)), none⟩]) .ret) .skip)) (.seq (.seq (.reg [⟨(some 139), (.mv (.t 13)), none⟩, ⟨(some 140), (.mv (.t 10)), none⟩, ⟨(some 141), (.bin .geq .u64 (.t 139) (.t 140)), none⟩]) (.cond (.t 141) (.seq (.reg [⟨(some 142), (.mv (.t 11)), none⟩, ⟨(some 143), (.mkI 115 (.c (.int .i64 1))), none⟩, ⟨(some 6), (.mv (.t 142)), none⟩, ⟨(some 7), (.mv (.t 143)), none⟩]) .ret) .skip)) (.seq (.reg [⟨(some 144), (.mv (.t 13)), none⟩, ⟨(some 145), (.mv (.t 1)), none⟩, ⟨(some 146), (.conv .u64 (.t 145)), none⟩, ⟨(some 147), (.bin .mul .u64 (.t 144) (.t 146)), none⟩, ⟨(some 13), (.mv (.t 147)), none⟩]) (.seq (.reg [⟨(some 148), (.mv (.t 13)), none⟩, ⟨(some 149), (.mv (.t 16)), none⟩, ⟨(some 150), (.conv .u64 (.t 149)), none⟩, ⟨(some 151), (.bin .add .u64 (.t 148) (.t 150)), none⟩, ⟨(some 17), (.mv (.t 151)), none⟩]) (.seq (.seq (.reg [⟨(some 152), (.mv (.t 17)), none⟩, ⟨(some 153), (.mv (.t 13)), none⟩, ⟨(some 154), (.bin .lss .u64 (.t 152) (.t 153)), none⟩, ⟨(some 155), (.mv (.t 154)), none⟩, ⟨(some 156), (.mv (.t 17)), (some (155, false))⟩, ⟨(some 157), (.mv (.t 11)), (some (155, false))⟩, ⟨(some 158), (.bin .gtr .u64 (.t 156) (.t 157)), (some (155, false))⟩, ⟨(some 159), (.pick (.t 155) (.c (.bool true)) (.t 158)), none⟩]) (.cond (.t 159) (.seq (.reg [⟨(some 160), (.mv (.t 11)), none⟩, ⟨(some 161), (.mkI 115 (.c (.int .i64 1))), none⟩, ⟨(some 6), (.mv (.t 160)), none⟩, ⟨(some 7), (.mv (.t 161)), none⟩]) .ret) .skip)) (.reg [⟨(some 162), (.mv (.t 17)), none⟩, ⟨(some 13), (.mv (.t 162)), none⟩])))))))))) (.reg [⟨(some 163), (.bin .add .i64 (.t 101) (.c (.int .i64 1))), none⟩, ⟨(some 101), (.mv (.t 163)), none⟩]))))))) (.seq (.seq (.reg [⟨(some 164), (.mv (.t 12)), none⟩, ⟨(some 165), (.mv (.t 164)), none⟩, ⟨(some 166), (.mv (.t 9)), (some (165, true))⟩, ⟨(some 167), (.call 80 [(.t 166)]), (some (165, true))⟩, ⟨(some 168), (.not (.t 167)), (some (165, true))⟩, ⟨(some 169), (.pick (.t 165) (.t 168) (.c (.bool false))), none⟩]) (.cond (.t 169) (.seq (.reg [⟨(some 170), (.mkI 115 (.c (.int .i64 2))), none⟩, ⟨(some 6), (.mv (.c (.int .u64 0))), none⟩, ⟨(some 7), (.mv (.t 170)), none⟩]) .ret) .skip)) (.seq (.reg [⟨(some 171), (.mv (.t 13)), none⟩, ⟨(some 6), (.mv (.t 171)), none⟩, ⟨(some 7), (.mv (.c .nili)), none⟩]) .ret))))))))))))))

set_option maxRecDepth 100000 in
theorem k_iparU : compileC Tryd.prog ann (Tryd.f60.body.getD .skip) = some c_iparU := by kernel_rfl

theorem s_iparU {args : List AV} {σ : St} {K : AV → St → Prop} (h : WF σ → T Tryd.prog ann c_iparU (Fin σ [(.t 6), (.t 7)] K) (args ++ List.replicate (172 - args.length) (.tup [])) σ) : ACalls Tryd.prog n_iparU args σ K :=
  calls_ok Tryd.func60 (by kernel_rfl) (by kernel_rfl) k_iparU (by kernel_rfl) (by kernel_rfl) h

abbrev n_lower : Nat := 79

def c_lower : C := (.seq (.reg [⟨(some 2), (.mv (.c (.int .u8 0))), none⟩]) (.seq (.reg [⟨(some 3), (.mv (.t 0)), none⟩, ⟨(some 4), (.bin .or .u8 (.t 3) (.c (.int .u8 32))), none⟩, ⟨(some 2), (.mv (.t 4)), none⟩]) .ret))

set_option maxRecDepth 100000 in
theorem k_lower : compileC Tryd.prog ann (Tryd.f79.body.getD .skip) = some c_lower := by kernel_rfl

theorem s_lower {args : List AV} {σ : St} {K : AV → St → Prop} (h : WF σ → T Tryd.prog ann c_lower (Fin σ [(.t 2)] K) (args ++ List.replicate (5 - args.length) (.tup [])) σ) : ACalls Tryd.prog n_lower args σ K :=
  calls_ok Tryd.func79 (by kernel_rfl) (by kernel_rfl) k_lower (by kernel_rfl) (by kernel_rfl) h

abbrev ann_toErr : Ann := { errs := [(40, .i64), (115, .i64)] }

abbrev n_toErr : Nat := 61

def c_toErr : C := (.seq (.reg [⟨(some 10), (.mv (.c .nili)), none⟩]) (.seq (.seq (.reg [⟨(some 11), (.mv (.t 4)), none⟩]) (.block 0 (.seq (.reg [⟨(some 13), (.mkI 115 (.c (.int .i64 2))), none⟩, ⟨(some 14), (.eqI false false [(40, .i64), (115, .i64)] (.t 11) (.t 13)), none⟩, ⟨(some 12), (.mv (.t 14)), none⟩]) (.cond (.t 12) (.seq (.reg [⟨(some 15), (.mv (.t 0)), none⟩, ⟨(some 16), (.mv (.t 1)), none⟩, ⟨(some 17), (.call 81 [(.t 15), (.t 16)]), none⟩, ⟨(some 18), (.mkI 117 (.t 17)), none⟩, ⟨(some 10), (.mv (.t 18)), none⟩]) .ret) (.seq (.reg [⟨(some 20), (.mkI 115 (.c (.int .i64 1))), none⟩, ⟨(some 21), (.eqI false false [(40, .i64), (115, .i64)] (.t 11) (.t 20)), none⟩, ⟨(some 19), (.mv (.t 21)), none⟩]) (.cond (.t 19) (.seq (.reg [⟨(some 22), (.mv (.t 0)), none⟩, ⟨(some 23), (.mv (.t 1)), none⟩, ⟨(some 24), (.call 82 [(.t 22), (.t 23)]), none⟩, ⟨(some 25), (.mkI 117 (.t 24)), none⟩, ⟨(some 10), (.mv (.t 25)), none⟩]) .ret) (.seq (.reg [⟨(some 27), (.mkI 115 (.c (.int .i64 3))), none⟩, ⟨(some 28), (.eqI false false [(40, .i64), (115, .i64)] (.t 11) (.t 27)), none⟩, ⟨(some 26), (.mv (.t 28)), none⟩]) (.cond (.t 26) (.seq (.reg [⟨(some 29), (.mv (.t 0)), none⟩, ⟨(some 30), (.mv (.t 1)), none⟩, ⟨(some 31), (.mv (.t 2)), none⟩, ⟨(some 32), (.call 83 [(.t 29), (.t 30), (.t 31)]), none⟩, ⟨(some 33), (.mkI 117 (.t 32)), none⟩, ⟨(some 10), (.mv (.t 33)), none⟩]) .ret) (.seq (.reg [⟨(some 35), (.mkI 115 (.c (.int .i64 4))), none⟩, ⟨(some 36), (.eqI false false [(40, .i64), (115, .i64)] (.t 11) (.t 35)), none⟩, ⟨(some 34), (.mv (.t 36)), none⟩]) (.cond (.t 34) (.seq (.reg [⟨(some 37), (.mv (.t 0)), none⟩, ⟨(some 38), (.mv (.t 1)), none⟩, ⟨(some 39), (.mv (.t 3)), none⟩, ⟨(some 40), (.call 84 [(.t 37), (.t 38), (.t 39)]), none⟩, ⟨(some 41), (.mkI 117 (.t 40)), none⟩, ⟨(some 10), (.mv (.t 41)), none⟩]) .ret) .skip)))))))))) (.seq (.reg [⟨(some 42), (.mv (.t 4)), none⟩, ⟨(some 10), (.mv (.t 42)), none⟩]) .ret)))

set_option maxRecDepth 100000 in
theorem k_toErr : compileC Tryd.prog ann_toErr (Tryd.f61.body.getD .skip) = some c_toErr := by kernel_rfl

theorem s_toErr {args : List AV} {σ : St} {K : AV → St → Prop} (h : WF σ → T Tryd.prog ann_toErr c_toErr (Fin σ [(.t 10)] K) (args ++ List.replicate (43 - args.length) (.tup [])) σ) : ACalls Tryd.prog n_toErr args σ K :=
  calls_ok Tryd.func61 (by kernel_rfl) (by kernel_rfl) k_toErr (by kernel_rfl) (by kernel_rfl) h

abbrev n_synErr : Nat := 81

def c_synErr : C := (.seq (.reg [⟨(some 4), (.mv (.c .nilp)), none⟩]) (.seq (.reg [⟨(some 5), (.mv (.t 0)), none⟩, ⟨(some 6), (.mv (.t 1)), none⟩, ⟨(some 7), (.qcall 100 [(.t 6)]), none⟩, ⟨(some 8), (.gload 0 none), none⟩, ⟨(some 9), (.build [(.str ⟨#[]⟩), (.str ⟨#[]⟩), .nili] [(0, (1, (.t 5))), (1, (1, (.t 7))), (2, (1, (.t 8)))]), none⟩, ⟨(some 10), (.box (.t 9)), none⟩, ⟨(some 4), (.mv (.t 10)), none⟩]) .ret))

set_option maxRecDepth 100000 in
theorem k_synErr : compileC Tryd.prog ann (Tryd.f81.body.getD .skip) = some c_synErr := by kernel_rfl

theorem s_synErr {args : List AV} {σ : St} {K : AV → St → Prop} (h : WF σ → T Tryd.prog ann c_synErr (Fin σ [(.t 4)] K) (args ++ List.replicate (11 - args.length) (.tup [])) σ) : ACalls Tryd.prog n_synErr args σ K :=
  calls_ok Tryd.func81 (by kernel_rfl) (by kernel_rfl) k_synErr (by kernel_rfl) (by kernel_rfl) h

abbrev n_rngErr : Nat := 82

def c_rngErr : C := (.seq (.reg [⟨(some 4), (.mv (.c .nilp)), none⟩]) (.seq (.reg [⟨(some 5), (.mv (.t 0)), none⟩, ⟨(some 6), (.mv (.t 1)), none⟩, ⟨(some 7), (.qcall 100 [(.t 6)]), none⟩, ⟨(some 8), (.gload 1 none), none⟩, ⟨(some 9), (.build [(.str ⟨#[]⟩), (.str ⟨#[]⟩), .nili] [(0, (1, (.t 5))), (1, (1, (.t 7))), (2, (1, (.t 8)))]), none⟩, ⟨(some 10), (.box (.t 9)), none⟩, ⟨(some 4), (.mv (.t 10)), none⟩]) .ret))

set_option maxRecDepth 100000 in
theorem k_rngErr : compileC Tryd.prog ann (Tryd.f82.body.getD .skip) = some c_rngErr := by kernel_rfl

theorem s_rngErr {args : List AV} {σ : St} {K : AV → St → Prop} (h : WF σ → T Tryd.prog ann c_rngErr (Fin σ [(.t 4)] K) (args ++ List.replicate (11 - args.length) (.tup [])) σ) : ACalls Tryd.prog n_rngErr args σ K :=
  calls_ok Tryd.func82 (by kernel_rfl) (by kernel_rfl) k_rngErr (by kernel_rfl) (by kernel_rfl) h

abbrev n_atoi : Nat := 43

def c_atoi : C := (.seq (.reg [⟨(some 2), (.mv (.c (.int .i64 0))), none⟩, ⟨(some 3), (.mv (.c .nili)), none⟩]) (.seq (.reg [⟨(some 7), (.mv (.t 0)), none⟩, ⟨(some 8), (.call 62 [(.t 7)]), none⟩, ⟨(some 6), (.mv (.t 8)), none⟩, ⟨(some 9), (.ext (.t 6) 0), none⟩, ⟨(some 10), (.ext (.t 6) 1), none⟩, ⟨(some 4), (.mv (.t 9)), none⟩, ⟨(some 5), (.mv (.t 10)), none⟩]) (.seq (.seq (.reg [⟨(some 11), (.mv (.t 5)), none⟩, ⟨(some 12), (.eqI true true [(40, .i64)] (.t 11) (.c .nili)), none⟩]) (.cond (.t 12) (.seq (.reg [⟨(some 13), (.mv (.t 4)), none⟩, ⟨(some 14), (.mv (.t 0)), none⟩, ⟨(some 15), (.mv (.t 5)), none⟩, ⟨(some 16), (.call 61 [(.c (.str ⟨#[65, 116, 111, 105]⟩)), (.t 14), (.c (.int .i64 0)), (.c (.int .i64 0)), (.t 15)]), none⟩, ⟨(some 2), (.mv (.t 13)), none⟩, ⟨(some 3), (.mv (.t 16)), none⟩]) .ret) .skip)) (.seq (.reg [⟨(some 17), (.mv (.t 4)), none⟩, ⟨(some 2), (.mv (.t 17)), none⟩, ⟨(some 3), (.mv (.c .nili)), none⟩]) .ret))))

set_option maxRecDepth 100000 in
theorem k_atoi : compileC Tryd.prog ann (Tryd.f43.body.getD .skip) = some c_atoi := by kernel_rfl

theorem s_atoi {args : List AV} {σ : St} {K : AV → St → Prop} (h : WF σ → T Tryd.prog ann c_atoi (Fin σ [(.t 2), (.t 3)] K) (args ++ List.replicate (18 - args.length) (.tup [])) σ) : ACalls Tryd.prog n_atoi args σ K :=
  calls_ok Tryd.func43 (by kernel_rfl) (by kernel_rfl) k_atoi (by kernel_rfl) (by kernel_rfl) h

abbrev n_iatoi : Nat := 62

def c_iatoi : C := (.seq (.reg [⟨(some 2), (.mv (.c (.int .i64 0))), none⟩, ⟨(some 3), (.mv (.c .nili)), none⟩]) (.seq (.reg [⟨(some 11), (.mv (.t 0)), none⟩, ⟨(some 12), (.slen (.t 11)), none⟩, ⟨(some 4), (.mv (.t 12)), none⟩]) (.seq (.seq (.reg [⟨(some 13), (.mv (.c (.bool false))), none⟩, ⟨(some 14), (.mv (.t 4)), (some (13, true))⟩, ⟨(some 15), (.bin .lss .i64 (.c (.int .i64 0)) (.t 14)), (some (13, true))⟩, ⟨(some 16), (.mv (.t 15)), (some (13, true))⟩, ⟨(some 17), (.mv (.t 4)), (some (16, true))⟩, ⟨(some 18), (.bin .lss .i64 (.t 17) (.c (.int .i64 10))), (some (16, true))⟩, ⟨(some 19), (.pick (.t 16) (.t 18) (.c (.bool false))), (some (13, true))⟩, ⟨(some 20), (.pick (.t 13) (.t 19) (.c (.bool false))), none⟩, ⟨(some 21), (.mv (.t 20)), none⟩, ⟨(some 22), (.mv (.c (.bool true))), (some (21, false))⟩, ⟨(some 23), (.mv (.t 4)), (some (22, true))⟩, ⟨(some 24), (.bin .lss .i64 (.c (.int .i64 0)) (.t 23)), (some (22, true))⟩, ⟨(some 25), (.mv (.t 24)), (some (22, true))⟩, ⟨(some 26), (.mv (.t 4)), (some (25, true))⟩, ⟨(some 27), (.bin .lss .i64 (.t 26) (.c (.int .i64 19))), (some (25, true))⟩, ⟨(some 28), (.pick (.t 25) (.t 27) (.c (.bool false))), (some (22, true))⟩, ⟨(some 29), (.pick (.t 22) (.t 28) (.c (.bool false))), (some (21, false))⟩, ⟨(some 30), (.pick (.t 21) (.c (.bool true)) (.t 29)), none⟩]) (.cond (.t 30) (.seq (.reg [⟨(some 31), (.mv (.t 0)), none⟩, ⟨(some 5), (.mv (.t 31)), none⟩]) (.seq (.seq (.reg [⟨(some 32), (.mv (.t 0)), none⟩, ⟨(some 33), (.idxS (.t 32) (.c (.int .i64 0))), none⟩, ⟨(some 34), (.bin .eql .u8 (.t 33) (.c (.int .u8 45))), none⟩, ⟨(some 35), (.mv (.t 34)), none⟩, ⟨(some 36), (.mv (.t 0)), (some (35, false))⟩, ⟨(some 37), (.idxS (.t 36) (.c (.int .i64 0))), (some (35, false))⟩, ⟨(some 38), (.bin .eql .u8 (.t 37) (.c (.int .u8 43))), (some (35, false))⟩, ⟨(some 39), (.pick (.t 35) (.c (.bool true)) (.t 38)), none⟩]) (.cond (.t 39) (.seq (.reg [⟨(some 40), (.mv (.t 0)), none⟩, ⟨(some 41), (.sslice (.t 40) (some (.c (.int .i64 1))) none), none⟩, ⟨(some 0), (.mv (.t 41)), none⟩]) (.seq (.reg [⟨(some 42), (.mv (.t 0)), none⟩, ⟨(some 43), (.slen (.t 42)), none⟩, ⟨(some 44), (.bin .lss .i64 (.t 43) (.c (.int .i64 1))), none⟩]) (.cond (.t 44) (.seq (.reg [⟨(some 45), (.mkI 115 (.c (.int .i64 2))), none⟩, ⟨(some 2), (.mv (.c (.int .i64 0))), none⟩, ⟨(some 3), (.mv (.t 45)), none⟩]) .ret) .skip))) .skip)) (.seq (.reg [⟨(some 6), (.mv (.c (.int .i64 0))), none⟩]) (.seq (.seq (.reg [⟨(some 46), (.mv (.t 0)), none⟩, ⟨(some 47), (.convSB .tip (.t 46)), none⟩, ⟨(some 48), (.len (.t 47)), none⟩, ⟨(some 49), (.mv (.c (.int .i64 0))), none⟩]) (.block 0 (.loop (.seq (.reg [⟨(some 50), (.bin .lss .i64 (.t 49) (.t 48)), none⟩]) (.seq (.cond (.t 50) .skip (.exit 0)) (.seq (.block 1 (.seq (.reg [⟨(some 51), (.iaddr 1 (.t 47) (.t 49)), none⟩, ⟨(some 52), (.load none (.t 51)), none⟩, ⟨(some 8), (.mv (.t 52)), none⟩]) (.seq (.reg [⟨(some 53), (.mv (.t 8)), none⟩, ⟨(some 54), (.bin .sub .u8 (.t 53) (.c (.int .u8 48))), none⟩, ⟨(some 8), (.mv (.t 54)), none⟩]) (.seq (.seq (.reg [⟨(some 55), (.mv (.t 8)), none⟩, ⟨(some 56), (.bin .gtr .u8 (.t 55) (.c (.int .u8 9))), none⟩]) (.cond (.t 56) (.seq (.reg [⟨(some 57), (.mkI 115 (.c (.int .i64 2))), none⟩, ⟨(some 2), (.mv (.c (.int .i64 0))), none⟩, ⟨(some 3), (.mv (.t 57)), none⟩]) .ret) .skip)) (.reg [⟨(some 58), (.mv (.t 6)), none⟩, ⟨(some 59), (.bin .mul .i64 (.t 58) (.c (.int .i64 10))), none⟩, ⟨(some 60), (.mv (.t 8)), none⟩, ⟨(some 61), (.conv .i64 (.t 60)), none⟩, ⟨(some 62), (.bin .add .i64 (.t 59) (.t 61)), none⟩, ⟨(some 6), (.mv (.t 62)), none⟩]))))) (.reg [⟨(some 63), (.bin .add .i64 (.t 49) (.c (.int .i64 1))), none⟩, ⟨(some 49), (.mv (.t 63)), none⟩]))))))) (.seq (.seq (.reg [⟨(some 64), (.mv (.t 5)), none⟩, ⟨(some 65), (.idxS (.t 64) (.c (.int .i64 0))), none⟩, ⟨(some 66), (.bin .eql .u8 (.t 65) (.c (.int .u8 45))), none⟩]) (.cond (.t 66) (.reg [⟨(some 67), (.mv (.t 6)), none⟩, ⟨(some 68), (.un .neg .i64 (.t 67)), none⟩, ⟨(some 6), (.mv (.t 68)), none⟩]) .skip)) (.seq (.reg [⟨(some 69), (.mv (.t 6)), none⟩, ⟨(some 2), (.mv (.t 69)), none⟩, ⟨(some 3), (.mv (.c .nili)), none⟩]) .ret)))))) .skip)) (.seq (.reg [⟨(some 71), (.mv (.t 0)), none⟩, ⟨(some 72), (.call 85 [(.t 71), (.c (.int .i64 10)), (.c (.int .i64 0))]), none⟩, ⟨(some 70), (.mv (.t 72)), none⟩, ⟨(some 73), (.ext (.t 70) 0), none⟩, ⟨(some 74), (.ext (.t 70) 1), none⟩, ⟨(some 9), (.mv (.t 73)), none⟩, ⟨(some 10), (.mv (.t 74)), none⟩]) (.seq (.reg [⟨(some 75), (.mv (.t 9)), none⟩, ⟨(some 76), (.mv (.t 10)), none⟩, ⟨(some 2), (.mv (.t 75)), none⟩, ⟨(some 3), (.mv (.t 76)), none⟩]) .ret)))))

set_option maxRecDepth 100000 in
theorem k_iatoi : compileC Tryd.prog ann (Tryd.f62.body.getD .skip) = some c_iatoi := by kernel_rfl

theorem s_iatoi {args : List AV} {σ : St} {K : AV → St → Prop} (h : WF σ → T Tryd.prog ann c_iatoi (Fin σ [(.t 2), (.t 3)] K) (args ++ List.replicate (77 - args.length) (.tup [])) σ) : ACalls Tryd.prog n_iatoi args σ K :=
  calls_ok Tryd.func62 (by kernel_rfl) (by kernel_rfl) k_iatoi (by kernel_rfl) (by kernel_rfl) h

abbrev ann_iparI : Ann := { errs := [(40, .i64), (115, .i64)] }

abbrev n_iparI : Nat := 85

def c_iparI : C := (.seq (.reg [⟨(some 6), (.mv (.c (.int .i64 0))), none⟩, ⟨(some 7), (.mv (.c .nili)), none⟩]) (.seq (.seq (.reg [⟨(some 12), (.mv (.t 0)), none⟩, ⟨(some 13), (.sbin .eql (.t 12) (.c (.str ⟨#[]⟩))), none⟩]) (.cond (.t 13) (.seq (.reg [⟨(some 14), (.mkI 115 (.c (.int .i64 2))), none⟩, ⟨(some 6), (.mv (.c (.int .i64 0))), none⟩, ⟨(some 7), (.mv (.t 14)), none⟩]) .ret) .skip)) (.seq (.reg [⟨(some 8), (.mv (.c (.bool false))), none⟩]) (.seq (.seq (.reg [⟨(some 15), (.mv (.t 0)), none⟩, ⟨(some 16), (.idxS (.t 15) (.c (.int .i64 0))), none⟩]) (.block 0 (.seq (.reg [⟨(some 18), (.bin .eql .u8 (.t 16) (.c (.int .u8 43))), none⟩, ⟨(some 17), (.mv (.t 18)), none⟩]) (.cond (.t 17) (.reg [⟨(some 19), (.mv (.t 0)), none⟩, ⟨(some 20), (.sslice (.t 19) (some (.c (.int .i64 1))) none), none⟩, ⟨(some 0), (.mv (.t 20)), none⟩]) (.seq (.reg [⟨(some 22), (.bin .eql .u8 (.t 16) (.c (.int .u8 45))), none⟩, ⟨(some 21), (.mv (.t 22)), none⟩]) (.cond (.t 21) (.seq (.reg [⟨(some 23), (.mv (.t 0)), none⟩, ⟨(some 24), (.sslice (.t 23) (some (.c (.int .i64 1))) none), none⟩, ⟨(some 0), (.mv (.t 24)), none⟩]) (.reg [⟨(some 8), (.mv (.c (.bool true))), none⟩])) .skip)))))) (.seq (.reg [⟨(some 9), (.mv (.c (.int .u64 0))), none⟩]) (.seq (.reg [⟨(some 26), (.mv (.t 0)), none⟩, ⟨(some 27), (.mv (.t 1)), none⟩, ⟨(some 28), (.mv (.t 2)), none⟩, ⟨(some 29), (.call 60 [(.t 26), (.t 27), (.t 28)]), none⟩, ⟨(some 25), (.mv (.t 29)), none⟩, ⟨(some 30), (.ext (.t 25) 0), none⟩, ⟨(some 31), (.ext (.t 25) 1), none⟩, ⟨(some 9), (.mv (.t 30)), none⟩, ⟨(some 7), (.mv (.t 31)), none⟩]) (.seq (.seq (.reg [⟨(some 32), (.mv (.t 7)), none⟩, ⟨(some 33), (.eqI true true [(40, .i64), (115, .i64)] (.t 32) (.c .nili)), none⟩, ⟨(some 34), (.mv (.t 33)), none⟩, ⟨(some 35), (.mv (.t 7)), (some (34, true))⟩, ⟨(some 36), (.mkI 115 (.c (.int .i64 1))), (some (34, true))⟩, ⟨(some 37), (.eqI true false [(40, .i64), (115, .i64)] (.t 35) (.t 36)), (some (34, true))⟩, ⟨(some 38), (.pick (.t 34) (.t 37) (.c (.bool false))), none⟩]) (.cond (.t 38) (.seq (.reg [⟨(some 39), (.mv (.t 7)), none⟩, ⟨(some 6), (.mv (.c (.int .i64 0))), none⟩, ⟨(some 7), (.mv (.t 39)), none⟩]) .ret) .skip)) (.seq (.seq (.reg [⟨(some 40), (.mv (.t 2)), none⟩, ⟨(some 41), (.bin .eql .i64 (.t 40) (.c (.int .i64 0))), none⟩]) (.cond (.t 41) (.reg [⟨(some 2), (.mv (.c (.int .i64 64))), none⟩]) .skip)) (.seq (.reg [⟨(some 42), (.mv (.t 2)), none⟩, ⟨(some 43), (.bin .sub .i64 (.t 42) (.c (.int .i64 1))), none⟩, ⟨(some 44), (.conv .u64 (.t 43)), none⟩, ⟨(some 45), (.bin .shl .u64 (.c (.int .u64 1)) (.t 44)), none⟩, ⟨(some 10), (.mv (.t 45)), none⟩]) (.seq (.seq (.reg [⟨(some 46), (.mv (.t 8)), none⟩, ⟨(some 47), (.not (.t 46)), none⟩, ⟨(some 48), (.mv (.t 47)), none⟩, ⟨(some 49), (.mv (.t 9)), (some (48, true))⟩, ⟨(some 50), (.mv (.t 10)), (some (48, true))⟩, ⟨(some 51), (.bin .geq .u64 (.t 49) (.t 50)), (some (48, true))⟩, ⟨(some 52), (.pick (.t 48) (.t 51) (.c (.bool false))), none⟩]) (.cond (.t 52) (.seq (.reg [⟨(some 53), (.mv (.t 10)), none⟩, ⟨(some 54), (.bin .sub .u64 (.t 53) (.c (.int .u64 1))), none⟩, ⟨(some 55), (.conv .i64 (.t 54)), none⟩, ⟨(some 56), (.mkI 115 (.c (.int .i64 1))), none⟩, ⟨(some 6), (.mv (.t 55)), none⟩, ⟨(some 7), (.mv (.t 56)), none⟩]) .ret) .skip)) (.seq (.seq (.reg [⟨(some 57), (.mv (.t 8)), none⟩, ⟨(some 58), (.mv (.t 57)), none⟩, ⟨(some 59), (.mv (.t 9)), (some (58, true))⟩, ⟨(some 60), (.mv (.t 10)), (some (58, true))⟩, ⟨(some 61), (.bin .gtr .u64 (.t 59) (.t 60)), (some (58, true))⟩, ⟨(some 62), (.pick (.t 58) (.t 61) (.c (.bool false))), none⟩]) (.cond (.t 62) (.seq (.reg [⟨(some 63), (.mv (.t 10)), none⟩, ⟨(some 64), (.conv .i64 (.t 63)), none⟩, ⟨(some 65), (.un .neg .i64 (.t 64)), none⟩, ⟨(some 66), (.mkI 115 (.c (.int .i64 1))), none⟩, ⟨(some 6), (.mv (.t 65)), none⟩, ⟨(some 7), (.mv (.t 66)), none⟩]) .ret) .skip)) (.seq (.reg [⟨(some 67), (.mv (.t 9)), none⟩, ⟨(some 68), (.conv .i64 (.t 67)), none⟩, ⟨(some 11), (.mv (.t 68)), none⟩]) (.seq (.seq (.reg [⟨(some 69), (.mv (.t 8)), none⟩]) (.cond (.t 69) (.reg [⟨(some 70), (.mv (.t 11)), none⟩, ⟨(some 71), (.un .neg .i64 (.t 70)), none⟩, ⟨(some 11), (.mv (.t 71)), none⟩]) .skip)) (.seq (.reg [⟨(some 72), (.mv (.t 11)), none⟩, ⟨(some 6), (.mv (.t 72)), none⟩, ⟨(some 7), (.mv (.c .nili)), none⟩]) .ret))))))))))))))

set_option maxRecDepth 100000 in
theorem k_iparI : compileC Tryd.prog ann_iparI (Tryd.f85.body.getD .skip) = some c_iparI := by kernel_rfl

theorem s_iparI {args : List AV} {σ : St} {K : AV → St → Prop} (h : WF σ → T Tryd.prog ann_iparI c_iparI (Fin σ [(.t 6), (.t 7)] K) (args ++ List.replicate (73 - args.length) (.tup [])) σ) : ACalls Tryd.prog n_iparI args σ K :=
  calls_ok Tryd.func85 (by kernel_rfl) (by kernel_rfl) k_iparI (by kernel_rfl) (by kernel_rfl) h

abbrev n_up13 : Nat := 19

def c_up13 : C := (.seq (.reg [⟨(some 0), (.mv (.c (.bool false))), none⟩]) (.seq (.reg [⟨(some 8), (.call 20 [(.c (.str ⟨#[98, 47, 48, 48, 48, 48, 48, 48, 48, 48, 48, 48, 48, 48, 48, 48, 102, 102, 47, 109]⟩))]), none⟩, ⟨(some 7), (.mv (.t 8)), none⟩, ⟨(some 9), (.ext (.t 7) 0), none⟩, ⟨(some 10), (.ext (.t 7) 1), none⟩, ⟨(some 11), (.ext (.t 7) 2), none⟩, ⟨(some 12), (.ext (.t 7) 3), none⟩, ⟨(some 1), (.mv (.t 9)), none⟩, ⟨(some 2), (.mv (.t 10)), none⟩, ⟨(some 3), (.mv (.t 11)), none⟩, ⟨(some 4), (.mv (.t 12)), none⟩]) (.seq (.reg [⟨(some 14), (.build [(.int .u64 0), (.int .i64 0), (.int .i64 0), (.int .i64 0), (.int .i64 0), (.int .i64 0)] []), none⟩, ⟨(some 15), (.call 24 [(.t 14)]), none⟩, ⟨(some 13), (.mv (.t 15)), none⟩, ⟨(some 16), (.ext (.t 13) 0), none⟩, ⟨(some 17), (.ext (.t 13) 1), none⟩, ⟨(some 5), (.mv (.t 16)), none⟩, ⟨(some 6), (.mv (.t 17)), none⟩]) (.seq (.reg [⟨(some 18), (.call 22 [(.c (.int .u64 255)), (.c (.str ⟨#[109]⟩)), (.c (.int .i64 0))]), none⟩, ⟨(some 19), (.sbin .eql (.t 18) (.c (.str ⟨#[98, 47, 48, 48, 48, 48, 48, 48, 48, 48, 48, 48, 48, 48, 48, 48, 102, 102, 47, 109]⟩))), none⟩, ⟨(some 20), (.mv (.t 19)), none⟩, ⟨(some 21), (.mv (.t 1)), (some (20, true))⟩, ⟨(some 22), (.bin .eql .u64 (.t 21) (.c (.int .u64 255))), (some (20, true))⟩, ⟨(some 23), (.pick (.t 20) (.t 22) (.c (.bool false))), none⟩, ⟨(some 24), (.mv (.t 23)), none⟩, ⟨(some 25), (.mv (.t 2)), (some (24, true))⟩, ⟨(some 26), (.sbin .eql (.t 25) (.c (.str ⟨#[109]⟩))), (some (24, true))⟩, ⟨(some 27), (.pick (.t 24) (.t 26) (.c (.bool false))), none⟩, ⟨(some 28), (.mv (.t 27)), none⟩, ⟨(some 29), (.mv (.t 4)), (some (28, true))⟩, ⟨(some 30), (.pick (.t 28) (.t 29) (.c (.bool false))), none⟩, ⟨(some 31), (.mv (.t 30)), none⟩, ⟨(some 32), (.mv (.t 6)), (some (31, true))⟩, ⟨(some 33), (.mkI 40 (.c (.int .i64 1))), (some (31, true))⟩, ⟨(some 34), (.eqI false false [(40, .i64)] (.t 32) (.t 33)), (some (31, true))⟩, ⟨(some 35), (.pick (.t 31) (.t 34) (.c (.bool false))), none⟩, ⟨(some 0), (.mv (.t 35)), none⟩]) .ret))))

set_option maxRecDepth 100000 in
theorem k_up13 : compileC Tryd.prog ann (Tryd.f19.body.getD .skip) = some c_up13 := by kernel_rfl

theorem s_up13 {args : List AV} {σ : St} {K : AV → St → Prop} (h : WF σ → T Tryd.prog ann c_up13 (Fin σ [(.t 0)] K) (args ++ List.replicate (36 - args.length) (.tup [])) σ) : ACalls Tryd.prog n_up13 args σ K :=
  calls_ok Tryd.func19 (by kernel_rfl) (by kernel_rfl) k_up13 (by kernel_rfl) (by kernel_rfl) h

abbrev n_metaBack : Nat := 6

def c_metaBack : C := (.seq (.reg [⟨(some 6), (.box (.t 0)), none⟩, ⟨(some 12), (.mv (.c (.bool false))), none⟩]) (.seq (.reg [⟨(some 22), (.call 19 []), none⟩, ⟨(some 13), (.mv (.t 22)), none⟩]) (.seq (.reg [⟨(some 24), (.load (some 6) (.t 6)), none⟩, ⟨(some 25), (.call 24 [(.t 24)]), none⟩, ⟨(some 23), (.mv (.t 25)), none⟩, ⟨(some 26), (.ext (.t 23) 0), none⟩, ⟨(some 27), (.ext (.t 23) 1), none⟩, ⟨(some 14), (.mv (.t 26)), none⟩, ⟨(some 15), (.mv (.t 27)), none⟩]) (.seq (.seq (.reg [⟨(some 28), (.mv (.t 15)), none⟩, ⟨(some 29), (.eqI false true [(40, .i64)] (.t 28) (.c .nili)), none⟩]) (.cond (.t 29) (.seq (.reg [⟨(some 31), (.mv (.t 14)), none⟩, ⟨(some 32), (.call 32 [(.t 31)]), none⟩, ⟨(some 30), (.mv (.t 32)), none⟩, ⟨(some 33), (.ext (.t 30) 0), none⟩, ⟨(some 34), (.ext (.t 30) 1), none⟩, ⟨(some 16), (.alloc [(.int .u64 0), (.int .i64 0), (.int .i64 0), (.int .i64 0), (.int .i64 0), (.int .i64 0)]), none⟩, ⟨none, (.store 6 (.t 16) (.t 33)), none⟩, ⟨(some 17), (.mv (.t 34)), none⟩]) (.seq (.seq (.reg [⟨(some 35), (.mv (.t 17)), none⟩, ⟨(some 36), (.eqI true true [(40, .i64)] (.t 35) (.c .nili)), none⟩, ⟨(some 37), (.mv (.t 36)), none⟩, ⟨(some 38), (.load (some 6) (.t 16)), (some (37, false))⟩, ⟨(some 39), (.load (some 6) (.t 6)), (some (37, false))⟩, ⟨(some 40), (.eqA true 6 (.t 38) (.t 39)), (some (37, false))⟩, ⟨(some 41), (.pick (.t 37) (.c (.bool true)) (.t 40)), none⟩]) (.cond (.t 41) (.seq (.reg [⟨(some 12), (.mv (.c (.bool false))), none⟩]) .ret) .skip)) (.seq (.reg [⟨(some 42), (.mv (.t 1)), none⟩, ⟨(some 43), (.bin .geq .i64 (.t 42) (.c (.int .i64 0))), none⟩, ⟨(some 44), (.mv (.t 43)), none⟩, ⟨(some 45), (.mv (.t 1)), (some (44, true))⟩, ⟨(some 46), (.mv (.t 14)), (some (44, true))⟩, ⟨(some 47), (.len (.t 46)), (some (44, true))⟩, ⟨(some 48), (.bin .lss .i64 (.t 45) (.t 47)), (some (44, true))⟩, ⟨(some 49), (.pick (.t 44) (.t 48) (.c (.bool false))), none⟩, ⟨(some 50), (.mv (.t 49)), none⟩, ⟨(some 51), (.mv (.t 2)), (some (50, true))⟩, ⟨(some 52), (.bin .neq .u8 (.t 51) (.c (.int .u8 0))), (some (50, true))⟩, ⟨(some 53), (.pick (.t 50) (.t 52) (.c (.bool false))), none⟩]) (.cond (.t 53) (.seq (.reg [⟨(some 54), (.mv (.t 14)), none⟩, ⟨(some 55), (.mv (.t 1)), none⟩, ⟨(some 56), (.mv (.t 14)), none⟩, ⟨(some 57), (.mv (.t 1)), none⟩, ⟨(some 58), (.iaddr 1 (.t 56) (.t 57)), none⟩, ⟨(some 59), (.load none (.t 58)), none⟩, ⟨(some 60), (.mv (.t 2)), none⟩, ⟨(some 61), (.bin .xor .u8 (.t 59) (.t 60)), none⟩, ⟨(some 62), (.iaddr 1 (.t 54) (.t 55)), none⟩, ⟨none, (.store 1 (.t 62) (.t 61)), none⟩]) (.seq (.reg [⟨(some 64), (.mv (.t 14)), none⟩, ⟨(some 65), (.call 32 [(.t 64)]), none⟩, ⟨(some 63), (.mv (.t 65)), none⟩, ⟨(some 66), (.ext (.t 63) 0), none⟩, ⟨(some 67), (.ext (.t 63) 1), none⟩, ⟨(some 17), (.mv (.t 67)), none⟩]) (.seq (.reg [⟨(some 68), (.mv (.t 17)), none⟩, ⟨(some 69), (.mkI 40 (.c (.int .i64 7))), none⟩, ⟨(some 70), (.eqI true false [(40, .i64)] (.t 68) (.t 69)), none⟩]) (.cond (.t 70) (.seq (.reg [⟨(some 12), (.mv (.c (.bool false))), none⟩]) .ret) .skip)))) .skip)))) .skip)) (.seq (.reg [⟨(some 72), (.mv (.t 3)), none⟩, ⟨(some 73), (.mv (.t 5)), none⟩, ⟨(some 74), (.call 22 [(.t 72), (.c (.str ⟨#[112]⟩)), (.t 73)]), none⟩, ⟨(some 75), (.call 20 [(.t 74)]), none⟩, ⟨(some 71), (.mv (.t 75)), none⟩, ⟨(some 76), (.ext (.t 71) 0), none⟩, ⟨(some 77), (.ext (.t 71) 1), none⟩, ⟨(some 78), (.ext (.t 71) 2), none⟩, ⟨(some 79), (.ext (.t 71) 3), none⟩, ⟨(some 18), (.mv (.t 76)), none⟩, ⟨(some 19), (.mv (.t 77)), none⟩, ⟨(some 20), (.mv (.t 78)), none⟩, ⟨(some 21), (.mv (.t 79)), none⟩]) (.seq (.seq (.reg [⟨(some 80), (.mv (.t 21)), none⟩, ⟨(some 81), (.not (.t 80)), none⟩, ⟨(some 82), (.mv (.t 81)), none⟩, ⟨(some 83), (.mv (.t 18)), (some (82, false))⟩, ⟨(some 84), (.mv (.t 3)), (some (82, false))⟩, ⟨(some 85), (.bin .neq .u64 (.t 83) (.t 84)), (some (82, false))⟩, ⟨(some 86), (.pick (.t 82) (.c (.bool true)) (.t 85)), none⟩, ⟨(some 87), (.mv (.t 86)), none⟩, ⟨(some 88), (.mv (.t 19)), (some (87, false))⟩, ⟨(some 89), (.sbin .neq (.t 88) (.c (.str ⟨#[112]⟩))), (some (87, false))⟩, ⟨(some 90), (.pick (.t 87) (.c (.bool true)) (.t 89)), none⟩, ⟨(some 91), (.mv (.t 90)), none⟩, ⟨(some 92), (.mv (.t 5)), (some (91, false))⟩, ⟨(some 93), (.bin .geq .i64 (.t 92) (.c (.int .i64 0))), (some (91, false))⟩, ⟨(some 94), (.mv (.t 93)), (some (91, false))⟩, ⟨(some 95), (.mv (.t 5)), (some (94, true))⟩, ⟨(some 96), (.bin .lss .i64 (.t 95) (.c (.int .i64 1000))), (some (94, true))⟩, ⟨(some 97), (.pick (.t 94) (.t 96) (.c (.bool false))), (some (91, false))⟩, ⟨(some 98), (.mv (.t 97)), (some (91, false))⟩, ⟨(some 99), (.mv (.t 20)), (some (98, true))⟩, ⟨(some 100), (.mv (.t 5)), (some (98, true))⟩, ⟨(some 101), (.bin .neq .i64 (.t 99) (.t 100)), (some (98, true))⟩, ⟨(some 102), (.pick (.t 98) (.t 101) (.c (.bool false))), (some (91, false))⟩, ⟨(some 103), (.pick (.t 91) (.c (.bool true)) (.t 102)), none⟩]) (.cond (.t 103) (.seq (.reg [⟨(some 12), (.mv (.c (.bool false))), none⟩]) .ret) .skip)) (.seq (.reg [⟨(some 104), (.mv (.t 13)), none⟩, ⟨(some 105), (.mv (.t 104)), none⟩, ⟨(some 106), (.mv (.t 3)), (some (105, true))⟩, ⟨(some 107), (.call 22 [(.t 106), (.c (.str ⟨#[109]⟩)), (.c (.int .i64 0))]), (some (105, true))⟩, ⟨(some 108), (.mv (.t 4)), (some (105, true))⟩, ⟨(some 109), (.call 22 [(.t 108), (.c (.str ⟨#[109]⟩)), (.c (.int .i64 0))]), (some (105, true))⟩, ⟨(some 110), (.sbin .eql (.t 107) (.t 109)), (some (105, true))⟩, ⟨(some 111), (.mv (.t 3)), (some (105, true))⟩, ⟨(some 112), (.mv (.t 4)), (some (105, true))⟩, ⟨(some 113), (.bin .eql .u64 (.t 111) (.t 112)), (some (105, true))⟩, ⟨(some 114), (.bbin false (.t 110) (.t 113)), (some (105, true))⟩, ⟨(some 115), (.pick (.t 105) (.t 114) (.c (.bool false))), none⟩, ⟨(some 116), (.mv (.t 115)), none⟩, ⟨(some 117), (.mv (.t 3)), (some (116, true))⟩, ⟨(some 118), (.call 22 [(.t 117), (.c (.str ⟨#[109]⟩)), (.c (.int .i64 0))]), (some (116, true))⟩, ⟨(some 119), (.mv (.t 4)), (some (116, true))⟩, ⟨(some 120), (.call 22 [(.t 119), (.c (.str ⟨#[120]⟩)), (.c (.int .i64 0))]), (some (116, true))⟩, ⟨(some 121), (.sbin .neq (.t 118) (.t 120)), (some (116, true))⟩, ⟨(some 122), (.pick (.t 116) (.t 121) (.c (.bool false))), none⟩, ⟨(some 123), (.mv (.t 122)), none⟩, ⟨(some 124), (.mv (.t 3)), (some (123, true))⟩, ⟨(some 125), (.call 22 [(.t 124), (.c (.str ⟨#[113]⟩)), (.c (.int .i64 0))]), (some (123, true))⟩, ⟨(some 126), (.sbin .eql (.t 125) (.c (.str ⟨#[]⟩))), (some (123, true))⟩, ⟨(some 127), (.pick (.t 123) (.t 126) (.c (.bool false))), none⟩, ⟨(some 12), (.mv (.t 127)), none⟩]) .ret)))))))

set_option maxRecDepth 100000 in
theorem k_metaBack : compileC Tryd.prog ann (Tryd.f6.body.getD .skip) = some c_metaBack := by kernel_rfl

theorem s_metaBack {args : List AV} {σ : St} {K : AV → St → Prop} (h : WF σ → T Tryd.prog ann c_metaBack (Fin σ [(.t 12)] K) (args ++ List.replicate (128 - args.length) (.tup [])) σ) : ACalls Tryd.prog n_metaBack args σ K :=
  calls_ok Tryd.func6 (by kernel_rfl) (by kernel_rfl) k_metaBack (by kernel_rfl) (by kernel_rfl) h

abbrev n_mGet : Nat := 32

def c_mGet : C := (.seq (.reg [⟨(some 2), (.alloc [(.int .u64 0), (.int .i64 0), (.int .i64 0), (.int .i64 0), (.int .i64 0), (.int .i64 0)]), none⟩, ⟨(some 3), (.mv (.c .nili)), none⟩]) (.seq (.reg [⟨(some 4), (.alloc [(.int .u64 0), (.int .i64 0), (.int .i64 0), (.int .i64 0), (.int .i64 0), (.int .i64 0)]), none⟩]) (.seq (.reg [⟨(some 6), (.mv (.t 0)), none⟩, ⟨(some 7), (.mkF 52 [] [(.t 4)]), none⟩, ⟨(some 8), (.call 51 [(.t 6), (.t 7)]), none⟩, ⟨(some 5), (.mv (.t 8)), none⟩]) (.seq (.seq (.reg [⟨(some 9), (.mv (.t 5)), none⟩, ⟨(some 10), (.eqI true true [(40, .i64)] (.t 9) (.c .nili)), none⟩]) (.cond (.t 10) (.seq (.reg [⟨(some 11), (.build [(.int .u64 0), (.int .i64 0), (.int .i64 0), (.int .i64 0), (.int .i64 0), (.int .i64 0)] []), none⟩, ⟨(some 12), (.mv (.t 5)), none⟩, ⟨none, (.store 6 (.t 2) (.t 11)), none⟩, ⟨(some 3), (.mv (.t 12)), none⟩]) .ret) .skip)) (.seq (.reg [⟨(some 13), (.load (some 6) (.t 4)), none⟩, ⟨none, (.store 6 (.t 2) (.t 13)), none⟩, ⟨(some 3), (.mv (.c .nili)), none⟩]) .ret)))))

set_option maxRecDepth 100000 in
theorem k_mGet : compileC Tryd.prog ann (Tryd.f32.body.getD .skip) = some c_mGet := by kernel_rfl

theorem s_mGet {args : List AV} {σ : St} {K : AV → St → Prop} (h : WF σ → T Tryd.prog ann c_mGet (Fin σ [(.cell 2 (some 6)), (.t 3)] K) (args ++ List.replicate (14 - args.length) (.tup [])) σ) : ACalls Tryd.prog n_mGet args σ K :=
  calls_ok Tryd.func32 (by kernel_rfl) (by kernel_rfl) k_mGet (by kernel_rfl) (by kernel_rfl) h

abbrev n_mGet1 : Nat := 52

def c_mGet1 : C := (.seq (.reg [⟨(some 3), (.mv (.c (.bool false))), none⟩]) (.seq (.reg [⟨(some 4), (.mv (.t 0)), none⟩, ⟨(some 5), (.call 53 [(.t 4), (.c (.int .i64 8))]), none⟩, ⟨(some 6), (.faddr 0 (.t 1)), none⟩, ⟨none, (.store 1 (.t 6) (.t 5)), none⟩]) (.seq (.reg [⟨(some 7), (.mv (.t 0)), none⟩, ⟨(some 8), (.call 53 [(.t 7), (.c (.int .i64 8))]), none⟩, ⟨(some 9), (.conv .i64 (.t 8)), none⟩, ⟨(some 10), (.faddr 2 (.t 1)), none⟩, ⟨none, (.store 1 (.t 10) (.t 9)), none⟩]) (.seq (.reg [⟨(some 11), (.mv (.t 0)), none⟩, ⟨(some 12), (.call 53 [(.t 11), (.c (.int .i64 8))]), none⟩, ⟨(some 13), (.conv .i64 (.t 12)), none⟩, ⟨(some 14), (.faddr 3 (.t 1)), none⟩, ⟨none, (.store 1 (.t 14) (.t 13)), none⟩]) (.seq (.reg [⟨(some 15), (.mv (.t 0)), none⟩, ⟨(some 16), (.call 53 [(.t 15), (.c (.int .i64 1))]), none⟩, ⟨(some 17), (.conv .i64 (.t 16)), none⟩, ⟨(some 18), (.faddr 1 (.t 1)), none⟩, ⟨none, (.store 1 (.t 18) (.t 17)), none⟩]) (.seq (.reg [⟨(some 19), (.mv (.t 0)), none⟩, ⟨(some 20), (.call 53 [(.t 19), (.c (.int .i64 2))]), none⟩, ⟨(some 21), (.conv .i64 (.t 20)), none⟩, ⟨(some 22), (.faddr 4 (.t 1)), none⟩, ⟨none, (.store 1 (.t 22) (.t 21)), none⟩]) (.seq (.reg [⟨(some 23), (.mv (.t 0)), none⟩, ⟨(some 24), (.call 53 [(.t 23), (.c (.int .i64 4))]), none⟩, ⟨(some 25), (.conv .i64 (.t 24)), none⟩, ⟨(some 26), (.faddr 5 (.t 1)), none⟩, ⟨none, (.store 1 (.t 26) (.t 25)), none⟩]) (.seq (.reg [⟨(some 27), (.load (some 6) (.t 1)), none⟩, ⟨(some 28), (.call 27 [(.t 27)]), none⟩, ⟨(some 3), (.mv (.t 28)), none⟩]) .ret))))))))

set_option maxRecDepth 100000 in
theorem k_mGet1 : compileC Tryd.prog ann (Tryd.f52.body.getD .skip) = some c_mGet1 := by kernel_rfl

theorem s_mGet1 {args : List AV} {σ : St} {K : AV → St → Prop} (h : WF σ → T Tryd.prog ann c_mGet1 (Fin σ [(.t 3)] K) (args ++ List.replicate (29 - args.length) (.tup [])) σ) : ACalls Tryd.prog n_mGet1 args σ K :=
  calls_ok Tryd.func52 (by kernel_rfl) (by kernel_rfl) k_mGet1 (by kernel_rfl) (by kernel_rfl) h

abbrev n_mOpen : Nat := 51

def c_mOpen : C := (.seq (.reg [⟨(some 4), (.mv (.c .nili)), none⟩]) (.seq (.reg [⟨(some 10), (.mv (.t 0)), none⟩, ⟨(some 11), (.call 68 [(.t 10)]), none⟩, ⟨(some 9), (.mv (.t 11)), none⟩, ⟨(some 12), (.ext (.t 9) 0), none⟩, ⟨(some 13), (.ext (.t 9) 1), none⟩, ⟨(some 5), (.mv (.t 12)), none⟩, ⟨(some 6), (.mv (.t 13)), none⟩]) (.seq (.seq (.reg [⟨(some 14), (.mv (.t 6)), none⟩, ⟨(some 15), (.eqI true true [(40, .i64)] (.t 14) (.c .nili)), none⟩]) (.cond (.t 15) (.seq (.reg [⟨(some 16), (.mv (.t 6)), none⟩, ⟨(some 4), (.mv (.t 16)), none⟩]) .ret) .skip)) (.seq (.reg [⟨(some 17), (.mv (.t 5)), none⟩, ⟨(some 18), (.call 69 [(.t 17)]), none⟩, ⟨(some 7), (.mv (.t 18)), none⟩]) (.seq (.seq (.reg [⟨(some 19), (.mv (.t 1)), none⟩, ⟨(some 20), (.mv (.t 7)), none⟩, ⟨(some 21), (.callv (.t 19) [(.t 20)]), none⟩, ⟨(some 8), (.mv (.t 21)), none⟩]) (.seq (.reg [⟨(some 22), (.mv (.t 8)), none⟩, ⟨(some 23), (.not (.t 22)), none⟩, ⟨(some 24), (.mv (.t 23)), none⟩, ⟨(some 25), (.mv (.t 7)), (some (24, false))⟩, ⟨(some 26), (.call 70 [(.t 25)]), (some (24, false))⟩, ⟨(some 27), (.bin .geq .i64 (.t 26) (.c (.int .i64 0))), (some (24, false))⟩, ⟨(some 28), (.pick (.t 24) (.c (.bool true)) (.t 27)), none⟩, ⟨(some 29), (.mv (.t 28)), none⟩, ⟨(some 30), (.mv (.t 7)), (some (29, false))⟩, ⟨(some 31), (.call 71 [(.t 30)]), (some (29, false))⟩, ⟨(some 32), (.bin .gtr .i64 (.t 31) (.c (.int .i64 0))), (some (29, false))⟩, ⟨(some 33), (.pick (.t 29) (.c (.bool true)) (.t 32)), none⟩]) (.cond (.t 33) (.seq (.reg [⟨(some 34), (.mkI 40 (.c (.int .i64 2))), none⟩, ⟨(some 4), (.mv (.t 34)), none⟩]) .ret) .skip))) (.seq (.reg [⟨(some 4), (.mv (.c .nili)), none⟩]) .ret))))))

set_option maxRecDepth 100000 in
theorem k_mOpen : compileC Tryd.prog ann (Tryd.f51.body.getD .skip) = some c_mOpen := by kernel_rfl

theorem s_mOpen {args : List AV} {σ : St} {K : AV → St → Prop} (h : WF σ → T Tryd.prog ann c_mOpen (Fin σ [(.t 4)] K) (args ++ List.replicate (35 - args.length) (.tup [])) σ) : ACalls Tryd.prog n_mOpen args σ K :=
  calls_ok Tryd.func51 (by kernel_rfl) (by kernel_rfl) k_mOpen (by kernel_rfl) (by kernel_rfl) h

end Go.VL

namespace Go.VL

open Go.Proofs

/-- a text, cut at each '/' -/
def splitB : List UInt8 → List (List UInt8)
  | [] => [[]]
  | c :: r => if c = 47 then [] :: splitB r else match splitB r with
    | [] => [[c]]
    | p :: ps => (c :: p) :: ps

theorem split_ne : ∀ l, splitB l ≠ []
  | [] => by simp [splitB]
  | c :: r => by
    unfold splitB
    split
    · simp
    · split <;> simp

theorem split_no : ∀ {l : List UInt8}, 47 ∉ l → splitB l = [l]
  | [], _ => rfl
  | c :: r, h => by
    have hc : c ≠ 47 := fun e => h (by simp [e])
    rw [splitB, if_neg hc, split_no (fun hr => h (List.mem_cons_of_mem _ hr))]

theorem split_at {b : List UInt8} : ∀ {a : List UInt8}, 47 ∉ a → splitB (a ++ 47 :: b) = a :: splitB b
  | [], _ => by rw [List.nil_append, splitB, if_pos rfl]
  | c :: r, h => by
    have hc : c ≠ 47 := fun e => h (by simp [e])
    rw [List.cons_append, splitB, if_neg hc, split_at (fun hr => h (List.mem_cons_of_mem _ hr))]

theorem split_len : ∀ l : List UInt8, (splitB l).length = l.count 47 + 1
  | [] => rfl
  | c :: r => by
    have ih := split_len r
    rw [splitB]
    split
    · rename_i hc
      subst hc
      simp [ih]
    · rename_i hc
      rw [List.count_cons_of_ne (by simpa using hc)]
      cases hs : splitB r with
      | nil => exact absurd hs (split_ne r)
      | cons p ps => rw [hs] at ih; simpa using ih

theorem split_sum : ∀ (l p : List UInt8), p ∈ splitB l → p.length ≤ l.length
  | [], p, h => by simp [splitB] at h; subst h; simp
  | c :: r, p, h => by
    rw [splitB] at h
    split at h
    · rcases List.mem_cons.1 h with rfl | h
      · simp
      · have := split_sum r p h; simp; omega
    · split at h
      · rename_i hs; exact absurd hs (split_ne r)
      · rename_i q qs hs
        rcases List.mem_cons.1 h with rfl | h
        · have := split_sum r q (by rw [hs]; simp); simp; omega
        · have := split_sum r p (by rw [hs]; exact List.mem_cons_of_mem _ h); simp; omega

theorem idx_at {b : List UInt8} : ∀ {a : List UInt8}, 47 ∉ a → Lib.indexByte (a ++ 47 :: b) 47 = (a.length : Int)
  | [], _ => by simp [Lib.indexByte]
  | c :: r, h => by
    have hc : c ≠ 47 := fun e => h (by simp [e])
    have ih := idx_at (b := b) (fun hr => h (List.mem_cons_of_mem _ hr))
    have h1 : (c == 47) = false := by simpa using hc
    have h2 : ((r.length : Int) == -1) = false := by rw [beq_eq_false_iff_ne]; omega
    rw [List.cons_append, Lib.indexByte, ih, h1, h2]
    simp

/-- where there is a '/' -/
theorem cut_at {l : List UInt8} (h : 0 < l.count 47) : ∃ a b, l = a ++ 47 :: b ∧ 47 ∉ a ∧ Lib.indexByte l 47 = (a.length : Int) ∧ splitB l = a :: splitB b ∧ l.count 47 = b.count 47 + 1 := by
  obtain ⟨a, b, rfl, ha⟩ := List.eq_append_cons_of_mem (List.count_pos_iff.1 h)
  refine ⟨a, b, rfl, ha, idx_at ha, split_at ha, ?_⟩
  rw [List.count_append, List.count_cons_self, List.count_eq_zero.2 ha]
  omega

def strsAV (ps : List (List UInt8)) : List AV := ps.map fun p => .str ⟨p.toArray⟩

theorem strs_len (ps : List (List UInt8)) : (strsAV ps).length = ps.length := by simp [strsAV]

theorem strs_cells (ps : List (List UInt8)) : (strsAV ps).flatMap AV.cells = strsAV ps := by
  induction ps with
  | nil => rfl
  | cons p ps ih => show AV.str _ :: _ = _; exact congrArg _ ih

theorem splice_mid {A B : List AV} {z x : AV} : splice (A ++ z :: B) A.length [x] = A ++ x :: B := by
  unfold splice
  rw [List.take_left' rfl, List.drop_append]
  simp

theorem ba_cut {l : List UInt8} {i j : Nat} : (⟨l.toArray⟩ : ByteArray).extract i j = ⟨((l.take j).drop i).toArray⟩ := by
  apply ByteArray.ext
  rw [ByteArray.data_extract]
  simp [List.extract_toArray, List.drop_take]

theorem scount_ok {l : List UInt8} {σ : St} : ACalls Tryd.prog n_scount [.str ⟨l.toArray⟩, .str ⟨[47].toArray⟩] σ (fun v σ' => v = .int .i64 (l.count 47 : Nat) ∧ σ' = σ) := by
  refine s_scount (fun wf => ?_)
  unfold c_scount
  have h1s : ((⟨[47].toArray⟩ : ByteArray).size : Int) = 1 := rfl
  have e0 : ((1 : Int) == 0) = false := rfl
  have e1 : ((1 : Int) == 1) = true := rfl
  have i0 : (0 : Int) < 1 := by decide
  have g0 : (⟨[47].toArray⟩ : ByteArray).data.toList[(0 : Int).toNat]? = some 47 := rfl
  have c0 : ((47 : UInt8).toNat : Int).toNat.toUInt8 = 47 := rfl
  refine T.seq_k (fun K_h0 h0 => ?_)
  refine T.regi hm ?_
  simp only [↓reduceIte, namesOf, List.any, I.names, aopsI, astep, ev, setd, List.set, List.cons_append, List.nil_append, List.length_cons, List.length_nil, List.replicate, then_normal, Bool.or_false, Bool.false_eq_true, up_zero, Nat.reduceAdd, Nat.reduceSub]
  refine h0 _ _ ?_
  try clear h0 K_h0
  refine T.seq_k (fun K_h1 h1 => ?_)
  refine T.seq_k (fun K_h0 h0 => ?_)
  refine T.regi hm ?_
  simp only [↓reduceIte, namesOf, List.any, I.names, aopsI, astep, ev, setd, List.set, List.getD, List.getElem?_cons_zero, List.getElem?_cons_succ, then_normal, Option.getD_some, Bool.or_false, Bool.false_eq_true, up_zero, binv, ↓opt_def, eq_self, h1s, e0]
  refine h0 _ _ ?_
  try clear h0 K_h0
  refine T.cond rfl (fun h => by cases h) (fun _ => T.skip ?_)
  refine h1 _ _ ?_
  try clear h1 K_h1
  refine T.seq_k (fun K_h1 h1 => ?_)
  refine T.seq_k (fun K_h0 h0 => ?_)
  refine T.regi hm ?_
  simp only [↓reduceIte, namesOf, List.any, I.names, aopsI, astep, ev, setd, List.set, List.getD, List.getElem?_cons_zero, List.getElem?_cons_succ, then_normal, Option.getD_some, Bool.or_false, Bool.false_eq_true, up_zero, binv, ↓opt_def, eq_self, h1s, e1]
  refine h0 _ _ ?_
  try clear h0 K_h0
  refine T.cond rfl (fun _ => ?_) (fun h => by cases h)
  refine T.seq_k (fun K_h0 h0 => ?_)
  refine T.regi hm ?_
  simp only [↓reduceIte, namesOf, List.any, I.names, aopsI, astep, ev, setd, List.set, List.getD, List.getElem?_cons_zero, List.getElem?_cons_succ, then_normal, Option.getD_some, Bool.or_false, Bool.false_eq_true, up_zero, Int.toNat_natCast, h1s, i0, g0, Int.le_refl, and_self]
  refine h0 _ _ ?_
  try clear h0 K_h0
  exact T.ret (Fin.ret rfl ⟨rfl, rfl⟩)

end Go.VL

namespace Go.VL

open Go.Proofs

/-- a letter's lower case, as strconv reckons it -/
def lowN (n : Nat) : Nat := n ||| 32

theorem low_wrap : ∀ n : Nat, n < 256 → IntKind.u8.wrap ((BitVec.ofInt IntKind.u8.bits (n : Int) ||| BitVec.ofInt IntKind.u8.bits 32).toNat : Int) = (lowN n : Int) := by decide +kernel

theorem low_facts : ∀ n : Nat, n < 256 → lowN n < 256 ∧ (97 ≤ lowN n → lowN n ≤ 122 → 57 < n ∧ n ≠ 95) ∧ (n < 48 → lowN n < 97) := by decide +kernel

theorem lower_ok {k : Nat} {σ : St} (hk : k < 256) : ACalls Tryd.prog n_lower [.int .u8 (k : Int)] σ (fun v σ' => v = .int .u8 (lowN k : Int) ∧ σ' = σ) := by
  refine s_lower (fun wf => ?_)
  unfold c_lower
  have hw := low_wrap k hk
  refine T.seq_k (fun K_h0 h0 => ?_)
  refine T.regi hm ?_
  simp only [↓reduceIte, namesOf, List.any, I.names, aopsI, astep, ev, setd, List.set, List.cons_append, List.nil_append, List.length_cons, List.length_nil, List.replicate, then_normal, Bool.or_false, Bool.false_eq_true, up_zero, Nat.reduceAdd, Nat.reduceSub]
  refine h0 _ _ ?_
  try clear h0 K_h0
  refine T.seq_k (fun K_h0 h0 => ?_)
  refine T.regi hm ?_
  simp only [↓reduceIte, namesOf, List.any, I.names, aopsI, astep, ev, setd, List.set, List.getD, List.getElem?_cons_zero, List.getElem?_cons_succ, then_normal, Option.getD_some, Bool.or_false, Bool.false_eq_true, up_zero, binv, ↓opt_def, eq_self, hw]
  refine h0 _ _ ?_
  try clear h0 K_h0
  exact T.ret (Fin.ret rfl ⟨rfl, rfl⟩)

theorem u64_natx (x : Int) : ∃ m : Nat, IntKind.u64.wrap x = (m : Int) ∧ m < 18446744073709551616 ∧ (0 ≤ x → x < 18446744073709551616 → (m : Int) = x) := by
  refine ⟨(IntKind.u64.wrap x).toNat, ?_, ?_, ?_⟩ <;> simp [IntKind.wrap, IntKind.bits, IntKind.signed] <;> omega

theorem dgc_facts : ∀ d : Nat, d < 16 → (d < 10 ∧ (dgc d).toNat = 48 + d) ∨ (10 ≤ d ∧ (dgc d).toNat = 87 + d ∧ lowN (dgc d).toNat = 87 + d) := by decide +kernel

/-- the text is just the number's sixteen digits -/
def canU (b : Nat) (l : List UInt8) (id : Nat) : Prop := b = 16 ∧ id < 18446744073709551616 ∧ l = dg 16 16 id

theorem canU.len {b : Nat} {l : List UInt8} {id : Nat} (h : canU b l id) : l.length = 16 := by rw [h.2.2, dg_len]

theorem dg_get (b : Nat) : ∀ (m n i : Nat), i < m → (dg b m n)[i]? = some (dgc (n / b ^ (m - 1 - i) % b))
  | 0, n, i, h => by omega
  | m + 1, n, i, h => by
    rw [dg_cons]
    cases i with
    | zero => simp
    | succ i =>
      rw [List.getElem?_cons_succ, dg_get b m n i (by omega)]
      rw [show m + 1 - 1 - (i + 1) = m - 1 - i by omega]

theorem canU.digit {b : Nat} {l : List UInt8} {id i : Nat} {c : UInt8} (h : canU b l id) (hc : l[i]? = some c) : i < 16 ∧ c = dgc (id / 16 ^ (15 - i) % 16) := by
  have hi : i < l.length := (List.getElem?_eq_some_iff.1 hc).1
  rw [h.len] at hi
  rw [h.2.2, dg_get 16 16 id i hi] at hc
  exact ⟨hi, (Option.some.inj hc).symm⟩

/-- what reading digits tells: the number; or an error -/
def UOut (b : Nat) (l : List UInt8) (v : AV) : Prop :=
  (∃ n : Nat, n < 18446744073709551616 ∧ v = .tup [.int .u64 (n : Int), .nili] ∧ ∀ id, canU b l id → n = id) ∨
  (∃ (n : Nat) (e : Int), n < 18446744073709551616 ∧ (e = 1 ∨ e = 2) ∧ v = .tup [.int .u64 (n : Int), .iface t_serr (.int .i64 e)] ∧ ∀ id, ¬ canU b l id)

set_option maxRecDepth 10000 in
set_option maxHeartbeats 2000000 in
theorem iparU_ok {b : Nat} {l : List UInt8} {bs : Int} {σ : St} (hb : b = 16 ∨ b = 10) (hbs : bs = 64 ∨ bs = 0) (hl : l.length ≤ 1000000000) :
    ACalls Tryd.prog n_iparU [.str ⟨l.toArray⟩, .int .i64 (b : Int), .int .i64 bs] σ (fun v σ' => σ' = σ ∧ UOut b l v) := by
  refine s_iparU (fun wf => ?_)
  unfold c_iparU
  have q0 : sbinv .eql ⟨l.toArray⟩ ⟨#[]⟩ = some (.bool (decide (l = []))) := by simp only [sbinv, ba_eq l []]
  refine T.seq_k (fun K_h0 h0 => ?_)
  refine T.regi hm ?_
  simp only [↓reduceIte, namesOf, List.any, I.names, aopsI, astep, ev, setd, List.set, List.cons_append, List.nil_append, List.length_cons, List.length_nil, List.replicate, then_normal, Bool.or_false, Bool.false_eq_true, up_zero, Nat.reduceAdd, Nat.reduceSub]
  refine h0 _ _ ?_
  try clear h0 K_h0
  refine T.seq_k (fun K_h1 h1 => ?_)
  by_cases hnil : l = []
  · have q1 : decide (l = []) = true := decide_eq_true hnil
    rw [q1] at q0
    refine T.seq_k (fun K_h0 h0 => ?_)
    refine T.regi hm ?_
    simp only [↓reduceIte, namesOf, List.any, I.names, aopsI, astep, ev, setd, List.set, List.getD, List.getElem?_cons_zero, List.getElem?_cons_succ, then_normal, Option.getD_some, Bool.or_false, Bool.false_eq_true, up_zero, ↓opt_def, q0]
    refine h0 _ _ ?_
    try clear h0 K_h0
    refine T.cond rfl (fun _ => ?_) (fun h => by cases h)
    refine T.seq_k (fun K_h0 h0 => ?_)
    refine T.regi hm ?_
    simp only [↓reduceIte, namesOf, List.any, I.names, aopsI, astep, ev, setd, List.set, List.getD, List.getElem?_cons_zero, List.getElem?_cons_succ, then_normal, Option.getD_some, Bool.or_false, Bool.false_eq_true, up_zero]
    refine h0 _ _ ?_
    try clear h0 K_h0
    exact T.ret (Fin.ret rfl ⟨rfl, .inr ⟨0, 2, by omega, .inr rfl, rfl, fun id h => by have := h.len; rw [hnil] at this; simp at this⟩⟩)
  have q1 : decide (l = []) = false := decide_eq_false hnil
  rw [q1] at q0
  have eb0 : ((b : Int) == 0) = false := by rw [beq_eq_false_iff_ne]; omega
  have eb2 : decide ((2 : Int) ≤ (b : Int)) = true := decide_eq_true (by omega)
  have eb36 : decide ((b : Int) ≤ 36) = true := decide_eq_true (by omega)
  refine T.seq_k (fun K_h0 h0 => ?_)
  refine T.regi hm ?_
  simp only [↓reduceIte, namesOf, List.any, I.names, aopsI, astep, ev, setd, List.set, List.getD, List.getElem?_cons_zero, List.getElem?_cons_succ, then_normal, Option.getD_some, Bool.or_false, Bool.false_eq_true, up_zero, ↓opt_def, q0]
  refine h0 _ _ ?_
  try clear h0 K_h0
  refine T.cond rfl (fun h => by cases h) (fun _ => T.skip ?_)
  refine h1 _ _ ?_
  try clear h1 K_h1
  refine T.seq_k (fun K_h0 h0 => ?_)
  refine T.regi hm ?_
  simp only [↓reduceIte, namesOf, List.any, I.names, aopsI, astep, ev, setd, List.set, List.getD, List.getElem?_cons_zero, List.getElem?_cons_succ, then_normal, Option.getD_some, Bool.or_false, Bool.false_eq_true, up_zero, binv, ↓opt_def, eq_self, eb0]
  refine h0 _ _ ?_
  try clear h0 K_h0
  refine T.seq_k (fun K_h0 h0 => ?_)
  refine T.regi hm ?_
  simp only [↓reduceIte, namesOf, List.any, I.names, aopsI, astep, ev, setd, List.set, List.getD, List.getElem?_cons_zero, List.getElem?_cons_succ, then_normal, Option.getD_some, Bool.or_false, Bool.false_eq_true, up_zero]
  refine h0 _ _ ?_
  try clear h0 K_h0
  refine T.seq_k (fun K_h1 h1 => ?_)
  refine T.block ?_
  refine T.seq_k (fun K_h0 h0 => ?_)
  refine T.regi hm ?_
  simp only [↓reduceIte, namesOf, List.any, I.names, aopsI, astep, ev, setd, List.set, List.getD, List.getElem?_cons_zero, List.getElem?_cons_succ, then_normal, Option.getD_some, Bool.or_false, Bool.false_eq_true, up_zero, binv, ↓opt_def, eq_self, eb2, eb36]
  refine h0 _ _ ?_
  try clear h0 K_h0
  refine T.cond rfl (fun _ => T.skip ?_) (fun h => by cases h)
  try simp only [then_normal, inBlock_normal, inBlock_normal]
  refine h1 _ _ ?_
  try clear h1 K_h1
  refine T.seq_k (fun K_h1 h1 => ?_)
  have nxt : ∀ ρ', keep [0, 1, 2, 8] 0 ρ' = [.str ⟨l.toArray⟩, .int .i64 (b : Int), .int .i64 64, .any, .any, .any, .any, .any, .bool false] ++ List.replicate 163 .any → K_h1 ρ' σ := by
    intro ρ' hρ
    refine h1 _ _ ?_
    try clear h1 K_h1
    refine T.gh (Gh.keep [0, 1, 2, 8]) ?_
    rw [hρ]
    clear hρ ρ'
    refine T.seq_k (fun K_h0 h0 => ?_)
    refine T.regi hm ?_
    simp only [↓reduceIte, namesOf, List.any, I.names, aopsI, astep, ev, setd, List.set, List.cons_append, List.nil_append, List.replicate, then_normal, Bool.or_false, Bool.false_eq_true, up_zero]
    refine h0 _ _ ?_
    try clear h0 K_h0
    refine T.seq_k (fun K_h1 h1 => ?_)
    refine T.seq_k (fun K_h0 h0 => ?_)
    refine T.regi hm ?_
    simp only [↓reduceIte, namesOf, List.any, I.names, aopsI, astep, ev, setd, List.set, List.getD, List.getElem?_cons_zero, List.getElem?_cons_succ, then_normal, Option.getD_some, Bool.or_false, Bool.false_eq_true, up_zero]
    refine h0 _ _ ?_
    try clear h0 K_h0
    refine T.block ?_
    obtain ⟨cut, hcut⟩ : ∃ cut : Nat, cut = if b = 16 then 1152921504606846976 else 1844674407370955162 := ⟨_, rfl⟩
    have nxt2 : ∀ ρ', keep [0, 1, 2, 8, 10] 0 ρ' = [.str ⟨l.toArray⟩, .int .i64 (b : Int), .int .i64 64, .any, .any, .any, .any, .any, .bool false, .any, .int .u64 (cut : Int)] ++ List.replicate 161 .any → K_h1 ρ' σ := by
      intro ρ' hρ
      refine h1 _ _ ?_
      try clear h1 K_h1
      refine T.gh (Gh.keep [0, 1, 2, 8, 10]) ?_
      rw [hρ]
      clear hρ ρ'
      have s1 : IntKind.u64.wrap 64 = 64 := by decide
      have s2 : ¬ ((64 : Int) < 0) := by decide
      have s3 : IntKind.u64.wrap (1 * 2 ^ min (64 : Int).toNat IntKind.u64.bits) = 0 := by decide
      obtain ⟨M, hM⟩ : ∃ M : Int, IntKind.u64.wrap (0 - 1) = M := ⟨_, rfl⟩
      have hM2 : M = 18446744073709551615 := by rw [← hM]; decide
      refine T.seq_k (fun K_h0 h0 => ?_)
      refine T.regi hm ?_
      simp only [↓reduceIte, namesOf, List.any, I.names, aopsI, astep, ev, setd, List.set, List.getD, List.getElem?_cons_zero, List.getElem?_cons_succ, List.cons_append, List.nil_append, List.replicate, then_normal, Option.getD_some, Bool.or_false, Bool.false_eq_true, up_zero, binv, ↓opt_def, eq_self, s1, s2, s3, hM]
      refine h0 _ _ ?_
      try clear h0 K_h0
      refine T.seq_k (fun K_h0 h0 => ?_)
      refine T.regi hm ?_
      simp only [↓reduceIte, namesOf, List.any, I.names, aopsI, astep, ev, setd, List.set, then_normal, Bool.or_false, Bool.false_eq_true, up_zero]
      refine h0 _ _ ?_
      try clear h0 K_h0
      refine T.seq_k (fun K_h0 h0 => ?_)
      refine T.regi hm ?_
      simp only [↓reduceIte, namesOf, List.any, I.names, aopsI, astep, ev, setd, List.set, then_normal, Bool.or_false, Bool.false_eq_true, up_zero]
      refine h0 _ _ ?_
      try clear h0 K_h0
      refine T.seq_k (fun K_h1 h1 => ?_)
      have hd : (⟨l.toArray⟩ : ByteArray).data.toList = l := rfl
      refine T.seq_k (fun K_h0 h0 => ?_)
      refine T.regi hm ?_
      simp only [↓reduceIte, namesOf, List.any, I.names, aopsI, astep, ev, setd, List.set, List.getD, List.getElem?_cons_zero, List.getElem?_cons_succ, List.length_cons, List.length_nil, then_normal, Option.getD_some, Bool.or_false, Bool.or_true, Nat.reduceAdd, eq_self, held, bytesAV_er, bytesAV_len]
      refine h0 _ _ ?_
      try clear h0 K_h0
      have hL0 : Like σ ((σ.up 4).set (σ.next + 1) (.tip 1)) := (Like.refl σ).box (n := 4) (i := 1) _
      generalize ((σ.up 4).set (σ.next + 1) (.tip 1)) = t0 at hL0 ⊢
      generalize σ.next + 1 = g
      refine T.block ?_
      refine T.gh (Gh.keep [1, 8, 10, 11, 12, 13, 99, 100, 101]) ?_
      refine T.loopi (fun i ρ t => ∃ n : Nat, n < 18446744073709551616 ∧ (∀ id, canU b l id → n = id / 16 ^ (16 - i)) ∧ Like σ t ∧
          ρ = [.any, .int .i64 (b : Int), .any, .any, .any, .any, .any, .any, .bool false, .any, .int .u64 (cut : Int), .int .u64 M, .bool false, .int .u64 (n : Int)] ++ List.replicate 85 .any ++ [.sl (bytesAV l) (.tip g), .int .i64 (l.length : Int), .int .i64 (i : Int)] ++ List.replicate 70 .any)
        l.length 0 (Nat.zero_le _) ⟨0, by omega, fun id h => by rw [Nat.div_eq_of_lt (by have := h.2.1; omega)], hL0, rfl⟩ ?_
      clear hL0 t0
      rintro i ρ t hi ⟨n, hn, hcan, hL, rfl⟩
      refine T.seq_k (fun K_h0 h0 => ?_)
      refine T.regi hm ?_
      simp only [↓reduceIte, namesOf, List.any, I.names, aopsI, astep, ev, setd, List.set, List.getD, List.getElem?_cons_zero, List.getElem?_cons_succ, List.cons_append, List.nil_append, List.replicate, then_normal, Option.getD_some, Bool.or_false, Bool.false_eq_true, up_zero, binv, ↓opt_def, lt_len, eq_self]
      refine h0 _ _ ?_
      try clear h0 K_h0
      refine T.seq_k (fun K_h2 h2 => ?_)
      by_cases hil : i < l.length
      case neg =>
        refine T.cond (b := false) (by simp [ev]; omega) (fun h => by cases h) (fun _ => T.exit ?_)
        have hie : i = l.length := by omega
        try simp only [List.cons_append, List.nil_append, List.replicate, then_normal, inBlock_exit, then_exit]
        refine h1 _ _ ?_
        try clear h1 K_h1
        refine T.seq_k (fun K_h1 h1 => ?_)
        refine T.seq_k (fun K_h0 h0 => ?_)
        refine T.regi hm ?_
        simp only [↓reduceIte, namesOf, List.any, I.names, aopsI, astep, ev, setd, List.set, List.getD, List.getElem?_cons_zero, List.getElem?_cons_succ, then_normal, Option.getD_some, Bool.or_false, Bool.false_eq_true, up_zero]
        refine h0 _ _ ?_
        try clear h0 K_h0
        refine T.cond rfl (fun h => by cases h) (fun _ => T.skip ?_)
        refine h1 _ _ ?_
        try clear h1 K_h1
        refine T.seq_k (fun K_h0 h0 => ?_)
        refine T.regi hm ?_
        simp only [↓reduceIte, namesOf, List.any, I.names, aopsI, astep, ev, setd, List.set, List.getD, List.getElem?_cons_zero, List.getElem?_cons_succ, then_normal, Option.getD_some, Bool.or_false, Bool.false_eq_true, up_zero]
        refine h0 _ _ ?_
        try clear h0 K_h0
        exact T.ret (Fin.quiet rfl ⟨trivial, trivial, trivial⟩ (hL.quiet wf) ⟨rfl, .inl ⟨n, hn, rfl, fun id h => by
          rw [hcan id h, hie, h.len, Nat.sub_self, Nat.pow_zero, Nat.div_one]⟩⟩)
      refine T.cond (b := true) (by simp [ev]; omega) (fun _ => T.skip ?_) (fun h => by cases h)
      refine h2 _ _ ?_
      try clear h2 K_h2
      obtain ⟨c, hc⟩ : ∃ c, l[i]? = some c := ⟨_, List.getElem?_eq_getElem hil⟩
      have hgc : (bytesAV l)[i]? = some (.int .u8 ((c.toNat : Nat) : Int)) := by simp [bytesAV, hc]
      have hk : c.toNat < 256 := c.toNat_lt
      have hdig : ∀ id, canU b l id → i < 16 ∧ c = dgc (id / 16 ^ (15 - i) % 16) := fun id h => h.digit hc
      have hinc := inc64' hil (by omega)
      generalize hkc : c.toNat = k at hgc hk
      refine T.seq_k (fun K_h3 h3 => ?_)
      refine T.block ?_
      refine T.seq_k (fun K_h0 h0 => ?_)
      refine T.regi hm ?_
      simp only [↓reduceIte, namesOf, List.any, I.names, aopsI, astep, ev, setd, List.set, List.getD, List.getElem?_cons_zero, List.getElem?_cons_succ, List.cons_append, List.nil_append, List.length_cons, List.length_nil, List.replicate, then_normal, Option.getD_some, Bool.or_false, Bool.false_eq_true, up_zero, ↓opt_def, AV.cells, ldc, Int.natCast_nonneg, lt_len, Int.toNat_natCast, true_and, and_true, eq_self, decide_true, hil, bytesAV_len, hgc, Nat.zero_add]
      refine h0 _ _ ?_
      try clear h0 K_h0
      refine T.seq_k (fun K_h0 h0 => ?_)
      refine T.regi hm ?_
      simp only [↓reduceIte, namesOf, List.any, I.names, aopsI, astep, ev, setd, List.set, List.cons_append, List.nil_append, List.replicate, then_normal, Bool.or_false, Bool.false_eq_true, up_zero]
      refine h0 _ _ ?_
      try clear h0 K_h0
      refine T.seq_k (fun K_h4 h4 => ?_)
      have nxt3 : ∀ (ρ' : List AV) (d : Nat), d < 256 → (∀ id, canU b l id → d = id / 16 ^ (15 - i) % 16) →
          keep [1, 8, 10, 11, 12, 13, 16, 99, 100, 101] 0 ρ' = [.any, .int .i64 (b : Int), .any, .any, .any, .any, .any, .any, .bool false, .any, .int .u64 (cut : Int), .int .u64 M, .bool false, .int .u64 (n : Int), .any, .any, .int .u8 (d : Int)] ++ List.replicate 82 .any ++ [.sl (bytesAV l) (.tip g), .int .i64 (l.length : Int), .int .i64 (i : Int)] ++ List.replicate 70 .any → K_h4 ρ' t := by
        intro ρ' d hd256 hdd hρ
        refine h4 _ _ ?_
        try clear h4 K_h4
        refine T.gh (Gh.keep [1, 8, 10, 11, 12, 13, 16, 99, 100, 101]) ?_
        rw [hρ]
        clear hρ ρ'
        have wb8 : IntKind.u8.wrap (b : Int) = (b : Int) := by rcases hb with rfl | rfl <;> rfl
        have wb64 : IntKind.u64.wrap (b : Int) = (b : Int) := by rcases hb with rfl | rfl <;> rfl
        have wd64 : IntKind.u64.wrap (d : Int) = (d : Int) := u64w (by omega)
        obtain ⟨nb, hnb, hnb1, hnb2⟩ := u64_natx ((n : Int) * (b : Int))
        obtain ⟨n1, hn1, hn11, hn12⟩ := u64_natx ((nb : Int) + (d : Int))
        refine T.seq_k (fun K_h4 h4 => ?_)
        by_cases hdb : b ≤ d
        · have f1 : decide ((d : Int) ≥ (b : Int)) = true := decide_eq_true (by omega)
          refine T.seq_k (fun K_h0 h0 => ?_)
          refine T.regi hm ?_
          simp only [↓reduceIte, namesOf, List.any, I.names, aopsI, astep, ev, setd, List.set, List.getD, List.getElem?_cons_zero, List.getElem?_cons_succ, List.cons_append, List.nil_append, List.replicate, then_normal, Option.getD_some, Bool.or_false, Bool.false_eq_true, up_zero, binv, ↓opt_def, eq_self, wb8, f1]
          refine h0 _ _ ?_
          try clear h0 K_h0
          refine T.cond rfl (fun _ => ?_) (fun h => by cases h)
          refine T.seq_k (fun K_h0 h0 => ?_)
          refine T.regi hm ?_
          simp only [↓reduceIte, namesOf, List.any, I.names, aopsI, astep, ev, setd, List.set, List.getD, List.getElem?_cons_zero, List.getElem?_cons_succ, List.cons_append, List.nil_append, List.replicate, then_normal, Option.getD_some, Bool.or_false, Bool.false_eq_true, up_zero]
          refine h0 _ _ ?_
          try clear h0 K_h0
          refine T.ret (Fin.quiet rfl ⟨trivial, trivial, trivial⟩ (hL.quiet wf) ⟨rfl, .inr ⟨0, 2, by omega, .inr rfl, rfl, fun id h => ?_⟩⟩)
          have h1 := hdd id h
          have h2 := h.1
          omega
        have f1 : decide ((d : Int) ≥ (b : Int)) = false := decide_eq_false (by omega)
        refine T.seq_k (fun K_h0 h0 => ?_)
        refine T.regi hm ?_
        simp only [↓reduceIte, namesOf, List.any, I.names, aopsI, astep, ev, setd, List.set, List.getD, List.getElem?_cons_zero, List.getElem?_cons_succ, List.cons_append, List.nil_append, List.replicate, then_normal, Option.getD_some, Bool.or_false, Bool.false_eq_true, up_zero, binv, ↓opt_def, eq_self, wb8, f1]
        refine h0 _ _ ?_
        try clear h0 K_h0
        refine T.cond rfl (fun h => by cases h) (fun _ => T.skip ?_)
        refine h4 _ _ ?_
        try clear h4 K_h4
        refine T.seq_k (fun K_h4 h4 => ?_)
        by_cases hnc : cut ≤ n
        · have f2 : decide ((n : Int) ≥ (cut : Int)) = true := decide_eq_true (by omega)
          refine T.seq_k (fun K_h0 h0 => ?_)
          refine T.regi hm ?_
          simp only [↓reduceIte, namesOf, List.any, I.names, aopsI, astep, ev, setd, List.set, List.getD, List.getElem?_cons_zero, List.getElem?_cons_succ, List.cons_append, List.nil_append, List.replicate, then_normal, Option.getD_some, Bool.or_false, Bool.false_eq_true, up_zero, binv, ↓opt_def, eq_self, f2]
          refine h0 _ _ ?_
          try clear h0 K_h0
          refine T.cond rfl (fun _ => ?_) (fun h => by cases h)
          refine T.seq_k (fun K_h0 h0 => ?_)
          refine T.regi hm ?_
          simp only [↓reduceIte, namesOf, List.any, I.names, aopsI, astep, ev, setd, List.set, List.getD, List.getElem?_cons_zero, List.getElem?_cons_succ, List.cons_append, List.nil_append, List.replicate, then_normal, Option.getD_some, Bool.or_false, Bool.false_eq_true, up_zero]
          refine h0 _ _ ?_
          try clear h0 K_h0
          obtain ⟨M', hM'⟩ : ∃ m : Nat, M = (m : Int) := ⟨18446744073709551615, hM2⟩
          rw [hM']
          refine T.ret (Fin.quiet rfl ⟨trivial, trivial, trivial⟩ (hL.quiet wf) ⟨rfl, .inr ⟨M', 1, by omega, .inl rfl, rfl, fun id h => ?_⟩⟩)
          have h1 := hcan id h
          have h2 := h.1
          have h3 := (hdig id h).1
          have h4 := h.2.1
          rw [if_pos h2] at hcut
          have h5 : id / 16 ^ (16 - i) ≤ id / 16 := by
            rw [show 16 - i = (15 - i) + 1 by omega, Nat.pow_succ', ← Nat.div_div_eq_div_mul]
            exact Nat.div_le_self _ _
          omega
        have f2 : decide ((n : Int) ≥ (cut : Int)) = false := decide_eq_false (by omega)
        refine T.seq_k (fun K_h0 h0 => ?_)
        refine T.regi hm ?_
        simp only [↓reduceIte, namesOf, List.any, I.names, aopsI, astep, ev, setd, List.set, List.getD, List.getElem?_cons_zero, List.getElem?_cons_succ, List.cons_append, List.nil_append, List.replicate, then_normal, Option.getD_some, Bool.or_false, Bool.false_eq_true, up_zero, binv, ↓opt_def, eq_self, f2]
        refine h0 _ _ ?_
        try clear h0 K_h0
        refine T.cond rfl (fun h => by cases h) (fun _ => T.skip ?_)
        refine h4 _ _ ?_
        try clear h4 K_h4
        refine T.seq_k (fun K_h0 h0 => ?_)
        refine T.regi hm ?_
        simp only [↓reduceIte, namesOf, List.any, I.names, aopsI, astep, ev, setd, List.set, List.getD, List.getElem?_cons_zero, List.getElem?_cons_succ, List.cons_append, List.nil_append, List.replicate, then_normal, Option.getD_some, Bool.or_false, Bool.false_eq_true, up_zero, binv, ↓opt_def, eq_self, wb64, hnb]
        refine h0 _ _ ?_
        try clear h0 K_h0
        refine T.seq_k (fun K_h0 h0 => ?_)
        refine T.regi hm ?_
        simp only [↓reduceIte, namesOf, List.any, I.names, aopsI, astep, ev, setd, List.set, List.getD, List.getElem?_cons_zero, List.getElem?_cons_succ, List.cons_append, List.nil_append, List.replicate, then_normal, Option.getD_some, Bool.or_false, Bool.false_eq_true, up_zero, binv, ↓opt_def, eq_self, wd64, hn1]
        refine h0 _ _ ?_
        try clear h0 K_h0
        -- what it comes to where the text is a number's digits
        have hnext : ∀ id, canU b l id → nb = n * 16 ∧ n1 = n * 16 + d ∧ n1 = id / 16 ^ (16 - (i + 1)) := by
          intro id h
          have h1 := hcan id h
          have h2 := h.1
          have h3 := (hdig id h).1
          have h4 := h.2.1
          have h6 := hdd id h
          have h7 : id / 16 ^ (16 - i) = id / 16 ^ (15 - i) / 16 := by
            rw [show 16 - i = (15 - i) + 1 by omega, Nat.pow_succ, Nat.div_div_eq_div_mul]
          have h8 : id / 16 ^ (15 - i) ≤ id := Nat.div_le_self _ _
          rw [show 16 - (i + 1) = 15 - i by omega]
          rw [h7] at h1
          generalize id / 16 ^ (15 - i) = y at h1 h6 h8 ⊢
          subst h2
          have h9 := hnb2 (by omega) (by omega)
          have h10 : nb = n * 16 := by omega
          have h11 := hn12 (by omega) (by omega)
          refine ⟨h10, by omega, by omega⟩
        refine T.seq_k (fun K_h4 h4 => ?_)
        by_cases hov : n1 < nb
        · have f3 : decide ((n1 : Int) < (nb : Int)) = true := decide_eq_true (by omega)
          refine T.seq_k (fun K_h0 h0 => ?_)
          refine T.regi hm ?_
          simp only [↓reduceIte, namesOf, List.any, I.names, aopsI, astep, ev, setd, List.set, List.getD, List.getElem?_cons_zero, List.getElem?_cons_succ, List.cons_append, List.nil_append, List.replicate, then_normal, Option.getD_some, Bool.or_false, Bool.false_eq_true, up_zero, binv, ↓opt_def, eq_self, reduceCtorEq, f3]
          refine h0 _ _ ?_
          try clear h0 K_h0
          refine T.cond rfl (fun _ => ?_) (fun h => by cases h)
          refine T.seq_k (fun K_h0 h0 => ?_)
          refine T.regi hm ?_
          simp only [↓reduceIte, namesOf, List.any, I.names, aopsI, astep, ev, setd, List.set, List.getD, List.getElem?_cons_zero, List.getElem?_cons_succ, List.cons_append, List.nil_append, List.replicate, then_normal, Option.getD_some, Bool.or_false, Bool.false_eq_true, up_zero]
          refine h0 _ _ ?_
          try clear h0 K_h0
          obtain ⟨M', hM'⟩ : ∃ m : Nat, M = (m : Int) := ⟨18446744073709551615, hM2⟩
          rw [hM']
          refine T.ret (Fin.quiet rfl ⟨trivial, trivial, trivial⟩ (hL.quiet wf) ⟨rfl, .inr ⟨M', 1, by omega, .inl rfl, rfl, fun id h => ?_⟩⟩)
          have := hnext id h
          omega
        have f3 : decide ((n1 : Int) < (nb : Int)) = false := decide_eq_false (by omega)
        have f4 : decide ((n1 : Int) > M) = false := decide_eq_false (by omega)
        refine T.seq_k (fun K_h0 h0 => ?_)
        refine T.regi hm ?_
        simp only [↓reduceIte, namesOf, List.any, I.names, aopsI, astep, ev, setd, List.set, List.getD, List.getElem?_cons_zero, List.getElem?_cons_succ, List.cons_append, List.nil_append, List.replicate, then_normal, Option.getD_some, Bool.or_false, Bool.false_eq_true, up_zero, binv, ↓opt_def, eq_self, f3, f4]
        refine h0 _ _ ?_
        try clear h0 K_h0
        refine T.cond rfl (fun h => by cases h) (fun _ => T.skip ?_)
        refine h4 _ _ ?_
        try clear h4 K_h4
        refine T.regi hm ?_
        simp only [↓reduceIte, namesOf, List.any, I.names, aopsI, astep, ev, setd, List.set, List.getD, List.getElem?_cons_zero, List.getElem?_cons_succ, List.cons_append, List.nil_append, List.replicate, then_normal, inBlock_normal, Option.getD_some, Bool.or_false, Bool.false_eq_true, up_zero]
        try simp only [↓reduceIte, namesOf, List.any, I.names, aops, aopsI, aopsT, qstep, CPt, qget, Tbl.get, astep, ev, setd, List.set, List.getD, List.getElem?_cons_zero, List.getElem?_cons_succ, List.getElem?_nil, List.cons_append, List.nil_append, List.length_cons, List.length_nil, List.replicate, then_normal, inBlock_normal, Option.getD_some, Option.getD_none, Bool.or_false, Bool.or_true, Bool.true_or, Bool.false_or, Bool.false_eq_true, if_false, if_true, up_zero, Nat.reduceAdd, Nat.reduceSub, binv, ↓opt_def, AV.isAny, AV.cells, ldc, List.map_cons, List.map_nil, St.set_next, St.set_same, St.up_next, Int.natCast_nonneg, lt_len, le_len, Int.toNat_natCast, true_and, and_true, eq_self, reduceCtorEq, decide_true, List.length_singleton, er_int, er_bool, er_str, srcR, inBlock_normal]
        refine h3 _ _ ?_
        try clear h3 K_h3
        refine T.regi hm ?_
        simp only [↓reduceIte, namesOf, List.any, I.names, aopsI, astep, ev, setd, List.set, List.getD, List.getElem?_cons_zero, List.getElem?_cons_succ, List.cons_append, List.nil_append, List.replicate, then_normal, Option.getD_some, Bool.or_false, Bool.false_eq_true, up_zero, binv, ↓opt_def, eq_self, hinc]
        exact ⟨hil, _, _, Gh.keep [1, 8, 10, 11, 12, 13, 99, 100, 101], n1, hn11, fun id h => (hnext id h).2.2, hL, rfl⟩
      clear hinc h3
      refine T.block ?_
      by_cases hA : 48 ≤ k ∧ k ≤ 57
      · have g95 : ((k : Int) == 95) = false := by rw [beq_eq_false_iff_ne]; omega
        have f1 : decide ((48 : Int) ≤ (k : Int)) = true := decide_eq_true (by omega)
        have f2 : decide ((k : Int) ≤ 57) = true := decide_eq_true (by omega)
        have wA : IntKind.u8.wrap ((k : Int) - 48) = ((k - 48 : Nat) : Int) := by simp [IntKind.wrap, IntKind.bits, IntKind.signed]; omega
        refine T.seq_k (fun K_h0 h0 => ?_)
        refine T.regi hm ?_
        simp only [↓reduceIte, namesOf, List.any, I.names, aopsI, astep, ev, setd, List.set, List.getD, List.getElem?_cons_zero, List.getElem?_cons_succ, List.cons_append, List.nil_append, List.replicate, then_normal, Option.getD_some, Bool.or_false, Bool.false_eq_true, up_zero, binv, ↓opt_def, eq_self, g95]
        refine h0 _ _ ?_
        try clear h0 K_h0
        refine T.cond rfl (fun h => by cases h) (fun _ => ?_)
        refine T.seq_k (fun K_h0 h0 => ?_)
        refine T.regi hm ?_
        simp only [↓reduceIte, namesOf, List.any, I.names, aopsI, astep, ev, setd, List.set, List.getD, List.getElem?_cons_zero, List.getElem?_cons_succ, List.cons_append, List.nil_append, List.replicate, then_normal, Option.getD_some, Bool.or_false, Bool.false_eq_true, up_zero, binv, ↓opt_def, eq_self, f1, f2]
        refine h0 _ _ ?_
        try clear h0 K_h0
        refine T.cond rfl (fun _ => ?_) (fun h => by cases h)
        refine T.regi hm ?_
        simp only [↓reduceIte, namesOf, List.any, I.names, aopsI, astep, ev, setd, List.set, List.getD, List.getElem?_cons_zero, List.getElem?_cons_succ, List.cons_append, List.nil_append, List.replicate, then_normal, inBlock_normal, Option.getD_some, Bool.or_false, Bool.false_eq_true, up_zero, binv, ↓opt_def, eq_self, wA]
        refine nxt3 _ (k - 48) (by omega) (fun id h => ?_) rfl
        obtain ⟨h1, h2⟩ := hdig id h
        have h3 := dgc_facts (id / 16 ^ (15 - i) % 16) (Nat.mod_lt _ (by omega))
        rw [← h2, hkc] at h3
        omega
      obtain ⟨lw1, lw2, lw3⟩ := low_facts k hk
      by_cases hB : 97 ≤ lowN k ∧ lowN k ≤ 122
      · obtain ⟨hk57, hk95⟩ := lw2 hB.1 hB.2
        have g95 : ((k : Int) == 95) = false := by rw [beq_eq_false_iff_ne]; omega
        have f1 : decide ((48 : Int) ≤ (k : Int)) = true := decide_eq_true (by omega)
        have f2 : decide ((k : Int) ≤ 57) = false := decide_eq_false (by omega)
        have f3 : decide ((97 : Int) ≤ (lowN k : Int)) = true := decide_eq_true (by omega)
        have f4 : decide ((lowN k : Int) ≤ 122) = true := decide_eq_true (by omega)
        have wB : IntKind.u8.wrap ((lowN k : Int) - 97) = ((lowN k - 97 : Nat) : Int) := by simp [IntKind.wrap, IntKind.bits, IntKind.signed]; omega
        have wB2 : IntKind.u8.wrap (((lowN k - 97 : Nat) : Int) + 10) = ((lowN k - 87 : Nat) : Int) := by simp [IntKind.wrap, IntKind.bits, IntKind.signed]; omega
        refine T.seq_k (fun K_h0 h0 => ?_)
        refine T.regi hm ?_
        simp only [↓reduceIte, namesOf, List.any, I.names, aopsI, astep, ev, setd, List.set, List.getD, List.getElem?_cons_zero, List.getElem?_cons_succ, List.cons_append, List.nil_append, List.replicate, then_normal, Option.getD_some, Bool.or_false, Bool.false_eq_true, up_zero, binv, ↓opt_def, eq_self, g95]
        refine h0 _ _ ?_
        try clear h0 K_h0
        refine T.cond rfl (fun h => by cases h) (fun _ => ?_)
        refine T.seq_k (fun K_h0 h0 => ?_)
        refine T.regi hm ?_
        simp only [↓reduceIte, namesOf, List.any, I.names, aopsI, astep, ev, setd, List.set, List.getD, List.getElem?_cons_zero, List.getElem?_cons_succ, List.cons_append, List.nil_append, List.replicate, then_normal, Option.getD_some, Bool.or_false, Bool.false_eq_true, up_zero, binv, ↓opt_def, eq_self, f1, f2]
        refine h0 _ _ ?_
        try clear h0 K_h0
        refine T.cond rfl (fun h => by cases h) (fun _ => ?_)
        refine T.seq_k (fun K_h5 h5 => ?_)
        refine T.regi hm ?_
        simp only [↓reduceIte, namesOf, List.any, I.names, aopsI, astep, ev, setd, List.set, List.getD, List.getElem?_cons_zero, List.getElem?_cons_succ, List.cons_append, List.nil_append, List.replicate, then_normal, Option.getD_some, Bool.or_false, Bool.false_eq_true, up_zero, binv, ↓opt_def, List.map_cons, List.map_nil]
        refine (lower_ok hk).mono ?_
        rintro v t1 ⟨rfl, rfl⟩
        try simp only [↓reduceIte, eq_self, f3]
        refine (lower_ok hk).mono ?_
        rintro v t1 ⟨rfl, rfl⟩
        try simp only [↓reduceIte, eq_self, f4]
        refine h5 _ _ ?_
        try clear h5 K_h5
        refine T.cond rfl (fun _ => ?_) (fun h => by cases h)
        refine T.regi hm ?_
        simp only [↓reduceIte, namesOf, List.any, I.names, aopsI, astep, ev, setd, List.set, List.getD, List.getElem?_cons_zero, List.getElem?_cons_succ, List.cons_append, List.nil_append, List.replicate, then_normal, inBlock_normal, Option.getD_some, Bool.or_false, Bool.false_eq_true, up_zero, binv, ↓opt_def, List.map_cons, List.map_nil]
        refine (lower_ok hk).mono ?_
        rintro v t1 ⟨rfl, rfl⟩
        try simp only [↓reduceIte, eq_self, wB, wB2]
        refine nxt3 _ (lowN k - 87) (by omega) (fun id h => ?_) rfl
        obtain ⟨h1, h2⟩ := hdig id h
        have h3 := dgc_facts (id / 16 ^ (15 - i) % 16) (Nat.mod_lt _ (by omega))
        rw [← h2, hkc] at h3
        omega
      have hno : ∀ id, ¬ canU b l id := by
        intro id h
        obtain ⟨h1, h2⟩ := hdig id h
        have h3 := dgc_facts (id / 16 ^ (15 - i) % 16) (Nat.mod_lt _ (by omega))
        rw [← h2, hkc] at h3
        omega
      have fin : ∀ ρ', rvals ρ' t [.t 6, .t 7] = some [.int .u64 ((0 : Nat) : Int), .iface t_serr (.int .i64 2)] → Fin σ [.t 6, .t 7] (fun v σ' => σ' = σ ∧ UOut b l v) .ret ρ' t := fun ρ' hr =>
        Fin.quiet hr ⟨trivial, trivial, trivial⟩ (hL.quiet wf) ⟨rfl, .inr ⟨0, 2, by omega, .inr rfl, rfl, hno⟩⟩
      clear nxt3
      by_cases h95 : k = 95
      · subst h95
        have f3 : decide ((97 : Int) ≤ (lowN 95 : Int)) = true := by decide
        have f4 : decide ((lowN 95 : Int) ≤ 122) = false := by decide
        have g95 : (((95 : Nat) : Int) == 95) = true := rfl
        have f1 : decide ((48 : Int) ≤ ((95 : Nat) : Int)) = true := rfl
        have f2 : decide (((95 : Nat) : Int) ≤ 57) = false := rfl
        refine T.seq_k (fun K_h0 h0 => ?_)
        refine T.regi hm ?_
        simp only [↓reduceIte, namesOf, List.any, I.names, aopsI, astep, ev, setd, List.set, List.getD, List.getElem?_cons_zero, List.getElem?_cons_succ, List.cons_append, List.nil_append, List.replicate, then_normal, Option.getD_some, Bool.or_false, Bool.false_eq_true, up_zero, binv, ↓opt_def, eq_self, g95]
        refine h0 _ _ ?_
        try clear h0 K_h0
        refine T.cond rfl (fun h => by cases h) (fun _ => ?_)
        refine T.seq_k (fun K_h0 h0 => ?_)
        refine T.regi hm ?_
        simp only [↓reduceIte, namesOf, List.any, I.names, aopsI, astep, ev, setd, List.set, List.getD, List.getElem?_cons_zero, List.getElem?_cons_succ, List.cons_append, List.nil_append, List.replicate, then_normal, Option.getD_some, Bool.or_false, Bool.false_eq_true, up_zero, binv, ↓opt_def, eq_self, f1, f2]
        refine h0 _ _ ?_
        try clear h0 K_h0
        refine T.cond rfl (fun h => by cases h) (fun _ => ?_)
        refine T.seq_k (fun K_h5 h5 => ?_)
        refine T.regi hm ?_
        simp only [↓reduceIte, namesOf, List.any, I.names, aopsI, astep, ev, setd, List.set, List.getD, List.getElem?_cons_zero, List.getElem?_cons_succ, List.cons_append, List.nil_append, List.replicate, then_normal, Option.getD_some, Bool.or_false, Bool.false_eq_true, up_zero, binv, ↓opt_def, List.map_cons, List.map_nil]
        refine (lower_ok hk).mono ?_
        rintro v t1 ⟨rfl, rfl⟩
        try simp only [↓reduceIte, eq_self, f3]
        refine (lower_ok hk).mono ?_
        rintro v t1 ⟨rfl, rfl⟩
        try simp only [↓reduceIte, eq_self, f4]
        refine h5 _ _ ?_
        try clear h5 K_h5
        refine T.cond rfl (fun h => by cases h) (fun _ => ?_)
        refine T.seq_k (fun K_h0 h0 => ?_)
        refine T.regi hm ?_
        simp only [↓reduceIte, namesOf, List.any, I.names, aopsI, astep, ev, setd, List.set, List.getD, List.getElem?_cons_zero, List.getElem?_cons_succ, List.cons_append, List.nil_append, List.replicate, then_normal, Option.getD_some, Bool.or_false, Bool.false_eq_true, up_zero]
        refine h0 _ _ ?_
        try clear h0 K_h0
        exact T.ret (fin _ rfl)
      have g95 : ((k : Int) == 95) = false := by rw [beq_eq_false_iff_ne]; omega
      by_cases hk48 : k < 48
      · have f1 : decide ((48 : Int) ≤ (k : Int)) = false := decide_eq_false (by omega)
        have f3 : decide ((97 : Int) ≤ (lowN k : Int)) = false := decide_eq_false (by have := lw3 hk48; omega)
        refine T.seq_k (fun K_h0 h0 => ?_)
        refine T.regi hm ?_
        simp only [↓reduceIte, namesOf, List.any, I.names, aopsI, astep, ev, setd, List.set, List.getD, List.getElem?_cons_zero, List.getElem?_cons_succ, List.cons_append, List.nil_append, List.replicate, then_normal, Option.getD_some, Bool.or_false, Bool.false_eq_true, up_zero, binv, ↓opt_def, eq_self, g95]
        refine h0 _ _ ?_
        try clear h0 K_h0
        refine T.cond rfl (fun h => by cases h) (fun _ => ?_)
        refine T.seq_k (fun K_h0 h0 => ?_)
        refine T.regi hm ?_
        simp only [↓reduceIte, namesOf, List.any, I.names, aopsI, astep, ev, setd, List.set, List.getD, List.getElem?_cons_zero, List.getElem?_cons_succ, List.cons_append, List.nil_append, List.replicate, then_normal, Option.getD_some, Bool.or_false, Bool.false_eq_true, up_zero, binv, ↓opt_def, eq_self, f1]
        refine h0 _ _ ?_
        try clear h0 K_h0
        refine T.cond rfl (fun h => by cases h) (fun _ => ?_)
        refine T.seq_k (fun K_h5 h5 => ?_)
        refine T.regi hm ?_
        simp only [↓reduceIte, namesOf, List.any, I.names, aopsI, astep, ev, setd, List.set, List.getD, List.getElem?_cons_zero, List.getElem?_cons_succ, List.cons_append, List.nil_append, List.replicate, then_normal, Option.getD_some, Bool.or_false, Bool.false_eq_true, up_zero, binv, ↓opt_def, List.map_cons, List.map_nil]
        refine (lower_ok hk).mono ?_
        rintro v t1 ⟨rfl, rfl⟩
        try simp only [↓reduceIte, Bool.false_eq_true, eq_self, f3]
        refine h5 _ _ ?_
        try clear h5 K_h5
        refine T.cond rfl (fun h => by cases h) (fun _ => ?_)
        refine T.seq_k (fun K_h0 h0 => ?_)
        refine T.regi hm ?_
        simp only [↓reduceIte, namesOf, List.any, I.names, aopsI, astep, ev, setd, List.set, List.getD, List.getElem?_cons_zero, List.getElem?_cons_succ, List.cons_append, List.nil_append, List.replicate, then_normal, Option.getD_some, Bool.or_false, Bool.false_eq_true, up_zero]
        refine h0 _ _ ?_
        try clear h0 K_h0
        exact T.ret (fin _ rfl)
      have f1 : decide ((48 : Int) ≤ (k : Int)) = true := decide_eq_true (by omega)
      have f2 : decide ((k : Int) ≤ 57) = false := decide_eq_false (by omega)
      refine T.seq_k (fun K_h0 h0 => ?_)
      refine T.regi hm ?_
      simp only [↓reduceIte, namesOf, List.any, I.names, aopsI, astep, ev, setd, List.set, List.getD, List.getElem?_cons_zero, List.getElem?_cons_succ, List.cons_append, List.nil_append, List.replicate, then_normal, Option.getD_some, Bool.or_false, Bool.false_eq_true, up_zero, binv, ↓opt_def, eq_self, g95]
      refine h0 _ _ ?_
      try clear h0 K_h0
      refine T.cond rfl (fun h => by cases h) (fun _ => ?_)
      refine T.seq_k (fun K_h0 h0 => ?_)
      refine T.regi hm ?_
      simp only [↓reduceIte, namesOf, List.any, I.names, aopsI, astep, ev, setd, List.set, List.getD, List.getElem?_cons_zero, List.getElem?_cons_succ, List.cons_append, List.nil_append, List.replicate, then_normal, Option.getD_some, Bool.or_false, Bool.false_eq_true, up_zero, binv, ↓opt_def, eq_self, f1, f2]
      refine h0 _ _ ?_
      try clear h0 K_h0
      refine T.cond rfl (fun h => by cases h) (fun _ => ?_)
      refine T.seq_k (fun K_h5 h5 => ?_)
      by_cases hl97 : 97 ≤ lowN k
      · have f3 : decide ((97 : Int) ≤ (lowN k : Int)) = true := decide_eq_true (by omega)
        have f4 : decide ((lowN k : Int) ≤ 122) = false := decide_eq_false (by omega)
        refine T.regi hm ?_
        simp only [↓reduceIte, namesOf, List.any, I.names, aopsI, astep, ev, setd, List.set, List.getD, List.getElem?_cons_zero, List.getElem?_cons_succ, List.cons_append, List.nil_append, List.replicate, then_normal, Option.getD_some, Bool.or_false, Bool.false_eq_true, up_zero, binv, ↓opt_def, List.map_cons, List.map_nil]
        refine (lower_ok hk).mono ?_
        rintro v t1 ⟨rfl, rfl⟩
        try simp only [↓reduceIte, eq_self, f3]
        refine (lower_ok hk).mono ?_
        rintro v t1 ⟨rfl, rfl⟩
        try simp only [↓reduceIte, eq_self, f4]
        refine h5 _ _ ?_
        try clear h5 K_h5
        refine T.cond rfl (fun h => by cases h) (fun _ => ?_)
        refine T.seq_k (fun K_h0 h0 => ?_)
        refine T.regi hm ?_
        simp only [↓reduceIte, namesOf, List.any, I.names, aopsI, astep, ev, setd, List.set, List.getD, List.getElem?_cons_zero, List.getElem?_cons_succ, List.cons_append, List.nil_append, List.replicate, then_normal, Option.getD_some, Bool.or_false, Bool.false_eq_true, up_zero]
        refine h0 _ _ ?_
        try clear h0 K_h0
        exact T.ret (fin _ rfl)
      · have f3 : decide ((97 : Int) ≤ (lowN k : Int)) = false := decide_eq_false (by omega)
        refine T.regi hm ?_
        simp only [↓reduceIte, namesOf, List.any, I.names, aopsI, astep, ev, setd, List.set, List.getD, List.getElem?_cons_zero, List.getElem?_cons_succ, List.cons_append, List.nil_append, List.replicate, then_normal, Option.getD_some, Bool.or_false, Bool.false_eq_true, up_zero, binv, ↓opt_def, List.map_cons, List.map_nil]
        refine (lower_ok hk).mono ?_
        rintro v t1 ⟨rfl, rfl⟩
        try simp only [↓reduceIte, Bool.false_eq_true, eq_self, f3]
        refine h5 _ _ ?_
        try clear h5 K_h5
        refine T.cond rfl (fun h => by cases h) (fun _ => ?_)
        refine T.seq_k (fun K_h0 h0 => ?_)
        refine T.regi hm ?_
        simp only [↓reduceIte, namesOf, List.any, I.names, aopsI, astep, ev, setd, List.set, List.getD, List.getElem?_cons_zero, List.getElem?_cons_succ, List.cons_append, List.nil_append, List.replicate, then_normal, Option.getD_some, Bool.or_false, Bool.false_eq_true, up_zero]
        refine h0 _ _ ?_
        try clear h0 K_h0
        exact T.ret (fin _ rfl)
    rcases hb with rfl | rfl
    · have e1 : (((16 : Nat) : Int) == 10) = false := rfl
      have e2 : (((16 : Nat) : Int) == 16) = true := rfl
      rw [if_pos rfl] at hcut
      refine T.seq_k (fun K_h0 h0 => ?_)
      refine T.regi hm ?_
      simp only [↓reduceIte, namesOf, List.any, I.names, aopsI, astep, ev, setd, List.set, List.getD, List.getElem?_cons_zero, List.getElem?_cons_succ, then_normal, Option.getD_some, Bool.or_false, Bool.false_eq_true, up_zero, binv, ↓opt_def, eq_self, e1]
      refine h0 _ _ ?_
      try clear h0 K_h0
      refine T.cond rfl (fun h => by cases h) (fun _ => ?_)
      refine T.seq_k (fun K_h0 h0 => ?_)
      refine T.regi hm ?_
      simp only [↓reduceIte, namesOf, List.any, I.names, aopsI, astep, ev, setd, List.set, List.getD, List.getElem?_cons_zero, List.getElem?_cons_succ, then_normal, Option.getD_some, Bool.or_false, Bool.false_eq_true, up_zero, binv, ↓opt_def, eq_self, e2]
      refine h0 _ _ ?_
      try clear h0 K_h0
      refine T.cond rfl (fun _ => ?_) (fun h => by cases h)
      refine T.regi hm ?_
      simp only [↓reduceIte, namesOf, List.any, I.names, aopsI, astep, ev, setd, List.set, then_normal, inBlock_normal, Bool.or_false, Bool.false_eq_true, up_zero]
      exact nxt2 _ (by rw [hcut]; rfl)
    · have e1 : (((10 : Nat) : Int) == 10) = true := rfl
      rw [if_neg (by omega)] at hcut
      refine T.seq_k (fun K_h0 h0 => ?_)
      refine T.regi hm ?_
      simp only [↓reduceIte, namesOf, List.any, I.names, aopsI, astep, ev, setd, List.set, List.getD, List.getElem?_cons_zero, List.getElem?_cons_succ, then_normal, Option.getD_some, Bool.or_false, Bool.false_eq_true, up_zero, binv, ↓opt_def, eq_self, e1]
      refine h0 _ _ ?_
      try clear h0 K_h0
      refine T.cond rfl (fun _ => ?_) (fun h => by cases h)
      refine T.regi hm ?_
      simp only [↓reduceIte, namesOf, List.any, I.names, aopsI, astep, ev, setd, List.set, then_normal, inBlock_normal, Bool.or_false, Bool.false_eq_true, up_zero]
      exact nxt2 _ (by rw [hcut]; rfl)
  rcases hbs with rfl | rfl
  · have e1 : ((64 : Int) == 0) = false := rfl
    have e2 : decide ((64 : Int) < 0) = false := rfl
    have e3 : decide ((64 : Int) > 64) = false := rfl
    refine T.seq_k (fun K_h0 h0 => ?_)
    refine T.regi hm ?_
    simp only [↓reduceIte, namesOf, List.any, I.names, aopsI, astep, ev, setd, List.set, List.getD, List.getElem?_cons_zero, List.getElem?_cons_succ, then_normal, Option.getD_some, Bool.or_false, Bool.false_eq_true, up_zero, binv, ↓opt_def, eq_self, e1]
    refine h0 _ _ ?_
    try clear h0 K_h0
    refine T.cond rfl (fun h => by cases h) (fun _ => ?_)
    refine T.seq_k (fun K_h0 h0 => ?_)
    refine T.regi hm ?_
    simp only [↓reduceIte, namesOf, List.any, I.names, aopsI, astep, ev, setd, List.set, List.getD, List.getElem?_cons_zero, List.getElem?_cons_succ, then_normal, Option.getD_some, Bool.or_false, Bool.false_eq_true, up_zero, binv, ↓opt_def, eq_self, e2, e3]
    refine h0 _ _ ?_
    try clear h0 K_h0
    refine T.cond rfl (fun h => by cases h) (fun _ => T.skip ?_)
    exact nxt _ rfl
  · have e1 : ((0 : Int) == 0) = true := rfl
    refine T.seq_k (fun K_h0 h0 => ?_)
    refine T.regi hm ?_
    simp only [↓reduceIte, namesOf, List.any, I.names, aopsI, astep, ev, setd, List.set, List.getD, List.getElem?_cons_zero, List.getElem?_cons_succ, then_normal, Option.getD_some, Bool.or_false, Bool.false_eq_true, up_zero, binv, ↓opt_def, eq_self, e1]
    refine h0 _ _ ?_
    try clear h0 K_h0
    refine T.cond rfl (fun _ => ?_) (fun h => by cases h)
    refine T.regi hm ?_
    simp only [↓reduceIte, namesOf, List.any, I.names, aopsI, astep, ev, setd, List.set, then_normal, Bool.or_false, Bool.false_eq_true, up_zero]
    exact nxt _ rfl

end Go.VL

namespace Go.VL

open Go.RowKit

variable {P : Program}

/-- a call that leaves what was there alone -/
theorem R.lateC {κ : Kx} {w : World} {B : Nat} {F : Nat → Prop} {σ : St} (hR : R B F κ w σ) {w' : World} (hb : RowKit.Below w.heap.size w w') (hd : w.drawn ≤ w'.drawn) : Ext κ w κ w' ∧ R w.heap.size (ownd κ σ) κ w' σ ∧ Fr (ownd κ σ) w w' := by
  have e : Ext κ w κ w' := ⟨fun _ _ h => h, fun _ _ => rfl, fun _ _ => rfl, fun _ _ => rfl, fun _ _ => rfl, fun _ h => h, fun b o hi => cell_same (hb.block b (hR.imm b o hi)) o⟩
  have hR1 : R B F κ w' σ := hR.step e hR.dom (fun b o hi => Nat.lt_of_lt_of_le (hR.imm b o hi) hb.size) (fun n r hr => .inl ⟨hr, hb.block _ (hR.lt hr), fun _ h => h⟩)
  exact ⟨e, ⟨hR1.dom, hR1.own, hR1.apart, hR1.imm, fun n r hr hrl => .inl ⟨n, r, hr, hrl, rfl⟩⟩, ⟨hb.os, hd⟩, hb.tape, hb.output, hb.size, fun b hlt _ => hb.block b hlt⟩

def clCode (tS tI tB tL tP t0 : Nat) : Code := ((Code.region 0 #[{ dst := some 2, op := Op.assign (Operand.const (Value.string { data := #[] })), type := tS, pos := "strings.go:115", after := #[], guard := none }] false).seq
  (((Code.region 1 #[{ dst := some 4, op := Op.move (Operand.tmp 0), type := tS, pos := "strings.go:116", after := #[], guard := none },
      { dst := some 5, op := Op.call { callee := Callee.builtin Builtin.len, args := #[Operand.tmp 4], argTypes := #[tS] }, type := tI, pos := "strings.go:116", after := #[{ on := 0, ground := Ground.data }], guard := none },
      { dst := some 6, op := Op.binOp BinOp.eql tI (Operand.tmp 5) (Operand.const (Value.int IntKind.i64 0)) tI, type := tB, pos := "strings.go:116", after := #[{ on := 1, ground := Ground.data }], guard := none }] false).seq
    (Code.cond (Operand.tmp 6) ((Code.region 2 #[{ dst := some 2, op := Op.assign (Operand.const (Value.string { data := #[] })), type := tS, pos := "strings.go:117", after := #[], guard := none }] false).seq Code.ret) Code.skip)).seq
  ((Code.region 3 #[{ dst := some 7, op := Op.move (Operand.tmp 0), type := tS, pos := "strings.go:119", after := #[], guard := none },
      { dst := some 8, op := Op.call { callee := Callee.builtin Builtin.len, args := #[Operand.tmp 7], argTypes := #[tS] }, type := tI, pos := "strings.go:119", after := #[{ on := 0, ground := Ground.data }], guard := none },
      { dst := some 9, op := Op.makeSlice tL (Operand.tmp 8) (Operand.tmp 8), type := tL, pos := "strings.go:119", after := #[{ on := 1, ground := Ground.data }, { on := 1, ground := Ground.data }], guard := none },
      { dst := some 3, op := Op.assign (Operand.tmp 9), type := tL, pos := "strings.go:119", after := #[{ on := 2, ground := Ground.data }, { on := 0, ground := Ground.phase }, { on := 1, ground := Ground.phase }, { on := 2, ground := Ground.phase }], guard := none }] false).seq
  ((Code.region 4 #[{ dst := some 10, op := Op.move (Operand.tmp 3), type := tL, pos := "strings.go:120", after := #[], guard := none },
      { dst := some 11, op := Op.move (Operand.tmp 0), type := tS, pos := "strings.go:120", after := #[], guard := none },
      { dst := some 12, op := Op.call { callee := Callee.builtin Builtin.copy, args := #[Operand.tmp 10, Operand.tmp 11], argTypes := #[tL, tS] }, type := tI, pos := "strings.go:120", after := #[{ on := 0, ground := Ground.data }, { on := 1, ground := Ground.data }], guard := none }] false).seq
  ((Code.region 5 #[{ dst := some 13, op := Op.move (Operand.tmp 3), type := tL, pos := "strings.go:121", after := #[], guard := none },
      { dst := some 14, op := Op.indexAddr tL (Operand.tmp 13) (Operand.const (Value.int IntKind.i64 0)), type := t0, pos := "strings.go:121", after := #[{ on := 0, ground := Ground.data }], guard := none },
      { dst := some 15, op := Op.move (Operand.tmp 3), type := tL, pos := "strings.go:121", after := #[], guard := none },
      { dst := some 16, op := Op.call { callee := Callee.builtin Builtin.len, args := #[Operand.tmp 15], argTypes := #[tL] }, type := tI, pos := "strings.go:121", after := #[{ on := 2, ground := Ground.data }], guard := none },
      { dst := some 17, op := Op.call { callee := Callee.builtin Builtin.unsafeString, args := #[Operand.tmp 14, Operand.tmp 16], argTypes := #[tP, tI] }, type := tS, pos := "strings.go:121", after := #[{ on := 1, ground := Ground.data }, { on := 3, ground := Ground.data }], guard := none },
      { dst := some 2, op := Op.assign (Operand.tmp 17), type := tS, pos := "strings.go:121", after := #[{ on := 4, ground := Ground.data }, { on := 0, ground := Ground.phase }, { on := 1, ground := Ground.phase }, { on := 2, ground := Ground.phase }, { on := 3, ground := Ground.phase }, { on := 4, ground := Ground.phase }], guard := none }] false).seq Code.ret)))))

set_option maxRecDepth 100000 in
set_option maxHeartbeats 4000000 in
theorem clone_gen {f tS tI tB tL tP tE t0 : Nat} {fn : Func} (mixed : P.follows .mixedOrders = true) (hf : P.funcs[f]? = some fn) (hfb : fn.body = some (clCode tS tI tB tL tP t0)) (hft : fn.ntmps = 18) (hfr : fn.results = #[.tmp 2]) (hfn : (fn.name == "runtime.NumGoroutine") = false)
    (uS : P.underlying tS = some .string) (aS : ∀ w, (isAgg tS).run P w = .ok false w) (zS : ∀ w, (Go.sizeOf tS).run P w = .ok 1 w) (vS : ∀ w, (zeroValue tS).run P w = .ok (Value.string { data := #[] }) w)
    (uI : P.underlying tI = some (.int .i64)) (aI : ∀ w, (isAgg tI).run P w = .ok false w) (zI : ∀ w, (Go.sizeOf tI).run P w = .ok 1 w) (vI : ∀ w, (zeroValue tI).run P w = .ok (Value.int IntKind.i64 0) w)
    (uB : P.underlying tB = some .bool) (aB : ∀ w, (isAgg tB).run P w = .ok false w) (zB : ∀ w, (Go.sizeOf tB).run P w = .ok 1 w)
    (uL : P.underlying tL = some (.slice tE)) (aL : ∀ w, (isAgg tL).run P w = .ok false w) (zL : ∀ w, (Go.sizeOf tL).run P w = .ok 1 w)
    (uE : P.underlying tE = some (.int .u8)) (aE : ∀ w, (isAgg tE).run P w = .ok false w) (zE : ∀ w, (Go.sizeOf tE).run P w = .ok 1 w)
    (uP : P.underlying tP = some (.pointer tE)) (iE : (P.info? tE).map (fun i => (i.zero, i.size, i.bytes)) = some (some (Value.int IntKind.u8 0), 1, 1))
    (a0 : ∀ w, (isAgg t0).run P w = .ok false w)
    {s : ByteArray} {σ : St} (hlim : s.size ≤ 1000000000) : ACalls P f [.str s] σ (fun v σ' => v = .str s ∧ σ' = σ) := by
  refine ⟨⟨fn, hf, by simp [hfb], hfn⟩, fun κ w vs B F hR hv => ?_⟩
  cases hv with
  | cons v1 _ r1 _ k1 m1 =>
  cases m1
  have hv1 := k1.str_inv
  subst hv1
  suffices Calls P f #[.string s] w fun e w' => e = .returned (.string s) ∧ Below w.heap.size w w' ∧ w.drawn ≤ w'.drawn by
    refine Calls.mono this ?_
    rintro e w' ⟨rfl, hb, hd⟩
    obtain ⟨e0, hR', hfr'⟩ := hR.lateC hb hd
    exact ⟨_, _, κ, σ, rfl, e0, fun n hn => .inl hn, hR', hfr', Nat.le_refl _, .str _, rfl, rfl⟩
  clear k1
  cases fn
  simp only at hfb hft hfr
  subst hfb hft hfr
  by_cases h0 : s.size = 0
  · have hs : s = ⟨#[]⟩ := ByteArray.ext (Array.eq_empty_of_size_eq_zero h0)
    subst hs
    refine calls_of_wp hf rfl ?_
    unfold clCode
    simp only [List.size_toArray, List.length_cons, List.length_nil, Nat.reduceAdd, Nat.reduceSub, Array.replicate_succ, Array.replicate_zero, List.push_toArray, List.append_toArray, List.nil_append, List.cons_append]
    go_wp2
    refine bodyPost_ret (results_tmp rfl _ _ _) rfl ?_
    exact ⟨rfl, Below.refl _ _, Nat.le_refl _⟩
  obtain ⟨i0, hi, hz0, hz1, hz2⟩ := info_parts iE
  have hinfo : (P.info? tE).map (·.size) = some 1 := by rw [hi]; simp [hz1]
  have hco : P.cellsOf tE = 1 := by simp [Program.cellsOf, hi, hz1]
  obtain ⟨M, hM⟩ : ∃ M, M = madeCells (Value.int .u8 0).cells (((s.size : Nat) : Int).toNat * i0.size) := ⟨_, rfl⟩
  have hMs : M.size = s.size := by rw [hM, size_madeCells, hz1]; simp
  have hmk : ∀ W : World, (Instr.makeSlice tL (.int .i64 (s.size : Int)) (.int .i64 (s.size : Int))).run P W = .ok (.slice (some ⟨W.heap.size, 0, none⟩) s.size s.size) (W.alloc (.cells M tE)) := fun W => by
    have h := run_make (P := P) W tL tE i0 (.int .u8 0) uL hi hz0 .i64 .i64 (s.size : Int) (s.size : Int) (by omega) (by omega) (by rw [hz2]; omega) (by omega)
    rw [← hM] at h
    simpa using h
  clear hM
  have hcp := Lib.run_copy_row_string (P := P) (w.alloc (.cells M tE)) tL tS tI tE w.heap.size 0 s.size s.size s M tE uL hinfo (heap_alloc_new w _) (Nat.le_refl _) (by omega)
  obtain ⟨Y, hY⟩ : ∃ Y, Y = (M.toList.take 0 ++ Lib.byteCells s.data.toList ++ M.toList.drop (0 + s.size)).toArray := ⟨_, rfl⟩
  rw [← hY] at hcp
  have hYl : Y.toList = Lib.byteCells s.data.toList := by
    rw [hY, List.toList_toArray, List.take_zero, List.nil_append, List.drop_of_length_le (by rw [Array.length_toList]; omega), List.append_nil]
  have hYs : Y.size = s.size := by rw [← Array.length_toList, hYl, Lib.byteCells_length, ← Lib.size_eq]
  have hgY : ((w.alloc (.cells M tE)).setRow w.heap.size Y).heap[w.heap.size]? = some (.cells Y tE (0, 0)) := setRow_heap _ _ M _ tE (0, 0) (heap_alloc_new w _)
  have hne : s.data.toList ≠ [] := fun e => h0 (by rw [Lib.size_eq, e]; rfl)
  have hUS := Lib.run_unsafeString_row (P := P) ((w.alloc (.cells M tE)).setRow w.heap.size Y) tP tI tS tE uP hco w.heap.size Y.size (by unfold World.shape?; rw [hgY]) s.data.toList hne (by rw [← Lib.size_eq]; omega) (by rw [← Lib.size_eq]; omega)
    (fun j x hx => Lib.cells_of_row hgY Y.size j _ (by rw [List.take_of_length_le (by rw [Array.length_toList]; exact Nat.le_refl _), hYl]; simp [Lib.byteCells, hx]))
  rw [← Lib.size_eq] at hUS
  clear hY
  have hb1 : Below w.heap.size w (w.alloc (.cells M tE)) := (Below.refl _ w).alloc (Nat.le_refl _) _
  have hb2 : Below w.heap.size (w.alloc (.cells M tE)) ((w.alloc (.cells M tE)).setRow w.heap.size Y) := ⟨rfl, rfl, rfl, by simp, fun k hk => setRow_other _ _ _ _ (by omega)⟩
  have hd : w.drawn ≤ (((w.alloc (.cells M tE)).setRow w.heap.size Y).freeze ⟨w.heap.size, 0, none⟩ s.size).drawn := by
    unfold World.freeze
    split <;> exact Nat.le_refl _
  refine calls_of_wp hf rfl ?_
  unfold clCode
  simp only [List.size_toArray, List.length_cons, List.length_nil, Nat.reduceAdd, Nat.reduceSub, Array.replicate_succ, Array.replicate_zero, List.push_toArray, List.append_toArray, List.nil_append, List.cons_append]
  go_wp2
  refine bodyPost_ret (results_tmp rfl _ _ _) rfl ?_
  exact ⟨rfl, Lib.below_freeze (hb1.trans hb2) (p := ⟨w.heap.size, 0, none⟩) (Nat.le_refl _) _, hd⟩

end Go.VL

namespace Go.VL

open Go.Proofs

abbrev n_slClone : Nat := 100

set_option maxRecDepth 100000 in
theorem slClone_ok {s : ByteArray} {σ : St} (hlim : s.size ≤ 1000000000) : ACalls Tryd.prog n_slClone [.str s] σ (fun v σ' => v = .str s ∧ σ' = σ) :=
  clone_gen (tS := 9) (tI := 3) (tB := 4) (tL := 45) (tP := 147) (tE := 5) (t0 := 0) (by kernel_rfl) Tryd.func100 (by kernel_rfl) rfl rfl (by kernel_rfl)
    Tryd.underlying9 Tryd.isAgg9 Tryd.sizeOf9 Tryd.zeroValue9 Tryd.underlying3 Tryd.isAgg3 Tryd.sizeOf3 Tryd.zeroValue3 Tryd.underlying4 Tryd.isAgg4 Tryd.sizeOf4 Tryd.underlying45 Tryd.isAgg45 Tryd.sizeOf45 Tryd.underlying5 Tryd.isAgg5 Tryd.sizeOf5 Tryd.underlying147 (by kernel_rfl) Tryd.isAgg0 hlim

end Go.VL
