/- Contracts: an index out of bytes. -/
import Derived.Test.YtlbnimbgodmagaaVpJ
namespace Go.VL
open Go.Proofs

/-- an owned thing nm, and a row that grows -/
structure RS (σ σ' : St) (nm : Nat) (r : Res) (k : Nat) (v : Ver) : Prop where
  old : ∀ m, m < σ.next → σ'.res m = σ.res m
  lo : σ.next ≤ nm
  hi : nm < σ'.next
  at_ : σ'.res nm = some r
  ver : v = .nil ∨ ∃ g, v = .tip g ∧ g ≠ nm ∧ σ.next ≤ g ∧ g < σ'.next ∧ σ'.res g = some (.tip k)

theorem RS.set {σ σ' : St} {nm k : Nat} {r : Res} {v : Ver} (h : RS σ σ' nm r k v) (r' : Res) : RS σ (σ'.set nm r') nm r' k v where
  old := fun m hm => by rw [St.set_other _ _ (by have := h.lo; omega)]; exact h.old m hm
  lo := h.lo
  hi := h.hi
  at_ := by simp
  ver := h.ver.imp id fun ⟨g, h1, h2, h3, h4, h5⟩ => ⟨g, h1, h2, h3, h4, by rw [St.set_other _ _ h2]; exact h5⟩
theorem RS.up {σ σ' : St} {nm k : Nat} {r : Res} {v : Ver} (h : RS σ σ' nm r k v) (n : Nat) : RS σ (σ'.up n) nm r k v :=
  ⟨h.old, h.lo, Nat.lt_of_lt_of_le h.hi (Nat.le_add_right _ _), h.at_, h.ver.imp id fun ⟨g, h1, h2, h3, h4, h5⟩ => ⟨g, h1, h2, h3, Nat.lt_of_lt_of_le h4 (Nat.le_add_right _ _), h5⟩⟩
theorem RS.nil {σ σ' : St} {nm k g2 : Nat} {r : Res} (h : RS σ σ' nm r k .nil) (h1 : nm < g2) (h2 : g2 < σ'.next) : RS σ (σ'.set g2 (.tip k)) nm r k (.tip g2) where
  old := fun m hm => by rw [St.set_other _ _ (by have := h.lo; omega)]; exact h.old m hm
  lo := h.lo
  hi := h.hi
  at_ := by rw [St.set_other _ _ (by omega)]; exact h.at_
  ver := .inr ⟨g2, rfl, by omega, by have := h.lo; omega, h2, by simp⟩
theorem RS.tip {σ σ' : St} {nm k g g2 : Nat} {r : Res} (h : RS σ σ' nm r k (.tip g)) (h1 : nm < g2) (h2 : g2 < σ'.next) : RS σ ((σ'.del g).set g2 (.tip k)) nm r k (.tip g2) := by
  obtain ⟨g', e, a1, a2, a3, a4⟩ := h.ver.resolve_left (by simp)
  cases e
  refine ⟨fun m hm => ?_, h.lo, h.hi, ?_, .inr ⟨g2, rfl, by omega, by have := h.lo; omega, h2, by simp⟩⟩
  · rw [St.set_other _ _ (by have := h.lo; omega)]
    simp only [St.del]
    rw [if_neg (by omega)]; exact h.old m hm
  · rw [St.set_other _ _ (by omega)]
    simp only [St.del]
    rw [if_neg (fun e => a1 e.symm)]; exact h.at_
theorem RS.quiet {σ σ' : St} {nm k : Nat} {r : Res} {v : Ver} (wf : WF σ) (h : RS σ σ' nm r k v) : ∀ m s, σ.res m = some s → σ'.res m = some s := by
  intro m s hm
  have : m < σ.next := by
    rcases Nat.lt_or_ge m σ.next with h | h
    · exact h
    · rw [wf m h] at hm; cases hm
  rw [h.old m this]; exact hm
theorem RS.tipAt {σ σ' : St} {nm k g : Nat} {r : Res} (h : RS σ σ' nm r k (.tip g)) : σ'.res g = some (.tip k) := by
  obtain ⟨g', e, _, _, _, a4⟩ := h.ver.resolve_left (by simp)
  cases e; exact a4

theorem nums_all (k : IntKind) (l : List Int) : (nums k l).all (AV.fits 1) = true := by simp [nums, AV.fits, AV.isAny, AV.cells, AV.one]
theorem nums_er (k : IntKind) (l : List Int) : (nums k l).map AV.er = nums k l := by simp only [nums, List.map_map]; rfl
theorem nums1 (k : IntKind) (n : Int) : [AV.int k n] = nums k [n] := rfl
theorem nums_app (k : IntKind) (x y : List Int) : nums k x ++ nums k y = nums k (x ++ y) := by simp [nums]
theorem fits_num (k : IntKind) (n : Int) : AV.fits 1 (.int k n) = true := rfl

/-- the numbers of an index's bytes -/
def wordsB (b : List UInt8) (n : Nat) : List Nat := (List.range n).map fun i => numB ((b.drop (2 + 8 * i)).take 8)
theorem wordsB_len (b : List UInt8) (n : Nat) : (wordsB b n).length = n := by simp [wordsB]
theorem wordsB_succ (b : List UInt8) (n : Nat) : wordsB b (n + 1) = wordsB b n ++ [numB ((b.drop (2 + 8 * n)).take 8)] := by simp [wordsB, List.range_succ]
theorem natI_app (x y : List Nat) : natI x ++ natI y = natI (x ++ y) := by simp [natI]

noncomputable def indexedB (x : List UInt8) : Int × List Nat :=
  if (openB x).1 ≠ 0 then ((openB x).1, []) else
  if (openB x).2.length < 2 then (2, []) else
  if (openB x).2.length ≠ 2 + 8 * numB ((openB x).2.take 2) then (2, []) else
  if risesB (natI (wordsB (openB x).2 (numB ((openB x).2.take 2)))) = true then (0, wordsB (openB x).2 (numB ((openB x).2.take 2))) else (2, [])

theorem openB_len (x : List UInt8) : (openB x).2.length ≤ x.length := by
  unfold openB
  split
  · simp
  · split
    · simp
    · simp
theorem numB2_lt (b : List UInt8) (h : 2 ≤ b.length) : numB (b.take 2) < 65536 := numB_lt b 2 h

set_option maxHeartbeats 2000000 in
theorem rindexed_ok {x : List UInt8} {g : Ver} {σ : St} (hl : x.length ≤ 1000000) :
    ACalls Try.prog n_rindexed [.sl (bytesAV x) g] σ (fun v σ' => v = .tup [.sl (nums .u64 (natI (indexedB x).2)) .none, .int .i64 (indexedB x).1] ∧ σ' = σ) := by
  refine s_rindexed (fun wf => ?_)
  unfold c_rindexed
  refine T.seq_k (fun K_h1 h1 => ?_)
  refine T.regi hm ?_
  simp only [↓reduceIte, namesOf, List.any, I.names, aopsI, astep, ev, setd, List.set, List.cons_append, List.nil_append, List.length_cons, List.length_nil, List.replicate, then_normal, Bool.or_false, Bool.false_eq_true, up_zero, Nat.reduceAdd, Nat.reduceSub]
  refine h1 _ _ ?_
  try clear h1 K_h1
  refine T.seq_k (fun K_h1 h1 => ?_)
  refine T.regi hm ?_
  simp only [↓reduceIte, namesOf, List.any, I.names, aopsI, astep, ev, setd, List.set, List.getD, List.getElem?_cons_zero, List.getElem?_cons_succ, then_normal, Option.getD_some, Bool.or_false, Bool.false_eq_true, up_zero, ↓opt_def, List.map_cons, List.map_nil]
  refine (ropen_ok (by omega)).mono ?_
  rintro v σ' ⟨rfl, rfl⟩
  try simp only [List.getElem?_cons_zero, List.getElem?_cons_succ]
  refine h1 _ _ ?_
  try clear h1 K_h1
  have hol := openB_len x
  generalize hb : (openB x).2 = b at hol
  generalize hc : (openB x).1 = c
  refine T.seq_k (fun K_h1 h1 => ?_)
  refine T.seq_k (fun K_h2 h2 => ?_)
  by_cases hc0 : c = 0
  case neg =>
    have e1 : (c != 0) = true := by simpa using hc0
    refine T.regi hm ?_
    simp only [↓reduceIte, namesOf, List.any, I.names, aopsI, astep, ev, setd, List.set, List.getD, List.getElem?_cons_zero, List.getElem?_cons_succ, then_normal, Option.getD_some, Bool.or_false, Bool.false_eq_true, up_zero, binv, ↓opt_def, eq_self, e1]
    refine h2 _ _ ?_
    try clear h2 K_h2
    refine T.cond rfl (fun _ => ?_) (fun h => by cases h)
    refine T.seq_k (fun K_h2 h2 => ?_)
    refine T.regi hm ?_
    simp only [↓reduceIte, namesOf, List.any, I.names, aopsI, astep, ev, setd, List.set, List.getD, List.getElem?_cons_zero, List.getElem?_cons_succ, then_normal, Option.getD_some, Bool.or_false, Bool.false_eq_true, up_zero]
    refine h2 _ _ ?_
    try clear h2 K_h2
    refine T.ret (Fin.quietw rfl (Wk.tup2 (Wk.sl _ _)) ⟨⟨trivial, trivial⟩, trivial, trivial⟩ (fun _ _ h => h) ⟨?_, rfl⟩)
    have : indexedB x = (c, []) := by unfold indexedB; rw [hc, if_pos hc0]
    rw [this]; rfl
  have e1 : (c != 0) = false := by simpa using hc0
  refine T.regi hm ?_
  simp only [↓reduceIte, namesOf, List.any, I.names, aopsI, astep, ev, setd, List.set, List.getD, List.getElem?_cons_zero, List.getElem?_cons_succ, then_normal, Option.getD_some, Bool.or_false, Bool.false_eq_true, up_zero, binv, ↓opt_def, eq_self, e1]
  refine h2 _ _ ?_
  try clear h2 K_h2
  refine T.cond rfl (fun h => by cases h) (fun _ => ?_)
  refine T.skip ?_
  refine h1 _ _ ?_
  try clear h1 K_h1
  have hidx : indexedB x = (if b.length < 2 then (2, []) else if b.length ≠ 2 + 8 * numB (b.take 2) then (2, []) else if risesB (natI (wordsB b (numB (b.take 2)))) = true then (0, wordsB b (numB (b.take 2))) else (2, [])) := by
    unfold indexedB; rw [hc, if_neg (by simp [hc0]), hb]
  -- the reader
  refine T.seq_k (fun K_h1 h1 => ?_)
  refine T.regi hm ?_
  simp only [↓reduceIte, namesOf, List.any, I.names, aopsI, astep, ev, setd, List.set, List.getD, List.getElem?_cons_zero, List.getElem?_cons_succ, List.cons_append, List.nil_append, List.length_cons, List.length_nil, then_normal, Option.getD_some, Bool.or_false, Bool.or_true, Bool.false_eq_true, Nat.reduceAdd, ↓opt_def, AV.isAny, AV.cells, and_true, eq_self, fillA, Option.map_some, AV.fits, AV.one, List.all_cons, List.all_nil, Nat.reduceBEq, Bool.not_false, Bool.and_self, Nat.zero_add, splice, List.take, List.drop, Nat.reduceLeDiff]
  have rs : RS σ' ((σ'.up 4).set (σ'.next + 2) (rd b .none 0 (-1))) (σ'.next + 2) (rd b .none 0 (-1)) 1 .nil :=
    ⟨fun m hm => by rw [St.set_other _ _ (by omega)]; rfl, by omega, by simp, by simp, .inl rfl⟩
  refine h1 _ ((σ'.up 4).set (σ'.next + 2) (rd b .none 0 (-1))) ?_
  clear h1 K_h1
  generalize ((σ'.up 4).set (σ'.next + 2) (rd b .none 0 (-1))) = σ1 at rs ⊢
  generalize σ'.next + 2 = nm at rs ⊢
  refine T.gh (Gh.keep [4, 6]) ?_
  have hd : Rd b 0 (-1) := ⟨by omega, by omega, by omega⟩
  refine T.seq_k (fun K_h1 h1 => ?_)
  refine T.regi hm ?_
  try simp only [↓reduceIte, namesOf, List.any, I.names, aopsI, astep, ev, setd, List.set, List.getD, List.getElem?_cons_zero, List.getElem?_cons_succ, then_normal, Option.getD_some, Bool.or_false, Bool.or_true, Bool.false_eq_true, up_zero, Nat.reduceAdd, List.map_cons, List.map_nil, eq_self, keep, List.contains_cons, List.contains_nil, beq_self_eq_true, Nat.reduceBEq]
  refine (rword_ok (w := 2) hd (.inl rfl) rfl rs.at_).mono ?_
  have bad : b.length < 2 ∨ b.length ≠ 2 + 8 * numB (b.take 2) → indexedB x = (2, []) := by
    intro h
    rw [hidx]
    rcases h with h | h
    · rw [if_pos h]
    · by_cases h2 : b.length < 2
      · rw [if_pos h2]
      · rw [if_neg h2, if_pos h]
  rintro v σ2 (⟨hok, rfl, rfl⟩ | ⟨hok, rfl, rfl⟩)
  case inr =>
    have hlt : b.length < 2 := by
      rcases Nat.lt_or_ge b.length 2 with h | h
      · exact h
      · exact absurd ⟨rfl, by omega⟩ hok
    rw [if_pos rfl]
    have rs2 := rs.set (rd b .none 0 0)
    have e2 : IntKind.i64.wrap (0 : Int) = 0 := rfl
    try simp only [e2]
    refine h1 _ _ ?_
    try clear h1 K_h1
    have hr2 := rs2.at_
    unfold rd at hr2
    refine T.seq_k (fun K_h1 h1 => ?_)
    refine T.seq_k (fun K_h2 h2 => ?_)
    have e3 : decide ((0 : Int) ≥ 0) = true := rfl
    refine T.regi hm ?_
    simp only [↓reduceIte, namesOf, List.any, I.names, aopsI, astep, ev, setd, List.set, List.getD, List.getElem?_cons_zero, List.getElem?_cons_succ, then_normal, Option.getD_some, Bool.or_false, Bool.false_eq_true, up_zero, binv, ↓opt_def, ldc, St.set_same, eq_self, Nat.zero_add]
    refine h2 _ _ ?_
    try clear h2 K_h2
    refine T.cond rfl (fun _ => ?_) (fun h => by cases h)
    refine T.seq_k (fun K_h2 h2 => ?_)
    refine T.regi hm ?_
    simp only [↓reduceIte, namesOf, List.any, I.names, aopsI, astep, ev, setd, List.set, then_normal, Bool.or_false, Bool.false_eq_true, up_zero]
    refine h2 _ _ ?_
    try clear h2 K_h2
    exact T.ret (Fin.quietw rfl (Wk.tup2 (Wk.sl _ _)) ⟨⟨trivial, trivial⟩, trivial, trivial⟩ (rs2.quiet wf) ⟨by rw [bad (.inl hlt)]; rfl, rfl⟩)
  have h2 : 2 ≤ b.length := by have := hok.2; omega
  have rs2 := rs.set (rd b .none (0 + (2 : Nat)) (-1))
  have hn := numB2_lt b h2
  simp only [Int.toNat_zero, List.drop_zero]
  generalize hN : numB (b.take 2) = N at hn bad hidx
  have e2 : IntKind.i64.wrap (N : Int) = (N : Int) := wrap64 (by omega) (by omega)
  try simp only [e2]
  generalize (σ1.set nm (rd b .none (0 + (2 : Nat)) (-1))) = σ2 at rs2 ⊢
  refine h1 _ _ ?_
  try clear h1 K_h1
  have hr2 := rs2.at_
  unfold rd at hr2
  refine T.seq_k (fun K_h1 h1 => ?_)
  refine T.seq_k (fun K_k2 k2 => ?_)
  have e3 : decide ((-1 : Int) ≥ 0) = false := by decide
  have e4 : IntKind.i64.wrap (8 * (N : Int)) = 8 * (N : Int) := wrap64 (by omega) (by omega)
  have e5 : IntKind.i64.wrap (2 + 8 * (N : Int)) = 2 + 8 * (N : Int) := wrap64 (by omega) (by omega)
  by_cases hlen : b.length = 2 + 8 * N
  case neg =>
    have e6 : ((b.length : Int) != 2 + 8 * (N : Int)) = true := by simp; omega
    refine T.regi hm ?_
    simp only [↓reduceIte, namesOf, List.any, I.names, aopsI, astep, ev, setd, List.set, List.getD, List.getElem?_cons_zero, List.getElem?_cons_succ, then_normal, Option.getD_some, Bool.or_false, Bool.false_eq_true, up_zero, binv, ↓opt_def, ldc, eq_self, hr2, Nat.zero_add, e3, e4, e5, e6, bytesAV_len]
    refine k2 _ _ ?_
    try clear k2 K_k2
    refine T.cond rfl (fun _ => ?_) (fun h => by cases h)
    refine T.seq_k (fun K_k2 k2 => ?_)
    refine T.regi hm ?_
    simp only [↓reduceIte, namesOf, List.any, I.names, aopsI, astep, ev, setd, List.set, then_normal, Bool.or_false, Bool.false_eq_true, up_zero]
    refine k2 _ _ ?_
    try clear k2 K_k2
    exact T.ret (Fin.quietw rfl (Wk.tup2 (Wk.sl _ _)) ⟨⟨trivial, trivial⟩, trivial, trivial⟩ (rs2.quiet wf) ⟨by rw [bad (.inr hlen)]; rfl, rfl⟩)
  have e6 : ((b.length : Int) != 2 + 8 * (N : Int)) = false := by simp; omega
  refine T.regi hm ?_
  simp only [↓reduceIte, namesOf, List.any, I.names, aopsI, astep, ev, setd, List.set, List.getD, List.getElem?_cons_zero, List.getElem?_cons_succ, then_normal, Option.getD_some, Bool.or_false, Bool.false_eq_true, up_zero, binv, ↓opt_def, ldc, eq_self, hr2, Nat.zero_add, e3, e4, e5, e6, bytesAV_len]
  refine k2 _ _ ?_
  try clear k2 K_k2
  refine T.cond rfl (fun h => by cases h) (fun _ => ?_)
  refine T.skip ?_
  refine h1 _ _ ?_
  try clear h1 K_h1
  refine T.seq_k (fun K_h1 h1 => ?_)
  refine T.regi hm ?_
  simp only [↓reduceIte, namesOf, List.any, I.names, aopsI, astep, ev, setd, List.set, then_normal, Bool.or_false, Bool.false_eq_true, up_zero]
  refine h1 _ _ ?_
  try clear h1 K_h1
  refine T.seq_k (fun K_h1 h1 => ?_)
  refine T.seq_k (fun K_k2 k2 => ?_)
  refine T.regi hm ?_
  simp only [↓reduceIte, namesOf, List.any, I.names, aopsI, astep, ev, setd, List.set, then_normal, Bool.or_false, Bool.false_eq_true, up_zero]
  refine k2 _ _ ?_
  try clear k2 K_k2
  refine T.block ?_
  refine T.gh (Gh.keep [6, 7, 8, 9]) ?_
  have hat : (0 + ((2 : Nat) : Int)) = ((2 + 8 * 0 : Nat) : Int) := rfl
  rw [hat] at rs2
  clear hr2 hat
  refine T.loop (fun ρ s => ∃ (i : Nat) (v : Ver), i ≤ N ∧ RS σ' s nm (rd b .none ((2 + 8 * i : Nat) : Int) (-1)) 1 v ∧ ρ = [.any, .any, .any, .any, .any, .any, .ptr nm 0, .int .i64 (N : Int), .sl (nums .u64 (natI (wordsB b i))) v, .int .i64 (i : Int)] ++ List.replicate 45 .any)
    (fun ρ _ => match ρ.getD 9 .any with | .int _ m => (N - m).toNat | _ => 0) ⟨0, .nil, Nat.zero_le _, rs2, rfl⟩ ?_
  clear rs2 σ2
  rintro ρ σ2 ⟨i, vv, hi, rs2, rfl⟩
  refine T.seq_k (fun K_k2 k2 => ?_)
  refine T.seq_k (fun K_k3 k3 => ?_)
  refine T.regi hm ?_
  simp only [↓reduceIte, namesOf, List.any, I.names, aopsI, astep, ev, setd, List.set, List.getD, List.getElem?_cons_zero, List.getElem?_cons_succ, List.cons_append, List.nil_append, List.replicate, then_normal, Option.getD_some, Bool.or_false, Bool.false_eq_true, up_zero, binv, ↓opt_def, eq_self]
  refine k3 _ _ ?_
  try clear k3 K_k3
  refine T.cond rfl (fun hbb => ?_) (fun hbb => ?_)
  · refine T.skip ?_
    refine k2 _ _ ?_
    try clear k2 K_k2
    have hil : i < N := by simp at hbb; omega
    clear hbb
    have hd2 : Rd b ((2 + 8 * i : Nat) : Int) (-1) := ⟨by omega, by omega, by omega⟩
    have e7 : IntKind.i64.wrap ((i : Int) + 1) = ((i + 1 : Nat) : Int) := by rw [wrap64 (by omega) (by omega)]; rfl
    refine T.seq_k (fun K_k2 k2 => ?_)
    refine T.block ?_
    refine T.seq_k (fun K_k3 k3 => ?_)
    refine T.regi hm ?_
    simp only [↓reduceIte, namesOf, List.any, I.names, aopsI, astep, ev, setd, List.set, List.getD, List.getElem?_cons_zero, List.getElem?_cons_succ, List.cons_append, List.nil_append, List.replicate, then_normal, Option.getD_some, Bool.or_false, Bool.false_eq_true, up_zero, List.map_cons, List.map_nil]
    refine (rword_ok (w := 8) hd2 (.inl rfl) rfl rs2.at_).mono ?_
    rintro v σ3 (⟨hok2, rfl, rfl⟩ | ⟨hok2, rfl, rfl⟩)
    case inr => exact absurd ⟨rfl, by omega⟩ hok2
    rw [Int.toNat_natCast]
    have hat : (((2 + 8 * i : Nat) : Int) + ((8 : Nat) : Int)) = ((2 + 8 * (i + 1) : Nat) : Int) := by omega
    have rs3 := rs2.set (rd b .none (((2 + 8 * i : Nat) : Int) + ((8 : Nat) : Int)) (-1))
    generalize (σ2.set nm (rd b .none (((2 + 8 * i : Nat) : Int) + ((8 : Nat) : Int)) (-1))) = σ4 at rs3 ⊢
    rw [hat] at rs3
    try simp only [↓reduceIte, namesOf, List.any, I.names, aops, aopsI, aopsT, qstep, CPt, qget, Tbl.get, astep, ev, setd, List.set, List.getD, List.getElem?_cons_zero, List.getElem?_cons_succ, List.getElem?_nil, List.cons_append, List.nil_append, List.length_cons, List.length_nil, List.replicate, then_normal, inBlock_normal, Option.getD_some, Option.getD_none, Bool.or_false, Bool.or_true, Bool.true_or, Bool.false_or, Bool.false_eq_true, if_false, if_true, up_zero, Nat.reduceAdd, Nat.reduceSub, binv, ↓opt_def, AV.isAny, AV.cells, ldc, List.map_cons, List.map_nil, St.set_next, St.set_same, St.up_next, Int.natCast_nonneg, lt_len, le_len, Int.toNat_natCast, true_and, and_true, eq_self, reduceCtorEq, decide_true, List.length_singleton, er_int, er_bool, er_str, up_zero]
    refine k3 _ _ ?_
    try clear k3 K_k3
    have hfin : ∀ (s : St) (v : Ver), RS σ' s nm (rd b .none ((2 + 8 * (i + 1) : Nat) : Int) (-1)) 1 v → ∀ ρ, keep [6, 7, 8, 9] 0 ρ = [.any, .any, .any, .any, .any, .any, .ptr nm 0, .int .i64 (N : Int), .sl (nums .u64 (natI (wordsB b (i + 1)))) v, .int .i64 (i : Int)] ++ List.replicate 45 .any → K_k2 ρ s := by
      intro s v hs ρ hρ
      refine k2 _ _ (T.gh (Gh.keep [6, 7, 8, 9]) ?_)
      rw [hρ]
      clear k2 hρ ρ
      refine T.regi hm ?_
      simp only [↓reduceIte, namesOf, List.any, I.names, aopsI, astep, ev, setd, List.set, List.getD, List.getElem?_cons_zero, List.getElem?_cons_succ, List.cons_append, List.nil_append, List.replicate, then_normal, Option.getD_some, Bool.or_false, Bool.false_eq_true, up_zero, binv, ↓opt_def, eq_self, e7]
      refine ⟨_, _, Gh.keep [6, 7, 8, 9], ⟨i + 1, v, hil, hs, rfl⟩, ?_⟩
      show ((N : Int) - ((i + 1 : Nat) : Int)).toNat < ((N : Int) - (i : Int)).toNat
      omega
    have ew : nums .u64 (natI (wordsB b i)) ++ nums .u64 [(numB ((b.drop (2 + 8 * i)).take 8) : Int)] = nums .u64 (natI (wordsB b (i + 1))) := by
      rw [nums_app, wordsB_succ, ← natI_app]; rfl
    have hsz : (nums .u64 (natI (wordsB b i))).length = i := by rw [nums_len, natI_len, wordsB_len]
    rcases rs3.ver with rfl | ⟨gg, rfl, _, _, _, hgt⟩
    · have hn1 : ([AV.int IntKind.u64 (numB ((b.drop (2 + 8 * i)).take 8) : Int)] : List AV).isEmpty = false := rfl
      refine T.regi hm ?_
      simp only [↓reduceIte, namesOf, List.any, I.names, aopsI, astep, ev, setd, List.set, List.getD, List.getElem?_cons_zero, List.getElem?_cons_succ, List.cons_append, List.nil_append, List.length_cons, List.length_nil, List.replicate, then_normal, inBlock_normal, Option.getD_some, Bool.or_false, Bool.or_true, Bool.false_eq_true, Nat.reduceAdd, List.map_cons, List.map_nil, eq_self, er_int, List.all_cons, held, srcOf, List.all_nil, Bool.true_and, fits_num, nums_all, List.all_append, hn1, hsz]
      rw [if_pos (by simp only [decide_eq_true_eq]; omega), nums1, ew]
      exact hfin _ _ ((rs3.up 5).nil (by have := rs3.hi; omega) (by simp)) _ rfl
    · refine T.regi hm ?_
      simp only [↓reduceIte, namesOf, List.any, I.names, aopsI, astep, ev, setd, List.set, List.getD, List.getElem?_cons_zero, List.getElem?_cons_succ, List.cons_append, List.nil_append, List.length_cons, List.length_nil, List.replicate, then_normal, inBlock_normal, Option.getD_some, Bool.or_false, Bool.or_true, Nat.reduceAdd, List.map_cons, List.map_nil, eq_self, er_int, List.all_cons, held, srcOf, hgt, St.up_res, List.all_nil, Bool.true_and, fits_num, nums_all, List.all_append, hsz]
      rw [if_pos (by simp only [decide_eq_true_eq]; omega), nums1, ew]
      exact hfin _ _ ((rs3.up 5).tip (by have := rs3.hi; omega) (by simp)) _ rfl
  · refine T.exit ?_
    have : i = N := by simp at hbb; omega
    subst this
    try simp only [List.getD, List.getElem?_cons_zero, List.getElem?_cons_succ, List.cons_append, List.nil_append, List.replicate, then_normal, Option.getD_some, inBlock_exit, then_exit]
    refine h1 _ _ ?_
    try clear h1 K_h1
    have hlen2 : (natI (wordsB b i)).length ≤ 1099511627776 := by rw [natI_len, wordsB_len]; omega
    refine T.seq_k (fun K_h1 h1 => ?_)
    refine T.regi hm ?_
    simp only [↓reduceIte, namesOf, List.any, I.names, aopsI, astep, ev, setd, List.set, List.getD, List.getElem?_cons_zero, List.getElem?_cons_succ, then_normal, Option.getD_some, Bool.or_false, Bool.false_eq_true, up_zero, List.map_cons, List.map_nil]
    refine (rrises_ok hlen2).mono ?_
    rintro v σ3 ⟨rfl, rfl⟩
    try simp only [↓reduceIte, namesOf, List.any, I.names, aops, aopsI, aopsT, qstep, CPt, qget, Tbl.get, astep, ev, setd, List.set, List.getD, List.getElem?_cons_zero, List.getElem?_cons_succ, List.getElem?_nil, List.cons_append, List.nil_append, List.length_cons, List.length_nil, List.replicate, then_normal, inBlock_normal, Option.getD_some, Option.getD_none, Bool.or_false, Bool.or_true, Bool.true_or, Bool.false_or, Bool.false_eq_true, if_false, if_true, up_zero, Nat.reduceAdd, Nat.reduceSub, binv, ↓opt_def, AV.isAny, AV.cells, ldc, List.map_cons, List.map_nil, St.set_next, St.set_same, St.up_next, Int.natCast_nonneg, lt_len, le_len, Int.toNat_natCast, true_and, and_true, eq_self, reduceCtorEq, decide_true, List.length_singleton, er_int, er_bool, er_str, up_zero]
    refine h1 _ _ ?_
    try clear h1 K_h1
    refine T.seq_k (fun K_h1 h1 => ?_)
    refine T.seq_k (fun K_k2 k2 => ?_)
    cases hri : risesB (natI (wordsB b i)) with
    | false =>
      refine T.regi hm ?_
      simp only [↓reduceIte, namesOf, List.any, I.names, aopsI, astep, ev, setd, List.set, List.getD, List.getElem?_cons_zero, List.getElem?_cons_succ, then_normal, Option.getD_some, Bool.or_false, Bool.false_eq_true, up_zero, Bool.not_false]
      refine k2 _ _ ?_
      try clear k2 K_k2
      refine T.cond rfl (fun _ => ?_) (fun h => by cases h)
      refine T.seq_k (fun K_k2 k2 => ?_)
      refine T.regi hm ?_
      simp only [↓reduceIte, namesOf, List.any, I.names, aopsI, astep, ev, setd, List.set, then_normal, Bool.or_false, Bool.false_eq_true, up_zero]
      refine k2 _ _ ?_
      try clear k2 K_k2
      refine T.ret (Fin.quietw rfl (Wk.tup2 (Wk.sl _ _)) ⟨⟨trivial, trivial⟩, trivial, trivial⟩ (rs2.quiet wf) ⟨?_, rfl⟩)
      rw [hidx, if_neg (by omega), if_neg (by omega), if_neg (by rw [hri]; simp)]; rfl
    | true =>
      refine T.regi hm ?_
      simp only [↓reduceIte, namesOf, List.any, I.names, aopsI, astep, ev, setd, List.set, List.getD, List.getElem?_cons_zero, List.getElem?_cons_succ, then_normal, Option.getD_some, Bool.or_false, Bool.false_eq_true, up_zero, Bool.not_true]
      refine k2 _ _ ?_
      try clear k2 K_k2
      refine T.cond rfl (fun h => by cases h) (fun _ => ?_)
      refine T.skip ?_
      refine h1 _ _ ?_
      try clear h1 K_h1
      refine T.seq_k (fun K_h1 h1 => ?_)
      refine T.regi hm ?_
      simp only [↓reduceIte, namesOf, List.any, I.names, aopsI, astep, ev, setd, List.set, List.getD, List.getElem?_cons_zero, List.getElem?_cons_succ, then_normal, Option.getD_some, Bool.or_false, Bool.false_eq_true, up_zero]
      refine h1 _ _ ?_
      try clear h1 K_h1
      refine T.ret (Fin.quietw rfl (Wk.tup2 (Wk.sl _ _)) ⟨⟨nb_nums _ _ _, trivial⟩, trivial, trivial⟩ (rs2.quiet wf) ⟨?_, rfl⟩)
      rw [hidx, if_neg (by omega), if_neg (by omega), if_pos hri]; rfl
end Go.VL
