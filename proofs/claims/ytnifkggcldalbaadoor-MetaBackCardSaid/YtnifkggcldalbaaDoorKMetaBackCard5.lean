/- Texts put together, of these what the theorem needs: Errors of strconv; strconv.ParseUint. The value logic, part Y: a row that is owned is lent for a while, and comes back; a row that a call made is told to be owned. Where only package variables are owned: a row that a call made is owned, or lent; a box that nobody writes any more. What a row that lists the tables, and strconv's errors, is given; a world that meets it. strings.Split at '/'. Digits read: strconv.Atoi. Digits read: strconv.Atoi. What names are of: meta.Parse. What names are of, by the document. Contracts: canonical traces. Contracts: the bytes of texts and spans. Contracts: the document's gathering. Contracts: spans out of bytes. A page out of bytes: what is told of it, and readers moved with their bytes. The law PagePuts, walked. Metas: are they the same, do they rise? (ref 14, ref 19) May a meta, and a marker, be? A marker's bytes. A meta's bytes; what may not be is refused. MetaNames, walked. The value logic: a slice that is appended to, again and again. Contracts: a store's small parts. Contracts: what is done with a store. The law StoreKeeps, walked. The meta of bytes: meta.Get. Contracts: an index out of bytes. The plain law of IndexFinds: what is put is got, and each trace's page is found. The plain law: one byte of what is sealed may not be another one. What was put of a meta is got. A byte altered. -/
import Derived.Test.YtnifkggcldalbaaDoorKMetaBackCard4

set_option linter.unusedSimpArgs false
set_option linter.unusedVariables false

namespace Go.VL

open Go.Proofs

/-- strconv's errors are there -/
structure Errs (σ : St) : Prop where
  syn : ∃ t, σ.res g_esyn = some (.gl g_esyn [.iface t .any])
  rng : ∃ t, σ.res g_erng = some (.gl g_erng [.iface t .any])

theorem Errs.mono {σ t : St} (h : Errs σ) (hq : ∀ n r, σ.res n = some r → t.res n = some r) : Errs t := ⟨h.syn.imp fun _ => hq _ _, h.rng.imp fun _ => hq _ _⟩

theorem Errs.like {σ t : St} (h : Errs σ) (wf : WF σ) (hL : Like σ t) : Errs t := h.mono (hL.quiet wf)

theorem Wk.iface (t : Nat) (x : AV) : Wk (.iface t x) (.iface t .any) := fun κ w v h => by
  obtain ⟨u, rfl, _⟩ := h.iface_inv
  exact V.iface t u AV.any (V.any u)

theorem synErr_ok {a b : ByteArray} {σ : St} (hE : Errs σ) (hb : b.size ≤ 1000000000) : ACalls Tryd.prog n_synErr [.str a, .str b] σ (fun v σ' => ∃ p, v = .ptr p 0 ∧ Like σ σ') := by
  refine s_synErr (fun wf => ?_)
  unfold c_synErr
  refine T.seq_k (fun K_h0 h0 => ?_)
  refine T.regi hm ?_
  simp only [↓reduceIte, namesOf, List.any, I.names, aopsI, astep, ev, setd, List.set, List.cons_append, List.nil_append, List.length_cons, List.length_nil, List.replicate, then_normal, Bool.or_false, Bool.false_eq_true, up_zero, Nat.reduceAdd, Nat.reduceSub]
  refine h0 _ _ ?_
  try clear h0 K_h0
  obtain ⟨te, hs⟩ := hE.syn
  refine T.seq_k (fun K_h1 h1 => ?_)
  refine T.regi hm ?_
  simp only [↓reduceIte, namesOf, List.any, I.names, aopsI, astep, ev, setd, List.set, List.getD, List.getElem?_cons_zero, List.getElem?_cons_succ, List.length_cons, List.length_nil, then_normal, Option.getD_some, Bool.or_false, Bool.or_true, Nat.reduceAdd, ↓opt_def, AV.isAny, AV.cells, ldc, List.map_cons, List.map_nil, eq_self]
  refine ⟨_, slClone_ok (by omega), ?_⟩
  try simp only [↓reduceIte, ev, List.getD, List.getElem?_cons_zero, List.getElem?_cons_succ, List.cons_append, List.nil_append, List.length_cons, List.length_nil, Option.getD_some, Bool.false_eq_true, Nat.reduceAdd, AV.isAny, AV.cells, and_true, eq_self, St.up_res, hs, fillA, ↓Option.map_some, AV.fits, AV.one, List.all_cons, List.all_nil, Nat.reduceBEq, Bool.not_false, Bool.and_self, Nat.zero_add, splice, List.take, List.drop, Nat.reduceLeDiff]
  refine h1 _ _ ?_
  try clear h1 K_h1
  exact T.ret (Fin.ret rfl ⟨_, rfl, (Like.refl σ).box _⟩)

theorem rngErr_ok {a b : ByteArray} {σ : St} (hE : Errs σ) (hb : b.size ≤ 1000000000) : ACalls Tryd.prog n_rngErr [.str a, .str b] σ (fun v σ' => ∃ p, v = .ptr p 0 ∧ Like σ σ') := by
  refine s_rngErr (fun wf => ?_)
  unfold c_rngErr
  refine T.seq_k (fun K_h0 h0 => ?_)
  refine T.regi hm ?_
  simp only [↓reduceIte, namesOf, List.any, I.names, aopsI, astep, ev, setd, List.set, List.cons_append, List.nil_append, List.length_cons, List.length_nil, List.replicate, then_normal, Bool.or_false, Bool.false_eq_true, up_zero, Nat.reduceAdd, Nat.reduceSub]
  refine h0 _ _ ?_
  try clear h0 K_h0
  obtain ⟨te, hs⟩ := hE.rng
  refine T.seq_k (fun K_h1 h1 => ?_)
  refine T.regi hm ?_
  simp only [↓reduceIte, namesOf, List.any, I.names, aopsI, astep, ev, setd, List.set, List.getD, List.getElem?_cons_zero, List.getElem?_cons_succ, List.length_cons, List.length_nil, then_normal, Option.getD_some, Bool.or_false, Bool.or_true, Nat.reduceAdd, ↓opt_def, AV.isAny, AV.cells, ldc, List.map_cons, List.map_nil, eq_self]
  refine ⟨_, slClone_ok (by omega), ?_⟩
  try simp only [↓reduceIte, ev, List.getD, List.getElem?_cons_zero, List.getElem?_cons_succ, List.cons_append, List.nil_append, List.length_cons, List.length_nil, Option.getD_some, Bool.false_eq_true, Nat.reduceAdd, AV.isAny, AV.cells, and_true, eq_self, St.up_res, hs, fillA, ↓Option.map_some, AV.fits, AV.one, List.all_cons, List.all_nil, Nat.reduceBEq, Bool.not_false, Bool.and_self, Nat.zero_add, splice, List.take, List.drop, Nat.reduceLeDiff]
  refine h1 _ _ ?_
  try clear h1 K_h1
  exact T.ret (Fin.ret rfl ⟨_, rfl, (Like.refl σ).box _⟩)

/-- an error that is one -/
theorem toErr_ok {a b : ByteArray} {x y e : Int} {σ : St} (hE : Errs σ) (hb : b.size ≤ 1000000000) (he : e = 1 ∨ e = 2) :
    ACalls Tryd.prog n_toErr [.str a, .str b, .int .i64 x, .int .i64 y, .iface t_serr (.int .i64 e)] σ (fun v σ' => v = .iface t_nerr .any ∧ σ' = σ) := by
  refine s_toErr (fun wf => ?_)
  unfold c_toErr
  refine T.seq_k (fun K_h0 h0 => ?_)
  refine T.regi hm ?_
  simp only [↓reduceIte, namesOf, List.any, I.names, aopsI, astep, ev, setd, List.set, List.cons_append, List.nil_append, List.length_cons, List.length_nil, List.replicate, then_normal, Bool.or_false, Bool.false_eq_true, up_zero, Nat.reduceAdd, Nat.reduceSub]
  refine h0 _ _ ?_
  try clear h0 K_h0
  refine T.seq_k (fun K_h1 h1 => ?_)
  refine T.seq_k (fun K_h0 h0 => ?_)
  refine T.regi hm ?_
  simp only [↓reduceIte, namesOf, List.any, I.names, aopsI, astep, ev, setd, List.set, List.getD, List.getElem?_cons_zero, List.getElem?_cons_succ, then_normal, Option.getD_some, Bool.or_false, Bool.false_eq_true, up_zero]
  refine h0 _ _ ?_
  try clear h0 K_h0
  refine T.block ?_
  rcases he with rfl | rfl
  · have g1 : eqIv false [(tCode, .i64), (t_serr, .i64)] (.iface t_serr (.int .i64 1)) (.iface t_serr (.int .i64 2)) = some false := rfl
    have g2 : eqIv false [(tCode, .i64), (t_serr, .i64)] (.iface t_serr (.int .i64 1)) (.iface t_serr (.int .i64 1)) = some true := rfl
    refine T.seq_k (fun K_h0 h0 => ?_)
    refine T.regi hm ?_
    simp only [↓reduceIte, namesOf, List.any, I.names, aopsI, astep, ev, setd, List.set, List.getD, List.getElem?_cons_zero, List.getElem?_cons_succ, then_normal, Option.getD_some, Bool.or_false, Bool.false_eq_true, up_zero, g1, bne_self_eq_false]
    refine h0 _ _ ?_
    try clear h0 K_h0
    refine T.cond rfl (fun h => by cases h) (fun _ => ?_)
    refine T.seq_k (fun K_h0 h0 => ?_)
    refine T.regi hm ?_
    simp only [↓reduceIte, namesOf, List.any, I.names, aopsI, astep, ev, setd, List.set, List.getD, List.getElem?_cons_zero, List.getElem?_cons_succ, then_normal, Option.getD_some, Bool.or_false, Bool.false_eq_true, up_zero, g2, Bool.bne_false]
    refine h0 _ _ ?_
    try clear h0 K_h0
    refine T.cond rfl (fun _ => ?_) (fun h => by cases h)
    refine T.seq_k (fun K_h2 h2 => ?_)
    refine T.regi hm ?_
    simp only [↓reduceIte, namesOf, List.any, I.names, aopsI, astep, ev, setd, List.set, List.getD, List.getElem?_cons_zero, List.getElem?_cons_succ, then_normal, Option.getD_some, Bool.or_false, Bool.false_eq_true, up_zero, List.map_cons, List.map_nil]
    refine (rngErr_ok hE hb).mono ?_
    rintro v σ1 ⟨p, rfl, hL⟩
    try simp only [↓reduceIte, namesOf, List.any, I.names, aops, aopsI, aopsT, qstep, CPt, qget, Tbl.get, astep, ev, setd, List.set, List.getD, List.getElem?_cons_zero, List.getElem?_cons_succ, List.getElem?_nil, List.cons_append, List.nil_append, List.length_cons, List.length_nil, List.replicate, then_normal, inBlock_normal, Option.getD_some, Option.getD_none, Bool.or_false, Bool.or_true, Bool.true_or, Bool.false_or, Bool.false_eq_true, if_false, if_true, up_zero, Nat.reduceAdd, Nat.reduceSub, binv, ↓opt_def, AV.isAny, AV.cells, ldc, List.map_cons, List.map_nil, St.set_next, St.set_same, St.up_next, Int.natCast_nonneg, lt_len, le_len, Int.toNat_natCast, true_and, and_true, eq_self, reduceCtorEq, decide_true, List.length_singleton, er_int, er_bool, er_str, srcR, up_zero]
    refine h2 _ _ ?_
    try clear h2 K_h2
    exact T.ret (Fin.quietw rfl (Wk.iface _ _) trivial (hL.quiet wf) ⟨rfl, rfl⟩)
  · have g1 : eqIv false [(tCode, .i64), (t_serr, .i64)] (.iface t_serr (.int .i64 2)) (.iface t_serr (.int .i64 2)) = some true := rfl
    refine T.seq_k (fun K_h0 h0 => ?_)
    refine T.regi hm ?_
    simp only [↓reduceIte, namesOf, List.any, I.names, aopsI, astep, ev, setd, List.set, List.getD, List.getElem?_cons_zero, List.getElem?_cons_succ, then_normal, Option.getD_some, Bool.or_false, Bool.false_eq_true, up_zero, g1, Bool.bne_false]
    refine h0 _ _ ?_
    try clear h0 K_h0
    refine T.cond rfl (fun _ => ?_) (fun h => by cases h)
    refine T.seq_k (fun K_h2 h2 => ?_)
    refine T.regi hm ?_
    simp only [↓reduceIte, namesOf, List.any, I.names, aopsI, astep, ev, setd, List.set, List.getD, List.getElem?_cons_zero, List.getElem?_cons_succ, then_normal, Option.getD_some, Bool.or_false, Bool.false_eq_true, up_zero, List.map_cons, List.map_nil]
    refine (synErr_ok hE hb).mono ?_
    rintro v σ1 ⟨p, rfl, hL⟩
    try simp only [↓reduceIte, namesOf, List.any, I.names, aops, aopsI, aopsT, qstep, CPt, qget, Tbl.get, astep, ev, setd, List.set, List.getD, List.getElem?_cons_zero, List.getElem?_cons_succ, List.getElem?_nil, List.cons_append, List.nil_append, List.length_cons, List.length_nil, List.replicate, then_normal, inBlock_normal, Option.getD_some, Option.getD_none, Bool.or_false, Bool.or_true, Bool.true_or, Bool.false_or, Bool.false_eq_true, if_false, if_true, up_zero, Nat.reduceAdd, Nat.reduceSub, binv, ↓opt_def, AV.isAny, AV.cells, ldc, List.map_cons, List.map_nil, St.set_next, St.set_same, St.up_next, Int.natCast_nonneg, lt_len, le_len, Int.toNat_natCast, true_and, and_true, eq_self, reduceCtorEq, decide_true, List.length_singleton, er_int, er_bool, er_str, srcR, up_zero]
    refine h2 _ _ ?_
    try clear h2 K_h2
    exact T.ret (Fin.quietw rfl (Wk.iface _ _) trivial (hL.quiet wf) ⟨rfl, rfl⟩)

/-- strconv.ParseUint to the base 16: the number, or an error -/
def POut (l : List UInt8) (v : AV) : Prop :=
  (∃ n : Nat, n < 18446744073709551616 ∧ v = .tup [.int .u64 (n : Int), .nili] ∧ ∀ id, canU 16 l id → n = id) ∨
  (∃ n : Nat, n < 18446744073709551616 ∧ v = .tup [.int .u64 (n : Int), .iface t_nerr .any] ∧ ∀ id, ¬ canU 16 l id)

theorem parU_ok {l : List UInt8} {σ : St} (hE : Errs σ) (hl : l.length ≤ 1000000000) :
    ACalls Tryd.prog n_parU [.str ⟨l.toArray⟩, .int .i64 16, .int .i64 64] σ (fun v σ' => σ' = σ ∧ POut l v) := by
  refine s_parU (fun wf => ?_)
  unfold c_parU
  have hsz : (⟨l.toArray⟩ : ByteArray).size ≤ 1000000000 := by rw [sz_mk]; exact hl
  refine T.seq_k (fun K_h0 h0 => ?_)
  refine T.regi hm ?_
  simp only [↓reduceIte, namesOf, List.any, I.names, aopsI, astep, ev, setd, List.set, List.cons_append, List.nil_append, List.length_cons, List.length_nil, List.replicate, then_normal, Bool.or_false, Bool.false_eq_true, up_zero, Nat.reduceAdd, Nat.reduceSub]
  refine h0 _ _ ?_
  try clear h0 K_h0
  refine T.seq_k (fun K_h1 h1 => ?_)
  refine T.regi hm ?_
  simp only [↓reduceIte, namesOf, List.any, I.names, aopsI, astep, ev, setd, List.set, List.getD, List.getElem?_cons_zero, List.getElem?_cons_succ, then_normal, Option.getD_some, Bool.or_false, Bool.false_eq_true, up_zero, ↓opt_def, List.map_cons, List.map_nil]
  refine (iparU_ok (b := 16) (.inl rfl) (.inl rfl) hl).mono ?_
  rintro v σ1 ⟨rfl, (⟨n, hn, rfl, hc⟩ | ⟨n, e, hn, he, rfl, hc⟩)⟩
  · have g1 : eqIv true [(tCode, .i64)] .nili .nili = some true := rfl
    try simp only [List.getElem?_cons_zero, List.getElem?_cons_succ]
    refine h1 _ _ ?_
    try clear h1 K_h1
    refine T.seq_k (fun K_h1 h1 => ?_)
    refine T.seq_k (fun K_h0 h0 => ?_)
    refine T.regi hm ?_
    simp only [↓reduceIte, namesOf, List.any, I.names, aopsI, astep, ev, setd, List.set, List.getD, List.getElem?_cons_zero, List.getElem?_cons_succ, then_normal, Option.getD_some, Bool.or_false, Bool.false_eq_true, up_zero, g1, bne_self_eq_false]
    refine h0 _ _ ?_
    try clear h0 K_h0
    refine T.cond rfl (fun h => by cases h) (fun _ => T.skip ?_)
    refine h1 _ _ ?_
    try clear h1 K_h1
    refine T.seq_k (fun K_h0 h0 => ?_)
    refine T.regi hm ?_
    simp only [↓reduceIte, namesOf, List.any, I.names, aopsI, astep, ev, setd, List.set, List.getD, List.getElem?_cons_zero, List.getElem?_cons_succ, then_normal, Option.getD_some, Bool.or_false, Bool.false_eq_true, up_zero]
    refine h0 _ _ ?_
    try clear h0 K_h0
    exact T.ret (Fin.quiet rfl ⟨trivial, trivial, trivial⟩ (fun _ _ h => h) ⟨rfl, .inl ⟨n, hn, rfl, hc⟩⟩)
  · have g1 : eqIv true [(tCode, .i64)] (.iface t_serr (.int .i64 e)) .nili = some false := rfl
    try simp only [List.getElem?_cons_zero, List.getElem?_cons_succ]
    refine h1 _ _ ?_
    try clear h1 K_h1
    refine T.seq_k (fun K_h1 h1 => ?_)
    refine T.seq_k (fun K_h0 h0 => ?_)
    refine T.regi hm ?_
    simp only [↓reduceIte, namesOf, List.any, I.names, aopsI, astep, ev, setd, List.set, List.getD, List.getElem?_cons_zero, List.getElem?_cons_succ, then_normal, Option.getD_some, Bool.or_false, Bool.false_eq_true, up_zero, g1, Bool.bne_true, Bool.not_false]
    refine h0 _ _ ?_
    try clear h0 K_h0
    refine T.cond rfl (fun _ => ?_) (fun h => by cases h)
    refine T.seq_k (fun K_h2 h2 => ?_)
    refine T.regi hm ?_
    simp only [↓reduceIte, namesOf, List.any, I.names, aopsI, astep, ev, setd, List.set, List.getD, List.getElem?_cons_zero, List.getElem?_cons_succ, then_normal, Option.getD_some, Bool.or_false, Bool.false_eq_true, up_zero, List.map_cons, List.map_nil]
    refine (toErr_ok hE hsz he).mono ?_
    rintro v σ2 ⟨rfl, rfl⟩
    try simp only [↓reduceIte, namesOf, List.any, I.names, aops, aopsI, aopsT, qstep, CPt, qget, Tbl.get, astep, ev, setd, List.set, List.getD, List.getElem?_cons_zero, List.getElem?_cons_succ, List.getElem?_nil, List.cons_append, List.nil_append, List.length_cons, List.length_nil, List.replicate, then_normal, inBlock_normal, Option.getD_some, Option.getD_none, Bool.or_false, Bool.or_true, Bool.true_or, Bool.false_or, Bool.false_eq_true, if_false, if_true, up_zero, Nat.reduceAdd, Nat.reduceSub, binv, ↓opt_def, AV.isAny, AV.cells, ldc, List.map_cons, List.map_nil, St.set_next, St.set_same, St.up_next, Int.natCast_nonneg, lt_len, le_len, Int.toNat_natCast, true_and, and_true, eq_self, reduceCtorEq, decide_true, List.length_singleton, er_int, er_bool, er_str, srcR, up_zero]
    refine h2 _ _ ?_
    try clear h2 K_h2
    exact T.ret (Fin.quiet rfl ⟨trivial, trivial, trivial⟩ (fun _ _ h => h) ⟨rfl, .inr ⟨n, hn, rfl, hc⟩⟩)

end Go.VL

namespace Go.VL

/-- what the code does not write is known still -/
def mask (c : C) (k : Nat) : List AV → List AV
  | [] => []
  | x :: r => (if c.wr k then .any else x) :: mask c (k + 1) r

theorem mask_vl {κ : Kx} {w : World} {c : C} : ∀ {k : Nat} {vs : List Value} {ρ : List AV}, Vl κ w vs ρ → ∀ {us : List Value}, us.length = vs.length → (∀ i, c.wr (k + i) = false → us[i]? = vs[i]?) → Vl κ w us (mask c k ρ)
  | _, _, _, .nil, us, hl, _ => by
    cases us with
    | nil => exact .nil
    | cons u r => simp at hl
  | k, _, _, .cons v x vs xs h t, us, hl, hu => by
    cases us with
    | nil => simp at hl
    | cons u r =>
      refine .cons _ _ _ _ ?_ (mask_vl t (by simpa using hl) (fun i hi => by simpa using hu (i + 1) (by rw [← hi]; congr 1; omega)))
      split
      · exact .any u
      · rename_i hc
        have := hu 0 (by simpa using hc)
        simp only [List.getElem?_cons_zero, Option.some.injEq] at this
        rw [this]; exact h

section

variable {P : Program} {A : Ann} {κ0 : Kx} {w0 : World} {σ0 : St} {F : Nat → Prop} {a a' : Act} {w w' : World} {κ κ1 : Kx} {ρ ρs : List AV} {σ σs : St} {Q : Ex → List AV → St → Prop}

/-- nothing of what is owned is touched -/
theorem Run.stay (h : Run κ0 w0 σ0 F κ1 a w ρs σs) (hf : Fr (fun _ => False) w w') {c : C} (hs : AsWas (fun i => c.wr i = true) a a') (hd : a'.defers = []) : Run κ0 w0 σ0 F κ1 a' w' (mask c 0 ρs) σs := by
  have hb : ∀ b, b < w.heap.size → w'.heap[b]? = w.heap[b]? := fun b hb => hf.block b hb (fun x => x)
  have e : Ext κ1 w κ1 w' := ⟨fun _ _ x => x, fun _ _ => rfl, fun _ _ => rfl, fun _ _ => rfl, fun _ _ => rfl, fun _ x => x, fun b o hi => cell_same (hb b (h.inv.r.imm b o hi)) o⟩
  refine ⟨⟨h.inv.r.step e h.inv.r.dom (fun b o hi => Nat.lt_of_lt_of_le (h.inv.r.imm b o hi) hf.size) (fun n r hr => .inl ⟨hr, hb _ (h.inv.r.lt hr), fun _ x => x⟩), ?_, ?_, hd⟩, h.ext.trans e, h.dom, h.next⟩
  · exact ⟨hf.os.trans h.inv.fr.os, hf.tape.trans h.inv.fr.tape, hf.output.trans h.inv.fr.output, Nat.le_trans h.inv.fr.size hf.size, fun b hb' hF => (hb b (Nat.lt_of_lt_of_le hb' h.inv.fr.size)).trans (h.inv.fr.block b hb' hF)⟩
  · refine mask_vl (h.inv.env.mono e) (by simpa using hs.1) (fun i hi => ?_)
    rw [Nat.zero_add] at hi
    have := hs.2 i (by simp only [hi]; simp)
    simpa using this

/-- the code c, seen as ρ σ, while it could still be seen as ρs σs -/
def TL (P : Program) (A : Ann) (ρs : List AV) (σs : St) (c : C) (Q : Ex → List AV → St → Prop) (ρ : List AV) (σ : St) : Prop :=
  ∀ (code : Code), compileC P A code = some c → ∀ (κ0 : Kx) (w0 : World) (σ0 : St) (F : Nat → Prop) (κ κ1 : Kx) (a : Act) (w : World), Run κ0 w0 σ0 F κ a w ρ σ → Run κ0 w0 σ0 F κ1 a w ρs σs →
    code.wp P (fun e a' w' => ∃ e' κ' ρ' σ', e = Ex.to e' ∧ Run κ0 w0 σ0 F κ' a' w' ρ' σ' ∧ Q e' ρ' σ' ∧ AsWas (fun i => c.wr i = true) a a') a w

theorem TL.start {c : C} (g : Gh ρs σs ρ σ) (h : TL P A ρs σs c Q ρ σ) : T P A c Q ρs σs := fun code hc κ0 w0 σ0 F κ a w hR => by
  obtain ⟨κ', hR'⟩ := g κ0 w0 σ0 F κ a w hR
  exact h code hc κ0 w0 σ0 F κ' κ a w hR' hR

theorem TL.thaw {c : C} (h : T P A c Q ρs σs) : TL P A ρs σs c Q ρ σ := fun code hc κ0 w0 σ0 F _ κ1 a w _ hR => h code hc κ0 w0 σ0 F κ1 a w hR

theorem TL.gh {c : C} {ρ' : List AV} {σ' : St} (g : Gh ρ σ ρ' σ') (h : TL P A ρs σs c Q ρ' σ') : TL P A ρs σs c Q ρ σ := fun code hc κ0 w0 σ0 F κ κ1 a w hR hR1 => by
  obtain ⟨κ', hR'⟩ := g κ0 w0 σ0 F κ a w hR
  exact h code hc κ0 w0 σ0 F κ' κ1 a w hR' hR1

theorem TL.seq {x y : C} (hno : ∀ n, σ.res n = none) (h : T P A x (Ex.then (TL P A (mask x 0 ρs) σs y Q) Q) ρ σ) : TL P A ρs σs (.seq x y) Q ρ σ := fun code hc κ0 w0 σ0 F κ κ1 a w hR hR1 => by
  obtain ⟨c1, c2, rfl, h1, h2⟩ := compile_seq hc
  have hB : Run κ w σ (fun _ => False) κ a w ρ σ :=
    ⟨⟨⟨hR.inv.r.dom, hR.inv.r.own, hR.inv.r.apart, hR.inv.r.imm, fun n r hr _ => by rw [hno n] at hr; cases hr⟩, .refl _ _, hR.inv.env, hR.inv.defers⟩, .refl _ _, fun n hn => .inl hn, Nat.le_refl _⟩
  refine wp_seq (wp_mono (h c1 h1 κ w σ _ κ a w hB) ?_)
  rintro e a1 w1 ⟨e', κ', ρ', σ', rfl, hR', hq, hs⟩
  have hs' : AsWas (fun i => (C.seq x y).wr i = true) a a1 := hs.wider fun i hi => by simp [C.wr, hi]
  have hRn : Run κ0 w0 σ0 F κ' a1 w1 ρ' σ' := by
    refine ⟨⟨⟨hR'.inv.r.dom, hR'.inv.r.own, hR'.inv.r.apart, hR'.inv.r.imm, fun n r hr hrl => ?_⟩, ?_, hR'.inv.env, hR'.inv.defers⟩, hR.ext.trans hR'.ext, fun n hn => ?_, Nat.le_trans hR.next hR'.next⟩
    · rcases hR'.inv.r.foot n r hr hrl with hx | hx
      · exact hx.elim
      · exact .inr (Nat.le_trans hR.inv.fr.size hx)
    · have hf := hR'.inv.fr
      have h0 := hR.inv.fr
      exact ⟨hf.os.trans h0.os, hf.tape.trans h0.tape, hf.output.trans h0.output, Nat.le_trans h0.size hf.size, fun b hb hF => (hf.block b (Nat.lt_of_lt_of_le hb h0.size) (fun x => x)).trans (h0.block b hb hF)⟩
    · rcases hR'.dom n hn with hx | hx
      · exact hR.dom n hx
      · exact .inr (Nat.le_trans hR.next hx)
  cases e' with
  | normal =>
    refine wp_mono (hq c2 h2 κ0 w0 σ0 F κ' κ1 a1 w1 hRn (hR1.stay hR'.inv.fr hs hR'.inv.defers)) ?_
    rintro e a2 w2 ⟨e2, κ2, ρ2, σ2, g1, g2, g3, g4⟩
    exact ⟨e2, κ2, ρ2, σ2, g1, g2, g3, hs'.trans (g4.wider fun i hi => by simp [C.wr, hi])⟩
  | exit id => exact ⟨.exit id, κ', ρ', σ', rfl, hRn, hq, hs'⟩
  | ret => exact ⟨.ret, κ', ρ', σ', rfl, hRn, hq, hs'⟩

theorem TL.seq_k {x y : C} (hno : ∀ n, σ.res n = none) (h : ∀ K : List AV → St → Prop, (∀ ρ σ, TL P A (mask x 0 ρs) σs y Q ρ σ → K ρ σ) → T P A x (Ex.then K Q) ρ σ) : TL P A ρs σs (.seq x y) Q ρ σ :=
  TL.seq hno (h _ fun _ _ h => h)

theorem TL.cond {x : X} {c1 c2 : C} {b : Bool} (hb : ev ρ x = .bool b) (h1 : b = true → TL P A ρs σs c1 Q ρ σ) (h2 : b = false → TL P A ρs σs c2 Q ρ σ) : TL P A ρs σs (.cond x c1 c2) Q ρ σ := fun code hc κ0 w0 σ0 F κ κ1 a w hR hR1 => by
  obtain ⟨c, d1, d2, rfl, hx, k1, k2⟩ := compile_cond hc
  have hv := hR.inv.opX hx
  rw [hb] at hv
  refine wp_cond_split (t := b) hv.bool_inv (fun hb => wp_mono (h1 hb d1 k1 κ0 w0 σ0 F κ κ1 a w hR hR1) ?_) (fun hb => wp_mono (h2 hb d2 k2 κ0 w0 σ0 F κ κ1 a w hR hR1) ?_)
  · rintro e a2 w2 ⟨e2, κ2, ρ2, σ2, g1, g2, g3, g4⟩
    exact ⟨e2, κ2, ρ2, σ2, g1, g2, g3, g4.wider fun i hi => by simp [C.wr, hi]⟩
  · rintro e a2 w2 ⟨e2, κ2, ρ2, σ2, g1, g2, g3, g4⟩
    exact ⟨e2, κ2, ρ2, σ2, g1, g2, g3, g4.wider fun i hi => by simp [C.wr, hi]⟩

end

/-- a value that reads so in whatever world of names -/
def Flat (x : AV) : Prop := ∀ (κ κ' : Kx) (w : World) (v : Value), V κ w v x → V κ' w v x

theorem Flat.int (k : IntKind) (n : Int) : Flat (.int k n) := fun _ _ _ _ h => by rw [h.int_inv]; exact .int k n

theorem Flat.vl {κ κ' : Kx} {w : World} : ∀ {vs : List Value} {xs : List AV}, Vl κ w vs xs → (∀ x ∈ xs, Flat x) → Vl κ' w vs xs
  | _, _, .nil, _ => .nil
  | _, _, .cons v x vs xs h t, hf => .cons v x vs xs (hf x (by simp) κ κ' w v h) (Flat.vl t (fun y hy => hf y (List.mem_cons_of_mem _ hy)))

/-- a row that a call made, where nothing was owned: it is owned now -/
theorem ACalls.thaw {P : Program} {f : Nat} {args : List AV} {σ : St} {xs : List AV} {k : Nat} (hno : ∀ n, σ.res n = none) (hfl : ∀ x ∈ xs.flatMap AV.cells, Flat x)
    (h : ACalls P f args σ (fun v σ' => ∃ g, OneTip σ σ' g k ∧ v = .tup [.sl xs (.tip g), .nili])) :
    ACalls P f args σ (fun v σ' => ∃ g o, v = .tup [.ref g o xs.length, .nili] ∧ σ.next ≤ g ∧ g < σ'.next ∧ σ'.res = (σ.set g (.obj (List.replicate o .any ++ xs.flatMap AV.cells))).res) := by
  refine ⟨h.1, fun κ w vs B F hR hv => (h.2 κ w vs B F hR hv).mono ?_⟩
  rintro e w' ⟨v, x, κ', σ', rfl, he, hd, hR', hf, hn, hvx, g, ot, rfl⟩
  obtain ⟨u, rfl, hu⟩ := hvx.tup_inv
  cases hu with
  | cons v1 _ r1 _ hv1 t1 =>
    cases t1 with
    | cons v2 _ r2 _ hv2 t2 =>
      cases t2
      have hg : σ'.res g = some (.tip k) := ot.at_
      obtain ⟨hgd, hξ, us, ty, fz, g1, g2, g3, g4⟩ := hR'.own g _ hg
      have hnew : w.heap.size ≤ κ'.φ g := by
        rcases hR'.foot g _ hg rfl with ⟨n, r, hn, _⟩ | hx
        · rw [hno n] at hn; cases hn
        · exact hx
      cases hv1 with
      | slnil _ hx => rcases hx with h | h | h <;> cases h
      | slz _ _ hx => rcases hx with h | h <;> cases h
      | tip o cap _ _ hk hc hg' hee hrr hs =>
        let κ2 : Kx := { κ' with I := fun b o => κ'.I b o ∧ b ≠ κ'.φ g }
        have hcell : ∀ b o, κ.I b o → b ≠ κ'.φ g := fun b o hi hb => by have := hR.imm b o hi; omega
        have he2 : Ext κ w κ2 w' := ⟨fun b o hi => ⟨he.I b o hi, hcell b o hi⟩, he.φ, he.ψ, he.χ, he.ξ, he.dom, he.cell⟩
        obtain ⟨cs, c1, c2, c3⟩ := hs.row
        let L := (xs.flatMap AV.cells).length
        have hcs : ∀ i (hi : i < cs.length), us[o + i]? = some cs[i] := fun i hi => by
          have := c3 i cs[i] (by simp [hi])
          rw [cell_of g1] at this
          exact this
        have hol : o + cs.length ≤ us.length ∨ cs = [] := by
          rcases Nat.eq_zero_or_pos cs.length with hz | hp
          · exact .inr (List.length_eq_zero_iff.1 hz)
          · have := hcs (cs.length - 1) (by omega)
            have := (List.getElem?_eq_some_iff.1 this).1
            exact .inl (by omega)
        have hou : o ≤ us.length := by
          have : κ'.χ g ≤ us.length := g3
          rw [hrr] at this; exact Nat.le_trans (Nat.le_add_right _ _) this
        have hsplit : us = (us.take o ++ cs) ++ us.drop (o + cs.length) := by
          apply List.ext_getElem?
          intro i
          rcases Nat.lt_or_ge i o with h1 | h1
          · rw [List.append_assoc, List.getElem?_append_left (by rw [List.length_take]; omega), List.getElem?_take, if_pos h1]
          · rcases Nat.lt_or_ge i (o + cs.length) with h2 | h2
            · rw [List.getElem?_append_left (by rw [List.length_append, List.length_take]; omega), List.getElem?_append_right (by rw [List.length_take]; omega), List.length_take, Nat.min_eq_left hou]
              have := hcs (i - o) (by omega)
              rw [show o + (i - o) = i by omega] at this
              rw [this]; simp [show i - o < cs.length by omega]
            · rw [List.getElem?_append_right (by rw [List.length_append, List.length_take]; omega), List.length_append, List.length_take, Nat.min_eq_left hou, List.getElem?_drop]
              congr 1; omega
        have hvl : Vl κ2 w' (us.take o ++ cs) (List.replicate o .any ++ xs.flatMap AV.cells) := by
          refine Vl.append ?_ (Flat.vl c1 hfl)
          have := Vl.anys (κ := κ2) (w := w') (us.take o)
          rwa [List.length_take, Nat.min_eq_left hou] at this
        refine ⟨_, .tup [.ref g o xs.length, .nili], κ2, ⟨σ'.next, (σ.set g (.obj (List.replicate o .any ++ xs.flatMap AV.cells))).res⟩, rfl, he2, hd, ?_, hf, hn, .tup _ _ (.cons _ _ _ _ (.ref (κ := κ2) g o xs.length cap hgd hc) (.cons _ _ _ _ (by rw [hv2.nili_inv]; exact .nili) .nil)), g, o, rfl, ot.lo, ot.hi, rfl⟩
        have hres : ∀ n r, (σ.set g (.obj (List.replicate o .any ++ xs.flatMap AV.cells))).res n = some r → n = g ∧ r = .obj (List.replicate o .any ++ xs.flatMap AV.cells) := fun n r hr => by
          by_cases hng : n = g
          · subst hng; simp only [St.set_same, Option.some.injEq] at hr; exact ⟨rfl, hr.symm⟩
          · rw [St.set_other _ _ hng, hno n] at hr; cases hr
        refine ⟨hR'.dom, fun n r hr => ?_, fun n m r s hr hs _ => ?_, fun b o hi => hR'.imm b o hi.1, fun n r hr _ => ?_⟩
        · obtain ⟨rfl, rfl⟩ := hres n r hr
          refine ⟨hgd, us.take o ++ cs, us.drop (o + cs.length), ty, fz, by rw [← hsplit]; exact g1, ?_, hvl, fun o hi => hi.2 rfl, by have := congrArg List.length hsplit; rw [List.length_append] at this; rw [← this]; exact g3, g2.less g3⟩
          rcases g2 with hz | hz
          · exact .inl hz
          · refine .inr (Nat.le_trans ?_ hz)
            rw [List.length_append, List.length_take]
            rcases hol with h1 | h1
            · omega
            · subst h1; simp only [List.length_nil]; omega
        · rw [(hres n r hr).1, (hres m s hs).1]
        · rw [(hres n r hr).1]; exact .inr hnew

end Go.VL

namespace Go.VL

/-- nothing that could be written is owned -/
def NoReal (σ : St) : Prop := ∀ n r, σ.res n = some r → r.real = true → False

theorem NoReal.same {σ t : St} (h : NoReal σ) (he : t.res = σ.res) : NoReal t := fun n r hr => h n r (by rw [← he]; exact hr)

section

variable {P : Program} {A : Ann} {κ0 : Kx} {w0 : World} {σ0 : St} {F : Nat → Prop} {a a' : Act} {w w' : World} {κ κ1 : Kx} {ρ ρs : List AV} {σ σs : St} {Q : Ex → List AV → St → Prop}

theorem TL.seqN {x y : C} (hno : NoReal σ) (h : T P A x (Ex.then (TL P A (mask x 0 ρs) σs y Q) Q) ρ σ) : TL P A ρs σs (.seq x y) Q ρ σ := fun code hc κ0 w0 σ0 F κ κ1 a w hR hR1 => by
  obtain ⟨c1, c2, rfl, h1, h2⟩ := compile_seq hc
  have hB : Run κ w σ (fun _ => False) κ a w ρ σ :=
    ⟨⟨⟨hR.inv.r.dom, hR.inv.r.own, hR.inv.r.apart, hR.inv.r.imm, fun n r hr hrl => (hno n r hr hrl).elim⟩, .refl _ _, hR.inv.env, hR.inv.defers⟩, .refl _ _, fun n hn => .inl hn, Nat.le_refl _⟩
  refine wp_seq (wp_mono (h c1 h1 κ w σ _ κ a w hB) ?_)
  rintro e a1 w1 ⟨e', κ', ρ', σ', rfl, hR', hq, hs⟩
  have hs' : AsWas (fun i => (C.seq x y).wr i = true) a a1 := hs.wider fun i hi => by simp [C.wr, hi]
  have hRn : Run κ0 w0 σ0 F κ' a1 w1 ρ' σ' := by
    refine ⟨⟨⟨hR'.inv.r.dom, hR'.inv.r.own, hR'.inv.r.apart, hR'.inv.r.imm, fun n r hr hrl => ?_⟩, ?_, hR'.inv.env, hR'.inv.defers⟩, hR.ext.trans hR'.ext, fun n hn => ?_, Nat.le_trans hR.next hR'.next⟩
    · rcases hR'.inv.r.foot n r hr hrl with hx | hx
      · exact hx.elim
      · exact .inr (Nat.le_trans hR.inv.fr.size hx)
    · have hf := hR'.inv.fr
      have h0 := hR.inv.fr
      exact ⟨hf.os.trans h0.os, hf.tape.trans h0.tape, hf.output.trans h0.output, Nat.le_trans h0.size hf.size, fun b hb hF => (hf.block b (Nat.lt_of_lt_of_le hb h0.size) (fun x => x)).trans (h0.block b hb hF)⟩
    · rcases hR'.dom n hn with hx | hx
      · exact hR.dom n hx
      · exact .inr (Nat.le_trans hR.next hx)
  cases e' with
  | normal =>
    refine wp_mono (hq c2 h2 κ0 w0 σ0 F κ' κ1 a1 w1 hRn (hR1.stay hR'.inv.fr hs hR'.inv.defers)) ?_
    rintro e a2 w2 ⟨e2, κ2, ρ2, σ2, g1, g2, g3, g4⟩
    exact ⟨e2, κ2, ρ2, σ2, g1, g2, g3, hs'.trans (g4.wider fun i hi => by simp [C.wr, hi])⟩
  | exit id => exact ⟨.exit id, κ', ρ', σ', rfl, hRn, hq, hs'⟩
  | ret => exact ⟨.ret, κ', ρ', σ', rfl, hRn, hq, hs'⟩

theorem TL.seqN_k {x y : C} (hno : NoReal σ) (h : ∀ K : List AV → St → Prop, (∀ ρ σ, TL P A (mask x 0 ρs) σs y Q ρ σ → K ρ σ) → T P A x (Ex.then K Q) ρ σ) : TL P A ρs σs (.seq x y) Q ρ σ :=
  TL.seqN hno (h _ fun _ _ h => h)

end

/-- a box that nobody writes any more -/
theorem Gh.box {ρ : List AV} {σ : St} {t n off : Nat} {cs : List AV} (ht : ρ[t]? = some (.ptr n off)) (hr : σ.res n = some (.obj cs)) : Gh ρ σ (ρ.set t (.eptr (cs.drop off))) (σ.del n) := by
  intro κ0 w0 σ0 F κ a w h
  obtain ⟨hd, us, rest, ty, fz, h1, h2, h3, h4, _⟩ := h.inv.r.own n _ hr
  have e : Ext κ w { κ with I := fun b o => κ.I b o ∨ (b = κ.φ n ∧ o < us.length) } w := ⟨fun _ _ x => .inl x, fun _ _ => rfl, fun _ _ => rfl, fun _ _ => rfl, fun _ _ => rfl, fun _ x => x, fun _ _ _ => rfl⟩
  have hlt := h.inv.r.lt hr
  have hR : R w0.heap.size F { κ with I := fun b o => κ.I b o ∨ (b = κ.φ n ∧ o < us.length) } w (σ.del n) := by
    refine h.inv.r.step e (fun m hm => h.inv.r.dom m hm) (fun b o hi => ?_) (fun m r hm => ?_)
    · rcases hi with hi | ⟨rfl, _⟩
      · exact h.inv.r.imm b o hi
      · exact hlt
    · have hmn : m ≠ n := by intro e; subst e; simp [St.del] at hm
      have hm' : σ.res m = some r := by simpa [St.del, hmn] using hm
      refine .inl ⟨hm', rfl, fun o hi => ?_⟩
      rcases hi with hi | ⟨hx, _⟩
      · exact hi
      · exact absurd (h.inv.r.apart _ _ _ _ hm' hr hx) hmn
  refine ⟨_, ⟨hR, h.inv.fr, ?_, h.inv.defers⟩, h.ext.trans e, h.dom, h.next⟩
  obtain ⟨v, hv, hvv⟩ := h.inv.env.get? t _ ht
  have henv := h.inv.env.mono e
  obtain ⟨rfl, _⟩ := hvv.ptr_inv
  have hset : a.tmps.toList.set t (.pointer (some ⟨κ.φ n, off, none⟩)) = a.tmps.toList := by
    apply List.ext_getElem?
    intro i
    rw [List.getElem?_set]
    split
    · rename_i hi; subst hi
      split
      · rw [hv]
      · rename_i hge; rw [List.getElem?_eq_none (by omega)] at hv; cases hv
    · rfl
  rw [← hset]
  refine henv.set t (.eptr _ _ _ ?_)
  refine Vs.mk (us := us.drop off) ((h3.mono e).drop off) (fun i u hu => ?_)
  have hu2 : us[off + i]? = some u := by simpa using hu
  have hil : off + i < us.length := (List.getElem?_eq_some_iff.1 hu2).1
  exact ⟨.inr ⟨rfl, hil⟩, by rw [cell_of h1, List.getElem?_append_left hil]; exact hu2⟩

/-- a row that a call made is owned now -/
theorem ACalls.thawN {P : Program} {f : Nat} {args : List AV} {σ : St} {xs : List AV} {k : Nat} (hno : NoReal σ) (hfl : ∀ x ∈ xs.flatMap AV.cells, Flat x)
    (h : ACalls P f args σ (fun v σ' => ∃ g, OneTip σ σ' g k ∧ v = .tup [.sl xs (.tip g), .nili])) :
    ACalls P f args σ (fun v σ' => ∃ g o, v = .tup [.ref g o xs.length, .nili] ∧ σ.next ≤ g ∧ g < σ'.next ∧ σ'.res = (σ.set g (.obj (List.replicate o .any ++ xs.flatMap AV.cells))).res) := by
  refine ⟨h.1, fun κ w vs B F hR hv => (h.2 κ w vs B F hR hv).mono ?_⟩
  rintro e w' ⟨v, x, κ', σ', rfl, he, hd, hR', hf, hn, hvx, g, ot, rfl⟩
  obtain ⟨u, rfl, hu⟩ := hvx.tup_inv
  cases hu with
  | cons v1 _ r1 _ hv1 t1 =>
    cases t1 with
    | cons v2 _ r2 _ hv2 t2 =>
      cases t2
      have hg : σ'.res g = some (.tip k) := ot.at_
      obtain ⟨hgd, hξ, us, ty, fz, g1, g2, g3, g4⟩ := hR'.own g _ hg
      have hnew : w.heap.size ≤ κ'.φ g := by
        rcases hR'.foot g _ hg rfl with ⟨n, r, hn, hrl, _⟩ | hx
        · exact (hno n r hn hrl).elim
        · exact hx
      cases hv1 with
      | slnil _ hx => rcases hx with h | h | h <;> cases h
      | slz _ _ hx => rcases hx with h | h <;> cases h
      | tip o cap _ _ hk hc hg' hee hrr hs =>
        let κ2 : Kx := { κ' with I := fun b o => κ'.I b o ∧ b ≠ κ'.φ g }
        have hcell : ∀ b o, κ.I b o → b ≠ κ'.φ g := fun b o hi hb => by have := hR.imm b o hi; omega
        have he2 : Ext κ w κ2 w' := ⟨fun b o hi => ⟨he.I b o hi, hcell b o hi⟩, he.φ, he.ψ, he.χ, he.ξ, he.dom, he.cell⟩
        obtain ⟨cs, c1, c2, c3⟩ := hs.row
        have hcs : ∀ i (hi : i < cs.length), us[o + i]? = some cs[i] := fun i hi => by
          have := c3 i cs[i] (by simp [hi])
          rw [cell_of g1] at this
          exact this
        have hol : o + cs.length ≤ us.length ∨ cs = [] := by
          rcases Nat.eq_zero_or_pos cs.length with hz | hp
          · exact .inr (List.length_eq_zero_iff.1 hz)
          · have := hcs (cs.length - 1) (by omega)
            have := (List.getElem?_eq_some_iff.1 this).1
            exact .inl (by omega)
        have hou : o ≤ us.length := by
          have : κ'.χ g ≤ us.length := g3
          rw [hrr] at this; exact Nat.le_trans (Nat.le_add_right _ _) this
        have hsplit : us = (us.take o ++ cs) ++ us.drop (o + cs.length) := by
          apply List.ext_getElem?
          intro i
          rcases Nat.lt_or_ge i o with h1 | h1
          · rw [List.append_assoc, List.getElem?_append_left (by rw [List.length_take]; omega), List.getElem?_take, if_pos h1]
          · rcases Nat.lt_or_ge i (o + cs.length) with h2 | h2
            · rw [List.getElem?_append_left (by rw [List.length_append, List.length_take]; omega), List.getElem?_append_right (by rw [List.length_take]; omega), List.length_take, Nat.min_eq_left hou]
              have := hcs (i - o) (by omega)
              rw [show o + (i - o) = i by omega] at this
              rw [this]; simp [show i - o < cs.length by omega]
            · rw [List.getElem?_append_right (by rw [List.length_append, List.length_take]; omega), List.length_append, List.length_take, Nat.min_eq_left hou, List.getElem?_drop]
              congr 1; omega
        have hvl : Vl κ2 w' (us.take o ++ cs) (List.replicate o .any ++ xs.flatMap AV.cells) := by
          refine Vl.append ?_ (Flat.vl c1 hfl)
          have := Vl.anys (κ := κ2) (w := w') (us.take o)
          rwa [List.length_take, Nat.min_eq_left hou] at this
        refine ⟨_, .tup [.ref g o xs.length, .nili], κ2, ⟨σ'.next, (σ.set g (.obj (List.replicate o .any ++ xs.flatMap AV.cells))).res⟩, rfl, he2, hd, ?_, hf, hn, .tup _ _ (.cons _ _ _ _ (.ref (κ := κ2) g o xs.length cap hgd hc) (.cons _ _ _ _ (by rw [hv2.nili_inv]; exact .nili) .nil)), g, o, rfl, ot.lo, ot.hi, rfl⟩
        have hres : ∀ n r, (σ.set g (.obj (List.replicate o .any ++ xs.flatMap AV.cells))).res n = some r → (n = g ∧ r = .obj (List.replicate o .any ++ xs.flatMap AV.cells)) ∨ (n ≠ g ∧ σ.res n = some r) := fun n r hr => by
          by_cases hng : n = g
          · subst hng; simp only [St.set_same, Option.some.injEq] at hr; exact .inl ⟨rfl, hr.symm⟩
          · rw [St.set_other _ _ hng] at hr; exact .inr ⟨hng, hr⟩
        have hres' : ∀ n r, (σ.set g (.obj (List.replicate o .any ++ xs.flatMap AV.cells))).res n = some r → ∃ s, σ'.res n = some s := fun n r hr => by
          rcases hres n r hr with ⟨rfl, _⟩ | ⟨h1, h2⟩
          · exact ⟨_, hg⟩
          · exact ⟨r, by rw [ot.res, St.set_other _ _ h1]; exact h2⟩
        refine ⟨hR'.dom, fun n r hr => ?_, fun n m r s hr hs hx => ?_, fun b o hi => hR'.imm b o hi.1, fun n r hr hrl => ?_⟩
        · rcases hres n r hr with ⟨rfl, rfl⟩ | ⟨h1, h2⟩
          · refine ⟨hgd, us.take o ++ cs, us.drop (o + cs.length), ty, fz, by rw [← hsplit]; exact g1, ?_, hvl, fun o hi => hi.2 rfl, by have := congrArg List.length hsplit; rw [List.length_append] at this; rw [← this]; exact g3, g2.less g3⟩
            rcases g2 with hz | hz
            · exact .inl hz
            · refine .inr (Nat.le_trans ?_ hz)
              rw [List.length_append, List.length_take]
              rcases hol with h1 | h1
              · omega
              · subst h1; simp only [List.length_nil]; omega
          · obtain ⟨d1, d2⟩ := hR.own n r h2
            refine ⟨he2.dom n d1, ?_⟩
            cases r with
            | glob b v =>
              obtain ⟨o1, o2, o3⟩ := d2
              exact ⟨(he2.φ n d1).trans o1, he2.I _ _ o2, (he2.cell _ _ o2).trans o3⟩
            | gl b vs =>
              obtain ⟨o1, o2, o3⟩ := d2
              exact ⟨(he2.φ n d1).trans o1, he2.I _ _ o2, o3.mono he2⟩
            | obj _ => exact (hno n _ h2 rfl).elim
            | tip _ => exact (hno n _ h2 rfl).elim
            | map _ _ _ => exact (hno n _ h2 rfl).elim
            | iter _ _ _ _ => exact (hno n _ h2 rfl).elim
            | siter _ _ => exact (hno n _ h2 rfl).elim
        · obtain ⟨r', hr'⟩ := hres' n r hr
          obtain ⟨s', hs'⟩ := hres' m s hs
          exact hR'.apart n m r' s' hr' hs' hx
        · rcases hres n r hr with ⟨rfl, _⟩ | ⟨_, h2⟩
          · exact .inr hnew
          · exact (hno n r h2 hrl).elim

/-- a call that ends with one end named, and names that nobody knows -/
theorem Fin.tip {σ0 : St} {rs : List RX} {K : AV → St → Prop} {ρ : List AV} {σ : St} {xs : List AV} {g k : Nat} (wf : WF σ0) (h1 : rvals ρ σ rs = some xs) (q : Tq σ0 σ g k) (hx : (pack xs).nb σ.next) (h2 : ∀ σ', OneTip σ0 σ' g k → K (pack xs) σ') : Fin σ0 rs K .ret ρ σ := by
  refine ⟨ρ, σ, xs, pack xs, ⟨σ.next, (σ0.set g (.tip k)).res⟩, .refl, h1, .cut q.like.next hx (fun n r hr => ?_), h2 _ ⟨q.lo, q.hi, rfl⟩⟩
  by_cases hn : n = g
  · subst hn
    have hr' : (σ0.set n (.tip k)).res n = some r := hr
    rw [St.set_same] at hr'
    obtain rfl := Option.some.inj hr'
    exact ⟨q.at_, .inr ⟨q.hi, trivial⟩⟩
  · have hr' : (σ0.set g (.tip k)).res n = some r := hr
    rw [St.set_other _ _ hn] at hr'
    exact ⟨q.quiet wf n r hr', .inl hr'⟩

end Go.VL

namespace Go.VL

open Go.RowKit Go.Proofs

def κU (W : World) : Kx := ⟨fun b _ => b < W.heap.size, fun n => n, fun _ => 0, fun _ => 0, fun _ => 0, fun n => n = g_pow10 ∨ n = g_deB64 ∨ n = g_esyn ∨ n = g_erng⟩

def σU (t1 t2 : Nat) : St := ⟨g_pow10 + g_deB64 + g_esyn + g_erng + 1, fun n => if n = g_pow10 then some (.gl g_pow10 pow10L) else if n = g_deB64 then some (.gl g_deB64 deB64) else if n = g_esyn then some (.gl g_esyn [.iface t1 .any]) else if n = g_erng then some (.gl g_erng [.iface t2 .any]) else none⟩

theorem σU_only {t1 t2 n : Nat} {r : Res} (h : (σU t1 t2).res n = some r) : (n = g_pow10 ∧ r = .gl g_pow10 pow10L) ∨ (n = g_deB64 ∧ r = .gl g_deB64 deB64) ∨ (n = g_esyn ∧ r = .gl g_esyn [.iface t1 .any]) ∨ (n = g_erng ∧ r = .gl g_erng [.iface t2 .any]) := by
  unfold σU at h
  simp only at h
  split at h
  · rename_i e; exact .inl ⟨e, (Option.some.inj h).symm⟩
  · split at h
    · rename_i e; exact .inr (.inl ⟨e, (Option.some.inj h).symm⟩)
    · split at h
      · rename_i e; exact .inr (.inr (.inl ⟨e, (Option.some.inj h).symm⟩))
      · split at h
        · rename_i e; exact .inr (.inr (.inr ⟨e, (Option.some.inj h).symm⟩))
        · cases h

theorem σU_real {t1 t2 n : Nat} {r : Res} (h : (σU t1 t2).res n = some r) (hr : r.real = true) : False := by
  rcases σU_only h with ⟨_, rfl⟩ | ⟨_, rfl⟩ | ⟨_, rfl⟩ | ⟨_, rfl⟩ <;> cases hr

theorem tabsU (t1 t2 : Nat) : Tabs (σU t1 t2) ∧ Errs (σU t1 t2) := by
  refine ⟨⟨?_, ?_⟩, ⟨t1, ?_⟩, ⟨t2, ?_⟩⟩
  · unfold σU; simp only; rw [if_pos trivial]
  · unfold σU; simp only; rw [if_neg (by decide), if_pos trivial]
  · unfold σU; simp only; rw [if_neg (by decide), if_neg (by decide), if_pos trivial]
  · unfold σU; simp only; rw [if_neg (by decide), if_neg (by decide), if_neg (by decide), if_pos trivial]

def ErrW (W : World) (t1 t2 : Nat) : Prop := (∃ v, W.cell? ⟨g_esyn, 0, none⟩ = some (.iface t1 v)) ∧ (∃ v, W.cell? ⟨g_erng, 0, none⟩ = some (.iface t2 v))

section

variable {H : Type} {enc : TypeId × Value → H} {P : Program} {W : World}

theorem RU {t1 t2 : Nat} (h : TabsW W) (he : ErrW W t1 t2) : R 0 (fun _ => False) (κU W) W (σU t1 t2) := by
  have l1 := cell_lt (h.1 0 (by decide))
  have l2 := cell_lt (h.2 0 (by decide))
  obtain ⟨⟨v3, c3⟩, ⟨v4, c4⟩⟩ := he
  have l3 := cell_lt c3
  have l4 := cell_lt c4
  refine ⟨fun n hn => ?_, fun n r hr => ?_, fun n m r s _ _ hx => hx, fun _ _ h => h, fun n r hr hrl => (σU_real hr hrl).elim⟩
  · have hn' : n = g_pow10 ∨ n = g_deB64 ∨ n = g_esyn ∨ n = g_erng := hn
    show n < g_pow10 + g_deB64 + g_esyn + g_erng + 1
    omega
  · rcases σU_only hr with ⟨rfl, rfl⟩ | ⟨rfl, rfl⟩ | ⟨rfl, rfl⟩ | ⟨rfl, rfl⟩
    · refine ⟨.inl rfl, rfl, l1, ?_⟩
      rw [pow_eq]
      exact vs_tab powZ 0 (fun i hi => by rw [Nat.zero_add]; exact h.1 i hi) (fun _ => l1)
    · refine ⟨.inr (.inl rfl), rfl, l2, ?_⟩
      exact vs_tab deBZ 0 (fun i hi => by rw [Nat.zero_add]; exact h.2 i hi) (fun _ => l2)
    · exact ⟨.inr (.inr (.inl rfl)), rfl, l3, .cons _ _ _ _ _ l3 c3 (.iface _ _ _ (.any _)) (.nil _ _)⟩
    · exact ⟨.inr (.inr (.inr rfl)), rfl, l4, .cons _ _ _ _ _ l4 c4 (.iface _ _ _ (.any _)) (.nil _ _)⟩

theorem ExtU (W : World) : Ext (κ0 W) W (κU W) W := ⟨fun _ _ h => h, fun _ h => h.elim, fun _ h => h.elim, fun _ h => h.elim, fun _ h => h.elim, fun _ h => h.elim, fun _ _ _ => rfl⟩

/-- THE ROW's CONTRACT, where the tables' and the errors' cells are known -/
theorem law_calls_tabsU (n : Nat) {f : FuncId} {fn : Func} {s : ChangeSpec} {tb : TypeId} (hl : laidOutB P = true)
    (hps : fn.params.toList.all (fun t => goodT P n t && P.readableRec t && decide (t < P.types.size)) = true) (hvars : s.vars = []) (hrt : fn.resultTypes = #[tb]) (hb : P.underlying tb = some .bool)
    (hfn : ∀ ds : List (DataW H), ds.length = fn.params.toList.length → s.fn H ds = { results := [.lit (.bool true)], args := ds })
    (hwalk : ∀ xs, HasAll P n fn.params.toList xs → ∀ σ, Tabs σ ∧ Errs σ → NoReal σ → ACalls P f xs σ (fun v _ => v = .bool true))
    {base : Nat} {args : Array Value} {ds gs : List (DataW H)} {before : List MemPlace}
    (hval : ∀ (j : Nat) t v, fn.params[j]? = some t → args[j]? = some v → Value.okWide P W .any base t v)
    (hW : DataW.Whole enc P fn.params.toList s.vars false W args.toList ds gs before) (hg : TabsW W ∧ ∃ t1 t2, ErrW W t1 t2) :
    Calls P f args W fun e W' => ∃ v, e = .returned v ∧ s.post enc P fn false true false false W args v W' := by
  obtain ⟨hg, t1, t2, hge⟩ := hg
  simp only [List.all_eq_true, Bool.and_eq_true, decide_eq_true_eq] at hps
  have hW' := hW
  obtain ⟨p, q, hA, hV, hbf, _, _⟩ := hW
  rw [hvars] at hV
  have hgs : gs = [] ∧ q = [] := by
    cases gs with
    | nil => exact ⟨rfl, by simpa [DataW.TrodVars] using hV⟩
    | cons _ _ => simp [DataW.TrodVars] at hV
  obtain ⟨rfl, rfl⟩ := hgs
  obtain ⟨xs, h1, h2⟩ := args_has (n := n) (fun t ht => (hps t ht).1.1) (fun j t v ht hv => hval j t v (by simpa using ht) (by simpa using hv)) hA
  obtain ⟨l⟩ := args
  refine ((hwalk xs h2 _ (tabsU t1 t2) (fun n r hr hrl => σU_real hr hrl)).2 (κU W) W l 0 (fun _ => False) (RU hg hge) (h1.mono (ExtU W))).mono ?_
  rintro e W' ⟨v, x, κ', σ', rfl, _, _, _, hfr, _, hv, hx⟩
  subst hx
  refine ⟨v, rfl, ?_⟩
  rw [hv.bool_inv]
  have hbelow : Below W.heap.size W W' := ⟨hfr.os.os, hfr.tape, hfr.output, hfr.size, fun b hlt => hfr.block b hlt (by rintro ⟨n, r, hn, hrl, _⟩; exact σU_real hn hrl)⟩
  have hd := hfn ds (trodAll_len hA)
  refine ⟨ds, [], before, [], p, [], hW', ?_, ?_, ?_, hbelow.frame _, fun h => by cases h⟩
  · rw [List.append_nil, hd, hrt]
    exact ⟨[], [], shut_bool hb true, rfl, rfl⟩
  · rw [List.append_nil, hd]
    exact trodAll_below hl hbelow (fun t ht => ⟨(hps t ht).1.2, (hps t ht).2⟩) hA
  · rw [hvars, List.append_nil, hd]
    rfl

def isIf : Option TypeDesc → Bool
  | some (.interface _) => true
  | _ => false

/-- a variable that reads as an interface value that is not nil holds one -/
theorem trod_if {sp : Nat → Bool} {fuel : Nat} {t : TypeId} {cs : List Value} {nm : String} {d : DataW Unit} {p : List MemPlace} (hi : isIf (P.underlying t) = true) (h : DataW.trod (fun _ => ()) P W 0 sp false fuel t cs = some (.iface nm d, p)) : ∃ u v, cs = [.iface u v] := by
  cases fuel with
  | zero => simp [DataW.trod] at h
  | succ fuel =>
    unfold DataW.trod at h
    unfold isIf at hi
    split at hi
    · rename_i ms hu
      rw [hu] at h
      split at h
      all_goals first | exact ⟨_, _, rfl⟩ | (simp_all; done)
    · cases hi

theorem laid_if {name nm : String} {d : DataW Unit} {r : List (String × DataW Unit)} {g t : Nat} (hg : P.globalNamed name = some g) (ht : (P.globals[g]?).map (·.type) = some t) (hi : isIf (P.underlying t) = true)
    (h : laidMet P ((name, .iface nm d) :: r) W) : ∃ u v, W.cell? ⟨g, 0, none⟩ = some (.iface u v) := by
  obtain ⟨ps, ⟨g0, t0, cs0, f0, p0, q0, hg0, ht0, hv0, hd0, _, _⟩, _⟩ := h
  obtain rfl := Option.some.inj (hg.symm.trans hg0)
  obtain rfl := Option.some.inj (ht.symm.trans ht0)
  obtain ⟨u, v, hcs⟩ := trod_if hi hd0
  refine ⟨u, v, ?_⟩
  rw [World.var?_cell hg0 hv0 0]
  have : cs0.toList[0]? = some (.iface u v) := by rw [hcs]; rfl
  simpa using this

end

end Go.VL

namespace Go.Proofs.YtnifkggcldalbaaDoor

open Go.ChangeShapes Go.WideShapes Go.ChangeAt Go.RowKit Go.VL

def laidU : List (String × DataW Unit) := [("math/bits.deBruijn32tab", Rows.laid_math_bits_deBruijn32tab), ("math/bits.deBruijn64tab", Rows.laid_math_bits_deBruijn64tab), ("internal/strconv.uint64pow10", Rows.laid_internal_strconv_uint64pow10), ("unicode/utf8.acceptRanges", Rows.laid_unicode_utf8_acceptRanges), ("strconv.ErrRange", Rows.laid_strconv_ErrRange), ("strconv.ErrSyntax", Rows.laid_strconv_ErrSyntax), ("unicode/utf8.first", Rows.laid_unicode_utf8_first)]

theorem esyn_at : Tryd.prog.globalNamed "strconv.ErrSyntax" = some g_esyn := by kernel_rfl

theorem erng_at : Tryd.prog.globalNamed "strconv.ErrRange" = some g_erng := by kernel_rfl

theorem esyn_ty : (Tryd.prog.globals[g_esyn]?).map (·.type) = some t_err := by kernel_rfl

theorem erng_ty : (Tryd.prog.globals[g_erng]?).map (·.type) = some t_err := by kernel_rfl

theorem err_if : isIf (Tryd.prog.underlying t_err) = true := by kernel_rfl

theorem tabsU_of_laid {W : World} (h : laidMetH Tryd.prog laidU W) : TabsW W ∧ ∃ t1 t2, ErrW W t1 t2 := by
  rw [MakeChecks.laidMetH_plain _ _ _ (by kernel_rfl)] at h
  have h1 := laidMet.tail h
  have h2 := laidMet.tail h1
  have h4 := laidMet.tail (laidMet.tail h2)
  have h5 := laidMet.tail h4
  have i1 : Lib.TabIs Tryd.prog W "math/bits.deBruijn64tab" .u8 deBZ := Lib.tabIs_of_head d64_at d64_ty a64_un u8_un (by kernel_rfl) (by kernel_rfl) h1
  have i2 : Lib.TabIs Tryd.prog W "internal/strconv.uint64pow10" .u64 powZ := Lib.tabIs_of_head p10_at p10_ty a20_un u64_un (by kernel_rfl) (by kernel_rfl) h2
  obtain ⟨u2, v2, e2⟩ := laid_if erng_at erng_ty err_if h4
  obtain ⟨u1, v1, e1⟩ := laid_if esyn_at esyn_ty err_if h5
  exact ⟨⟨fun i hi => i2.cell p10_at i hi, fun i hi => i1.cell d64_at i hi⟩, u1, u2, ⟨v1, e1⟩, ⟨v2, e2⟩⟩

/-- A world that meets the condition: the settled one, the variables laid. -/
noncomputable def laidWorldU (os : Os) : World := (World.holding Tryd.prog os ⟨#[], #[], []⟩).layVars Tryd.prog laidU

theorem laidWorldU_met (os : Os) (args : Array Value) : laidMetH Tryd.prog laidU ((laidWorldU os).forCall (fun _ _ => 0) ⟨#[], args, []⟩).memory :=
  laidMetH_of_parts (laidMet_of_run' 8 (by kernel_rfl) (by kernel_rfl)) (by kernel_rfl)

end Go.Proofs.YtnifkggcldalbaaDoor

namespace Go.VL

open Go.Proofs

theorem nb_strs (m : Nat) : ∀ ps : List (List UInt8), nbs m (strsAV ps)
  | [] => trivial
  | _ :: ps => ⟨trivial, nb_strs m ps⟩

theorem rep_str (N : Nat) : (List.replicate N (AV.str ⟨#[]⟩)).flatMap AV.cells = List.replicate N (AV.str ⟨#[]⟩) := by
  induction N with
  | zero => rfl
  | succ n ih => rw [List.replicate_succ, List.flatMap_cons, ih]; rfl

set_option maxRecDepth 10000 in
set_option maxHeartbeats 1000000 in
theorem gsplit_ok {l : List UInt8} {σ : St} (hl : l.length ≤ 1000000) : ACalls Tryd.prog n_gsplit [.str ⟨l.toArray⟩, .str ⟨[47].toArray⟩, .int .i64 0, .int .i64 (-1)] σ (fun v σ' => v = .sl (strsAV (splitB l)) .none ∧ σ' = σ) := by
  refine s_gsplit (fun wf => ?_)
  unfold c_gsplit
  have e0 : ((-1 : Int) == 0) = false := rfl
  have q0 : sbinv .eql ⟨[47].toArray⟩ ⟨#[]⟩ = some (.bool false) := by simp only [sbinv, ba_eq [47] []]; rfl
  have e1 : decide ((-1 : Int) < 0) = true := rfl
  have h1s : ((⟨[47].toArray⟩ : ByteArray).size : Int) = 1 := rfl
  have hcl : l.count 47 ≤ l.length := List.count_le_length
  have hcount := scount_ok (l := l) (σ := σ)
  have hlen0 := split_len l
  generalize hn : l.count 47 = n at hcl hcount hlen0
  obtain ⟨N, hN⟩ : ∃ N, N = n + 1 := ⟨_, rfl⟩
  have w1 : IntKind.i64.wrap ((n : Int) + 1) = (N : Int) := by rw [wrap64 (by omega) (by omega)]; omega
  have w2 : IntKind.i64.wrap ((l.length : Int) + 1) = ((l.length + 1 : Nat) : Int) := by rw [wrap64 (by omega) (by omega)]; omega
  have w3 : IntKind.i64.wrap ((N : Int) - 1) = (n : Int) := by rw [wrap64 (by omega) (by omega)]; omega
  have hmin : (if ((l.length + 1 : Nat) : Int) < (N : Int) then ((l.length + 1 : Nat) : Int) else (N : Int)) = (N : Int) := if_neg (by omega)
  have hsz : ((⟨l.toArray⟩ : ByteArray).size : Int) = (l.length : Int) := by rw [sz_mk]
  refine T.seq_k (fun K_h0 h0 => ?_)
  refine T.regi hm ?_
  simp only [↓reduceIte, namesOf, List.any, I.names, aopsI, astep, ev, setd, List.set, List.cons_append, List.nil_append, List.length_cons, List.length_nil, List.replicate, then_normal, Bool.or_false, Bool.false_eq_true, up_zero, Nat.reduceAdd, Nat.reduceSub]
  refine h0 _ _ ?_
  try clear h0 K_h0
  refine T.seq_k (fun K_h1 h1 => ?_)
  refine T.seq_k (fun K_h0 h0 => ?_)
  refine T.regi hm ?_
  simp only [↓reduceIte, namesOf, List.any, I.names, aopsI, astep, ev, setd, List.set, List.getD, List.getElem?_cons_zero, List.getElem?_cons_succ, then_normal, Option.getD_some, Bool.or_false, Bool.false_eq_true, up_zero, binv, ↓opt_def, eq_self, e0]
  refine h0 _ _ ?_
  try clear h0 K_h0
  refine T.cond rfl (fun h => by cases h) (fun _ => T.skip ?_)
  refine h1 _ _ ?_
  try clear h1 K_h1
  refine T.seq_k (fun K_h1 h1 => ?_)
  refine T.seq_k (fun K_h0 h0 => ?_)
  refine T.regi hm ?_
  simp only [↓reduceIte, namesOf, List.any, I.names, aopsI, astep, ev, setd, List.set, List.getD, List.getElem?_cons_zero, List.getElem?_cons_succ, then_normal, Option.getD_some, Bool.or_false, Bool.false_eq_true, up_zero, ↓opt_def, q0]
  refine h0 _ _ ?_
  try clear h0 K_h0
  refine T.cond rfl (fun h => by cases h) (fun _ => T.skip ?_)
  refine h1 _ _ ?_
  try clear h1 K_h1
  refine T.seq_k (fun K_h1 h1 => ?_)
  refine T.seq_k (fun K_h0 h0 => ?_)
  refine T.regi hm ?_
  simp only [↓reduceIte, namesOf, List.any, I.names, aopsI, astep, ev, setd, List.set, List.getD, List.getElem?_cons_zero, List.getElem?_cons_succ, then_normal, Option.getD_some, Bool.or_false, Bool.false_eq_true, up_zero, binv, ↓opt_def, eq_self, e1]
  refine h0 _ _ ?_
  try clear h0 K_h0
  refine T.cond rfl (fun _ => ?_) (fun h => by cases h)
  refine T.regi hm ?_
  simp only [↓reduceIte, namesOf, List.any, I.names, aopsI, astep, ev, setd, List.set, List.getD, List.getElem?_cons_zero, List.getElem?_cons_succ, then_normal, Option.getD_some, Bool.or_false, Bool.false_eq_true, up_zero, binv, ↓opt_def, List.map_cons, List.map_nil]
  refine hcount.mono ?_
  rintro v σ ⟨rfl, rfl⟩
  try simp only [↓reduceIte, eq_self, w1]
  refine h1 _ _ ?_
  try clear h1 K_h1
  refine T.seq_k (fun K_h0 h0 => ?_)
  refine T.regi hm ?_
  simp only [↓reduceIte, namesOf, List.any, I.names, aopsI, astep, ev, setd, List.set, List.getD, List.getElem?_cons_zero, List.getElem?_cons_succ, then_normal, Option.getD_some, Bool.or_false, Bool.false_eq_true, up_zero, binv, ↓opt_def, List.map_cons, List.map_nil, eq_self, hsz, w2, mn2, List.foldlM, bind, Option.bind, pure, hmin]
  refine h0 _ _ ?_
  try clear h0 K_h0
  have hmk : ((0 : Int) ≤ (N : Int) ∧ (N : Int) ≤ (N : Int) ∧ (N : Int) * ((16 : Nat) : Int) ≤ 140737488355328 ∧ (N : Int) ≤ 9223372036854775807 ∧ AV.fits 1 (.str ⟨#[]⟩) = true ∧ (N : Int) = (N : Int)) := ⟨by omega, by omega, by omega, by omega, rfl, rfl⟩
  have hrep := rep_str N
  refine T.seq_k (fun K_h0 h0 => ?_)
  refine T.regi hm ?_
  simp only [↓reduceIte, namesOf, List.any, I.names, aopsI, astep, ev, setd, List.set, List.getD, List.getElem?_cons_zero, List.getElem?_cons_succ, List.length_cons, List.length_nil, then_normal, Option.getD_some, Bool.or_false, Bool.or_true, Nat.reduceAdd, Int.toNat_natCast, eq_self, hmk, held, hrep, List.length_replicate, and_self]
  refine h0 _ _ ?_
  try clear h0 K_h0
  have hq0 : ((σ.up 3).set (σ.next + 1) (.obj (List.replicate N (AV.str ⟨#[]⟩)))).res (σ.next + 1) = some (.obj (List.replicate N (AV.str ⟨#[]⟩))) := St.set_same _ _ _
  have hL0 : Like σ ((σ.up 3).set (σ.next + 1) (.obj (List.replicate N (AV.str ⟨#[]⟩)))) := (Like.refl σ).box (n := 3) (i := 1) _
  have hlo : σ.next ≤ σ.next + 1 := by omega
  have hlt0 : σ.next + 1 < ((σ.up 3).set (σ.next + 1) (.obj (List.replicate N (AV.str ⟨#[]⟩)))).next := by simp
  generalize ((σ.up 3).set (σ.next + 1) (.obj (List.replicate N (AV.str ⟨#[]⟩)))) = t0 at hq0 hL0 hlt0 ⊢
  generalize σ.next + 1 = q at hq0 hlo hlt0 ⊢
  clear hmk hrep hmin hcount
  refine T.seq_k (fun K_h0 h0 => ?_)
  refine T.regi hm ?_
  simp only [↓reduceIte, namesOf, List.any, I.names, aopsI, astep, ev, setd, List.set, List.getD, List.getElem?_cons_zero, List.getElem?_cons_succ, then_normal, Option.getD_some, Bool.or_false, Bool.false_eq_true, up_zero, binv, ↓opt_def, eq_self, w3]
  refine h0 _ _ ?_
  try clear h0 K_h0
  refine T.seq_k (fun K_h0 h0 => ?_)
  refine T.regi hm ?_
  simp only [↓reduceIte, namesOf, List.any, I.names, aopsI, astep, ev, setd, List.set, then_normal, Bool.or_false, Bool.false_eq_true, up_zero]
  refine h0 _ _ ?_
  try clear h0 K_h0
  refine T.seq_k (fun K_h1 h1 => ?_)
  refine T.block ?_
  refine T.gh (Gh.keep [0, 1, 2, 3, 9, 10]) ?_
  refine T.loopi (fun i ρ t => ∃ done rest, splitB l = done ++ splitB rest ∧ done.length = i ∧ i + rest.count 47 = n ∧ rest.length ≤ 1000000 ∧ Like σ t ∧ q < t.next ∧ t.res q = some (.obj (strsAV done ++ List.replicate (N - i) (AV.str ⟨#[]⟩))) ∧
      ρ = [.str ⟨rest.toArray⟩, .str ⟨[47].toArray⟩, .int .i64 0, .int .i64 (n : Int)] ++ List.replicate 5 .any ++ [.ref q 0 N, .int .i64 (i : Int)] ++ List.replicate 55 .any)
    n 0 (Nat.zero_le _) ⟨[], l, rfl, rfl, by omega, hl, hL0, hlt0, hq0, rfl⟩ ?_
  clear hq0 hL0 hlt0
  rintro i ρ t hi ⟨done, rest, hsp, hdl, hcn, hrl, hL, hlt, hob, rfl⟩
  have hrs : ((⟨rest.toArray⟩ : ByteArray).size : Int) = (rest.length : Int) := by rw [sz_mk]
  have hob' : t.res q = some (.obj (strsAV done ++ (AV.str ⟨#[]⟩) :: List.replicate (N - (i + 1)) (AV.str ⟨#[]⟩))) := by
    rw [hob, show N - i = (N - (i + 1)) + 1 by omega]; rfl
  have hspl : ∀ x : List UInt8, splice (strsAV done ++ (AV.str ⟨#[]⟩) :: List.replicate (N - (i + 1)) (AV.str ⟨#[]⟩)) i [AV.str ⟨x.toArray⟩] = strsAV (done ++ [x]) ++ List.replicate (N - (i + 1)) (AV.str ⟨#[]⟩) := fun x => by
    rw [show i = (strsAV done).length by rw [strs_len]; exact hdl.symm, splice_mid]
    simp [strsAV]
  have hle : i + 1 ≤ (strsAV done ++ (AV.str ⟨#[]⟩) :: List.replicate (N - (i + 1)) (AV.str ⟨#[]⟩)).length := by rw [List.length_append, strs_len]; simp; omega
  have hiN : (i : Int) < (N : Int) := by omega
  generalize hrow : strsAV done ++ (AV.str ⟨#[]⟩) :: List.replicate (N - (i + 1)) (AV.str ⟨#[]⟩) = row at hob' hspl hle
  have wi : IntKind.i64.wrap ((i : Int) + 1) = ((i + 1 : Nat) : Int) := by rw [wrap64 (by omega) (by omega)]; omega
  refine T.seq_k (fun K_h2 h2 => ?_)
  by_cases hil : i < n
  case neg =>
    have hin : i = n := by omega
    have e : decide ((i : Int) < (n : Int)) = false := decide_eq_false (by omega)
    refine T.seq_k (fun K_h0 h0 => ?_)
    refine T.regi hm ?_
    simp only [↓reduceIte, namesOf, List.any, I.names, aopsI, astep, ev, setd, List.set, List.getD, List.getElem?_cons_zero, List.getElem?_cons_succ, List.cons_append, List.nil_append, List.replicate, then_normal, Option.getD_some, Bool.or_false, Bool.false_eq_true, up_zero, binv, ↓opt_def, eq_self, e]
    refine h0 _ _ ?_
    try clear h0 K_h0
    refine T.cond rfl (fun h => by cases h) (fun _ => T.exit ?_)
    try simp only [List.cons_append, List.nil_append, List.replicate, then_normal, inBlock_exit, then_exit]
    refine h1 _ _ ?_
    try clear h1 K_h1
    have hno : 47 ∉ rest := List.count_eq_zero.1 (by omega)
    have hall : splitB l = done ++ [rest] := by rw [hsp, split_no hno]
    refine T.seq_k (fun K_h0 h0 => ?_)
    refine T.regi hm ?_
    simp only [↓reduceIte, namesOf, List.any, I.names, aopsI, astep, ev, setd, List.set, List.getD, List.getElem?_cons_zero, List.getElem?_cons_succ, List.length_cons, List.length_nil, then_normal, Option.getD_some, Bool.or_false, Bool.false_eq_true, up_zero, AV.isAny, AV.cells, Int.natCast_nonneg, Int.toNat_natCast, and_true, eq_self, decide_true, hob', hiN, hle, hspl, AV.fits, AV.one, List.all_cons, List.all_nil, Nat.reduceBEq, Bool.not_false, Bool.and_self, Nat.zero_add, Nat.mul_one]
    refine h0 _ _ ?_
    try clear h0 K_h0
    have hz : N - (i + 1) = 0 := by omega
    rw [hz, ← hall, List.replicate_zero, List.append_nil]
    have hob2 : (t.set q (.obj (strsAV (splitB l)))).res q = some (.obj (strsAV (splitB l))) := St.set_same _ _ _
    have hL2 : Like σ (t.set q (.obj (strsAV (splitB l)))) := hL.set _ hlo
    generalize (t.set q (.obj (strsAV (splitB l)))) = u at hob2 hL2 ⊢
    have wN : IntKind.i64.wrap ((i : Int) + 1) = (N : Int) := by rw [wi]; omega
    have hN0 : ((0 : Int) = (N : Int)) = False := eq_false (by omega)
    have hNs : ((N : Int) - 0).toNat = N := by omega
    have hN1 : (0 : Int) ≤ (N : Int) ∧ (N : Int) ≤ (N : Int) := by omega
    refine T.seq_k (fun K_h0 h0 => ?_)
    refine T.regi hm ?_
    simp only [↓reduceIte, namesOf, List.any, I.names, aopsI, astep, ev, setd, List.set, List.getD, List.getElem?_cons_zero, List.getElem?_cons_succ, then_normal, Option.getD_some, Bool.or_false, Bool.false_eq_true, up_zero, binv, ↓opt_def, eq_self, wN, idx, hN0, hNs, hN1, Int.le_refl, and_self, Int.toNat_zero, Nat.zero_mul, Nat.zero_add]
    refine h0 _ _ ?_
    try clear h0 K_h0
    refine T.gh (Gh.keep [8]) ?_
    refine T.gh (Gh.freeze (t := 8) (k := 1) (xs := strsAV (splitB l)) rfl hob2 (by rw [strs_len, hlen0, hN]) (fun x hx => by obtain ⟨c, _, rfl⟩ := List.mem_map.1 hx; rfl) (by rw [strs_cells, List.drop_zero, List.take_of_length_le (by rw [strs_len, hlen0, hN]; omega)]) (Nat.zero_le _)) ?_
    exact T.ret (Fin.quiet (xs := [.sl (strsAV (splitB l)) .none]) rfl ⟨nb_strs _ _, trivial⟩ ((hL2.del hlo).quiet wf) ⟨rfl, rfl⟩)
  have e : decide ((i : Int) < (n : Int)) = true := decide_eq_true (by omega)
  obtain ⟨a, b, hrab, ha, hix, hsb, hcb⟩ := cut_at (l := rest) (by omega)
  have hral : rest.length = a.length + 1 + b.length := by rw [hrab]; simp; omega
  have hex1 : (⟨rest.toArray⟩ : ByteArray).extract 0 a.length = ⟨a.toArray⟩ := by rw [ba_cut, hrab]; simp
  have hex2 : (⟨rest.toArray⟩ : ByteArray).extract (a.length + 1) rest.length = ⟨b.toArray⟩ := by
    rw [ba_cut, List.take_length, hrab, ← List.drop_drop, List.drop_left' rfl]; simp
  have hidx := sindex_ok (l := rest) (c := 47) (σ := t)
  rw [hix] at hidx
  have hneg : decide ((a.length : Int) < 0) = false := decide_eq_false (by omega)
  have wa0 : IntKind.i64.wrap ((a.length : Int) + 0) = (a.length : Int) := by rw [wrap64 (by omega) (by omega)]; omega
  have wa1 : IntKind.i64.wrap ((a.length : Int) + 1) = ((a.length + 1 : Nat) : Int) := by rw [wrap64 (by omega) (by omega)]; omega
  have ha1 : (a.length : Int) ≤ (rest.length : Int) := by omega
  have ha2 : ((a.length + 1 : Nat) : Int) ≤ (rest.length : Int) := by omega
  have haz : (0 : Int) ≤ (a.length : Int) := by omega
  have haz1 : (0 : Int) ≤ ((a.length + 1 : Nat) : Int) := by omega
  refine T.seq_k (fun K_h0 h0 => ?_)
  refine T.regi hm ?_
  simp only [↓reduceIte, namesOf, List.any, I.names, aopsI, astep, ev, setd, List.set, List.getD, List.getElem?_cons_zero, List.getElem?_cons_succ, List.cons_append, List.nil_append, List.replicate, then_normal, Option.getD_some, Bool.or_false, Bool.false_eq_true, up_zero, binv, ↓opt_def, eq_self, e]
  refine h0 _ _ ?_
  try clear h0 K_h0
  refine T.cond rfl (fun _ => T.skip ?_) (fun h => by cases h)
  refine h2 _ _ ?_
  try clear h2 K_h2
  refine T.block ?_
  refine T.seq_k (fun K_h3 h3 => ?_)
  refine T.regi hm ?_
  simp only [↓reduceIte, namesOf, List.any, I.names, aopsI, astep, ev, setd, List.set, List.getD, List.getElem?_cons_zero, List.getElem?_cons_succ, List.cons_append, List.nil_append, List.replicate, then_normal, Option.getD_some, Bool.or_false, Bool.false_eq_true, up_zero, List.map_cons, List.map_nil]
  refine hidx.mono ?_
  rintro v t1 ⟨rfl, rfl⟩
  try simp only [↓reduceIte, namesOf, List.any, I.names, aops, aopsI, aopsT, qstep, CPt, qget, Tbl.get, astep, ev, setd, List.set, List.getD, List.getElem?_cons_zero, List.getElem?_cons_succ, List.getElem?_nil, List.cons_append, List.nil_append, List.length_cons, List.length_nil, List.replicate, then_normal, inBlock_normal, Option.getD_some, Option.getD_none, Bool.or_false, Bool.or_true, Bool.true_or, Bool.false_or, Bool.false_eq_true, if_false, if_true, up_zero, Nat.reduceAdd, Nat.reduceSub, binv, ↓opt_def, AV.isAny, AV.cells, ldc, List.map_cons, List.map_nil, St.set_next, St.set_same, St.up_next, Int.natCast_nonneg, lt_len, le_len, Int.toNat_natCast, true_and, and_true, eq_self, reduceCtorEq, decide_true, List.length_singleton, er_int, er_bool, er_str, srcR, up_zero]
  refine h3 _ _ ?_
  try clear h3 K_h3
  refine T.seq_k (fun K_h3 h3 => ?_)
  refine T.seq_k (fun K_h0 h0 => ?_)
  refine T.regi hm ?_
  simp only [↓reduceIte, namesOf, List.any, I.names, aopsI, astep, ev, setd, List.set, List.getD, List.getElem?_cons_zero, List.getElem?_cons_succ, List.cons_append, List.nil_append, List.replicate, then_normal, Option.getD_some, Bool.or_false, Bool.false_eq_true, up_zero, binv, ↓opt_def, eq_self, hneg]
  refine h0 _ _ ?_
  try clear h0 K_h0
  refine T.cond rfl (fun h => by cases h) (fun _ => T.skip ?_)
  refine h3 _ _ ?_
  try clear h3 K_h3
  refine T.seq_k (fun K_h0 h0 => ?_)
  refine T.regi hm ?_
  simp only [↓reduceIte, namesOf, List.any, I.names, aopsI, astep, ev, setd, List.set, List.getD, List.getElem?_cons_zero, List.getElem?_cons_succ, List.cons_append, List.nil_append, List.length_cons, List.length_nil, List.replicate, then_normal, Option.getD_some, Bool.or_false, Bool.false_eq_true, up_zero, binv, ↓opt_def, AV.isAny, AV.cells, Int.natCast_nonneg, Int.toNat_natCast, eq_self, decide_true, hob', hiN, hle, hspl, hrs, wa0, idx, haz, ha1, hex1, Int.le_refl, and_self, Int.toNat_zero, AV.fits, AV.one, List.all_cons, List.all_nil, Nat.reduceBEq, Bool.not_false, Bool.and_self, Nat.zero_add, Nat.mul_one]
  refine h0 _ _ ?_
  try clear h0 K_h0
  refine T.seq_k (fun K_h0 h0 => ?_)
  refine T.regi hm ?_
  simp only [↓reduceIte, namesOf, List.any, I.names, aopsI, astep, ev, setd, List.set, List.getD, List.getElem?_cons_zero, List.getElem?_cons_succ, List.cons_append, List.nil_append, List.replicate, then_normal, Option.getD_some, Bool.or_false, Bool.false_eq_true, up_zero, binv, ↓opt_def, Int.toNat_natCast, eq_self, hrs, h1s, wa1, idx, haz1, ha2, hex2, Int.le_refl, and_self]
  refine h0 _ _ ?_
  try clear h0 K_h0
  refine T.regi hm ?_
  simp only [↓reduceIte, namesOf, List.any, I.names, aopsI, astep, ev, setd, List.set, List.getD, List.getElem?_cons_zero, List.getElem?_cons_succ, List.cons_append, List.nil_append, List.replicate, then_normal, inBlock_normal, Option.getD_some, Bool.or_false, Bool.false_eq_true, up_zero, binv, ↓opt_def, eq_self, wi]
  exact ⟨hil, _, _, Gh.keep [0, 1, 2, 3, 9, 10], done ++ [a], b, by rw [hsp, hsb]; simp, by simp [hdl], by omega, by omega, hL.set _ hlo, hlt, St.set_same _ _ _, rfl⟩

theorem split_ok {l : List UInt8} {σ : St} (hl : l.length ≤ 1000000) : ACalls Tryd.prog n_split [.str ⟨l.toArray⟩, .str ⟨[47].toArray⟩] σ (fun v σ' => v = .sl (strsAV (splitB l)) .none ∧ σ' = σ) := by
  refine s_split (fun wf => ?_)
  unfold c_split
  refine T.seq_k (fun K_h0 h0 => ?_)
  refine T.regi hm ?_
  simp only [↓reduceIte, namesOf, List.any, I.names, aopsI, astep, ev, setd, List.set, List.cons_append, List.nil_append, List.length_cons, List.length_nil, List.replicate, then_normal, Bool.or_false, Bool.false_eq_true, up_zero, Nat.reduceAdd, Nat.reduceSub]
  refine h0 _ _ ?_
  try clear h0 K_h0
  refine T.seq_k (fun K_h1 h1 => ?_)
  refine T.regi hm ?_
  simp only [↓reduceIte, namesOf, List.any, I.names, aopsI, astep, ev, setd, List.set, List.getD, List.getElem?_cons_zero, List.getElem?_cons_succ, then_normal, Option.getD_some, Bool.or_false, Bool.false_eq_true, up_zero, List.map_cons, List.map_nil]
  refine (gsplit_ok hl).mono ?_
  rintro v σ1 ⟨rfl, rfl⟩
  try simp only [↓reduceIte, namesOf, List.any, I.names, aops, aopsI, aopsT, qstep, CPt, qget, Tbl.get, astep, ev, setd, List.set, List.getD, List.getElem?_cons_zero, List.getElem?_cons_succ, List.getElem?_nil, List.cons_append, List.nil_append, List.length_cons, List.length_nil, List.replicate, then_normal, inBlock_normal, Option.getD_some, Option.getD_none, Bool.or_false, Bool.or_true, Bool.true_or, Bool.false_or, Bool.false_eq_true, if_false, if_true, up_zero, Nat.reduceAdd, Nat.reduceSub, binv, ↓opt_def, AV.isAny, AV.cells, ldc, List.map_cons, List.map_nil, St.set_next, St.set_same, St.up_next, Int.natCast_nonneg, lt_len, le_len, Int.toNat_natCast, true_and, and_true, eq_self, reduceCtorEq, decide_true, List.length_singleton, er_int, er_bool, er_str, srcR, up_zero]
  refine h1 _ _ ?_
  try clear h1 K_h1
  exact T.ret (Fin.quiet rfl ⟨nb_strs _ _, trivial⟩ (fun _ _ h => h) ⟨rfl, rfl⟩)

end Go.VL

namespace Go.VL

open Go.Proofs

/-- the text is just the number's three digits -/
def canA (l : List UInt8) (n : Nat) : Prop := n < 1000 ∧ l = dg 10 3 n

theorem canA.len {l : List UInt8} {n : Nat} (h : canA l n) : l.length = 3 := by rw [h.2, dg_len]

theorem canA.digit {l : List UInt8} {n i : Nat} {c : UInt8} (h : canA l n) (hc : l[i]? = some c) : i < 3 ∧ c.toNat = 48 + n / 10 ^ (2 - i) % 10 := by
  have hi : i < l.length := (List.getElem?_eq_some_iff.1 hc).1
  rw [h.len] at hi
  rw [h.2, dg_get 10 3 n i hi] at hc
  refine ⟨hi, ?_⟩
  have h1 : n / 10 ^ (3 - 1 - i) % 10 < 10 := Nat.mod_lt _ (by omega)
  have h2 := dgc_facts (n / 10 ^ (3 - 1 - i) % 10) (by omega)
  rw [← Option.some.inj hc]
  show _ = 48 + n / 10 ^ (3 - 1 - i) % 10
  omega

theorem i64_rng (x : Int) : -9223372036854775808 ≤ IntKind.i64.wrap x ∧ IntKind.i64.wrap x ≤ 9223372036854775807 := by
  simp [IntKind.wrap, IntKind.bits, IntKind.signed]; split <;> omega

def i64r (k : Int) : Prop := -9223372036854775808 ≤ k ∧ k ≤ 9223372036854775807

/-- what reading a number tells -/
def AOut (t : Nat) (x : Int → AV) (l : List UInt8) (v : AV) : Prop :=
  ∃ k e, i64r k ∧ v = .tup [.int .i64 k, e] ∧ ((e = .nili ∧ ∀ n, canA l n → k = (n : Int)) ∨ (∃ c, (c = 1 ∨ c = 2) ∧ e = .iface t (x c)) ∧ ∀ n, ¬ canA l n)

set_option maxRecDepth 10000 in
set_option maxHeartbeats 1000000 in
theorem iparI_ok {l : List UInt8} {σ : St} (hl : l.length ≤ 1000000000) :
    ACalls Tryd.prog n_iparI [.str ⟨l.toArray⟩, .int .i64 10, .int .i64 0] σ (fun v σ' => σ' = σ ∧ ∃ k e, i64r k ∧ v = .tup [.int .i64 k, e] ∧ (e = .nili ∨ ∃ c, (c = 1 ∨ c = 2) ∧ e = .iface t_serr (.int .i64 c))) := by
  refine s_iparI (fun wf => ?_)
  unfold c_iparI
  have q0 : sbinv .eql ⟨l.toArray⟩ ⟨#[]⟩ = some (.bool (decide (l = []))) := by simp only [sbinv, ba_eq l []]
  refine T.seq_k (fun K_h0 h0 => ?_)
  refine T.regi hm ?_
  simp only [↓reduceIte, namesOf, List.any, I.names, aopsI, astep, ev, setd, List.set, List.cons_append, List.nil_append, List.length_cons, List.length_nil, List.replicate, then_normal, Bool.or_false, Bool.false_eq_true, up_zero, Nat.reduceAdd, Nat.reduceSub]
  refine h0 _ _ ?_
  try clear h0 K_h0
  refine T.seq_k (fun K_h1 h1 => ?_)
  by_cases hnil : l = []
  · have q1 : decide (l = []) = true := decide_eq_true hnil
    rw [q1] at q0
    refine T.seq_k (fun K_h0 h0 => ?_)
    refine T.regi hm ?_
    simp only [↓reduceIte, namesOf, List.any, I.names, aopsI, astep, ev, setd, List.set, List.getD, List.getElem?_cons_zero, List.getElem?_cons_succ, then_normal, Option.getD_some, Bool.or_false, Bool.false_eq_true, up_zero, ↓opt_def, q0]
    refine h0 _ _ ?_
    try clear h0 K_h0
    refine T.cond rfl (fun _ => ?_) (fun h => by cases h)
    refine T.seq_k (fun K_h0 h0 => ?_)
    refine T.regi hm ?_
    simp only [↓reduceIte, namesOf, List.any, I.names, aopsI, astep, ev, setd, List.set, List.getD, List.getElem?_cons_zero, List.getElem?_cons_succ, then_normal, Option.getD_some, Bool.or_false, Bool.false_eq_true, up_zero]
    refine h0 _ _ ?_
    try clear h0 K_h0
    exact T.ret (Fin.ret rfl ⟨rfl, 0, _, ⟨by omega, by omega⟩, rfl, .inr ⟨2, .inr rfl, rfl⟩⟩)
  have q1 : decide (l = []) = false := decide_eq_false hnil
  rw [q1] at q0
  refine T.seq_k (fun K_h0 h0 => ?_)
  refine T.regi hm ?_
  simp only [↓reduceIte, namesOf, List.any, I.names, aopsI, astep, ev, setd, List.set, List.getD, List.getElem?_cons_zero, List.getElem?_cons_succ, then_normal, Option.getD_some, Bool.or_false, Bool.false_eq_true, up_zero, ↓opt_def, q0]
  refine h0 _ _ ?_
  try clear h0 K_h0
  refine T.cond rfl (fun h => by cases h) (fun _ => T.skip ?_)
  refine h1 _ _ ?_
  try clear h1 K_h1
  refine T.seq_k (fun K_h0 h0 => ?_)
  refine T.regi hm ?_
  simp only [↓reduceIte, namesOf, List.any, I.names, aopsI, astep, ev, setd, List.set, then_normal, Bool.or_false, Bool.false_eq_true, up_zero]
  refine h0 _ _ ?_
  try clear h0 K_h0
  obtain ⟨c, r, rfl⟩ : ∃ c r, l = c :: r := by cases l with
    | nil => exact absurd rfl hnil
    | cons c r => exact ⟨c, r, rfl⟩
  have hsz : ((⟨(c :: r).toArray⟩ : ByteArray).size : Int) = ((r.length + 1 : Nat) : Int) := by rw [sz_mk]; rfl
  have hpos : (0 : Int) < ((r.length + 1 : Nat) : Int) := by omega
  have hg0 : (⟨(c :: r).toArray⟩ : ByteArray).data.toList[(0 : Int).toNat]? = some c := rfl
  have hcut : (⟨(c :: r).toArray⟩ : ByteArray).extract 1 (r.length + 1) = ⟨r.toArray⟩ := by rw [ba_cut]; simp
  have h1le : (1 : Int) ≤ ((r.length + 1 : Nat) : Int) := by omega
  refine T.seq_k (fun K_h1 h1 => ?_)
  have nxt : ∀ (ρ' : List AV) (s : List UInt8) (neg : Bool), s.length ≤ 1000000000 → keep [0, 1, 2, 8] 0 ρ' = [.str ⟨s.toArray⟩, .int .i64 10, .int .i64 0, .any, .any, .any, .any, .any, .bool neg] ++ List.replicate 64 .any → K_h1 ρ' σ := by
    intro ρ' s neg hs hρ
    refine h1 _ _ ?_
    try clear h1 K_h1
    refine T.gh (Gh.keep [0, 1, 2, 8]) ?_
    rw [hρ]
    clear hρ ρ'
    have e0 : ((0 : Int) == 0) = true := rfl
    have w1 : IntKind.i64.wrap (64 - 1) = 63 := by decide
    have w2 : IntKind.u64.wrap 63 = 63 := by decide
    have w3 : ¬ ((63 : Int) < 0) := by decide
    obtain ⟨M, hM⟩ : ∃ M : Int, IntKind.u64.wrap (1 * 2 ^ min (63 : Int).toNat IntKind.u64.bits) = M := ⟨_, rfl⟩
    refine T.seq_k (fun K_h0 h0 => ?_)
    refine T.regi hm ?_
    simp only [↓reduceIte, namesOf, List.any, I.names, aopsI, astep, ev, setd, List.set, List.cons_append, List.nil_append, List.replicate, then_normal, Bool.or_false, Bool.false_eq_true, up_zero]
    refine h0 _ _ ?_
    try clear h0 K_h0
    refine T.seq_k (fun K_h1 h1 => ?_)
    refine T.regi hm ?_
    simp only [↓reduceIte, namesOf, List.any, I.names, aopsI, astep, ev, setd, List.set, List.getD, List.getElem?_cons_zero, List.getElem?_cons_succ, then_normal, Option.getD_some, Bool.or_false, Bool.false_eq_true, up_zero, ↓opt_def, List.map_cons, List.map_nil]
    refine (iparU_ok (b := 10) (.inr rfl) (.inr rfl) hs).mono ?_
    rintro v σ1 hv
    obtain ⟨n, e, rfl, rfl, he⟩ : ∃ (n : Nat) (e : AV), σ1 = σ ∧ v = .tup [.int .u64 (n : Int), e] ∧ (e = .nili ∨ e = .iface t_serr (.int .i64 1) ∨ e = .iface t_serr (.int .i64 2)) := by
      rcases hv with ⟨rfl, (⟨n, hn, rfl, hc⟩ | ⟨n, e, hn, he, rfl, hc⟩)⟩
      · exact ⟨n, _, rfl, rfl, .inl rfl⟩
      · rcases he with rfl | rfl
        · exact ⟨n, _, rfl, rfl, .inr (.inl rfl)⟩
        · exact ⟨n, _, rfl, rfl, .inr (.inr rfl)⟩
    clear hv
    try simp only [List.getElem?_cons_zero, List.getElem?_cons_succ]
    refine h1 _ _ ?_
    try clear h1 K_h1
    refine T.seq_k (fun K_h1 h1 => ?_)
    have rest : ∀ (ρ' : List AV), keep [1, 2, 7, 8, 9] 0 ρ' = [.any, .int .i64 10, .int .i64 0, .any, .any, .any, .any, e, .bool neg, .int .u64 (n : Int)] ++ List.replicate 63 .any → K_h1 ρ' σ1 := by
      intro ρ' hρ
      refine h1 _ _ ?_
      try clear h1 K_h1
      refine T.gh (Gh.keep [1, 2, 7, 8, 9]) ?_
      rw [hρ]
      clear hρ ρ'
      refine T.seq_k (fun K_h1 h1 => ?_)
      refine T.seq_k (fun K_h0 h0 => ?_)
      refine T.regi hm ?_
      simp only [↓reduceIte, namesOf, List.any, I.names, aopsI, astep, ev, setd, List.set, List.getD, List.getElem?_cons_zero, List.getElem?_cons_succ, List.cons_append, List.nil_append, List.replicate, then_normal, Option.getD_some, Bool.or_false, Bool.false_eq_true, up_zero, binv, ↓opt_def, eq_self, e0]
      refine h0 _ _ ?_
      try clear h0 K_h0
      refine T.cond rfl (fun _ => ?_) (fun h => by cases h)
      refine T.regi hm ?_
      simp only [↓reduceIte, namesOf, List.any, I.names, aopsI, astep, ev, setd, List.set, then_normal, Bool.or_false, Bool.false_eq_true, up_zero]
      refine h1 _ _ ?_
      try clear h1 K_h1
      refine T.seq_k (fun K_h0 h0 => ?_)
      refine T.regi hm ?_
      simp only [↓reduceIte, namesOf, List.any, I.names, aopsI, astep, ev, setd, List.set, List.getD, List.getElem?_cons_zero, List.getElem?_cons_succ, then_normal, Option.getD_some, Bool.or_false, Bool.false_eq_true, up_zero, binv, ↓opt_def, eq_self, w1, w2, w3, hM]
      refine h0 _ _ ?_
      try clear h0 K_h0
      refine T.seq_k (fun K_h1 h1 => ?_)
      cases neg with
      | false =>
        by_cases hge : (n : Int) ≥ M
        · have f1 : decide ((n : Int) ≥ M) = true := decide_eq_true hge
          refine T.seq_k (fun K_h0 h0 => ?_)
          refine T.regi hm ?_
          simp only [↓reduceIte, namesOf, List.any, I.names, aopsI, astep, ev, setd, List.set, List.getD, List.getElem?_cons_zero, List.getElem?_cons_succ, then_normal, Option.getD_some, Bool.or_false, Bool.false_eq_true, up_zero, binv, ↓opt_def, eq_self, f1, Bool.not_false]
          refine h0 _ _ ?_
          try clear h0 K_h0
          refine T.cond rfl (fun _ => ?_) (fun h => by cases h)
          refine T.seq_k (fun K_h0 h0 => ?_)
          refine T.regi hm ?_
          simp only [↓reduceIte, namesOf, List.any, I.names, aopsI, astep, ev, setd, List.set, List.getD, List.getElem?_cons_zero, List.getElem?_cons_succ, then_normal, Option.getD_some, Bool.or_false, Bool.false_eq_true, up_zero, binv, ↓opt_def, eq_self]
          refine h0 _ _ ?_
          try clear h0 K_h0
          exact T.ret (Fin.ret rfl ⟨rfl, _, _, i64_rng _, rfl, .inr ⟨1, .inl rfl, rfl⟩⟩)
        · have f1 : decide ((n : Int) ≥ M) = false := decide_eq_false hge
          refine T.seq_k (fun K_h0 h0 => ?_)
          refine T.regi hm ?_
          simp only [↓reduceIte, namesOf, List.any, I.names, aopsI, astep, ev, setd, List.set, List.getD, List.getElem?_cons_zero, List.getElem?_cons_succ, then_normal, Option.getD_some, Bool.or_false, Bool.false_eq_true, up_zero, binv, ↓opt_def, eq_self, f1, Bool.not_false]
          refine h0 _ _ ?_
          try clear h0 K_h0
          refine T.cond rfl (fun h => by cases h) (fun _ => T.skip ?_)
          refine h1 _ _ ?_
          try clear h1 K_h1
          refine T.seq_k (fun K_h1 h1 => ?_)
          refine T.seq_k (fun K_h0 h0 => ?_)
          refine T.regi hm ?_
          simp only [↓reduceIte, namesOf, List.any, I.names, aopsI, astep, ev, setd, List.set, List.getD, List.getElem?_cons_zero, List.getElem?_cons_succ, then_normal, Option.getD_some, Bool.or_false, Bool.false_eq_true, up_zero]
          refine h0 _ _ ?_
          try clear h0 K_h0
          refine T.cond rfl (fun h => by cases h) (fun _ => T.skip ?_)
          refine h1 _ _ ?_
          try clear h1 K_h1
          refine T.seq_k (fun K_h0 h0 => ?_)
          refine T.regi hm ?_
          simp only [↓reduceIte, namesOf, List.any, I.names, aopsI, astep, ev, setd, List.set, List.getD, List.getElem?_cons_zero, List.getElem?_cons_succ, then_normal, Option.getD_some, Bool.or_false, Bool.false_eq_true, up_zero]
          refine h0 _ _ ?_
          try clear h0 K_h0
          refine T.seq_k (fun K_h1 h1 => ?_)
          refine T.seq_k (fun K_h0 h0 => ?_)
          refine T.regi hm ?_
          simp only [↓reduceIte, namesOf, List.any, I.names, aopsI, astep, ev, setd, List.set, List.getD, List.getElem?_cons_zero, List.getElem?_cons_succ, then_normal, Option.getD_some, Bool.or_false, Bool.false_eq_true, up_zero]
          refine h0 _ _ ?_
          try clear h0 K_h0
          refine T.cond rfl (fun h => by cases h) (fun _ => T.skip ?_)
          refine h1 _ _ ?_
          try clear h1 K_h1
          refine T.seq_k (fun K_h0 h0 => ?_)
          refine T.regi hm ?_
          simp only [↓reduceIte, namesOf, List.any, I.names, aopsI, astep, ev, setd, List.set, List.getD, List.getElem?_cons_zero, List.getElem?_cons_succ, then_normal, Option.getD_some, Bool.or_false, Bool.false_eq_true, up_zero]
          refine h0 _ _ ?_
          try clear h0 K_h0
          exact T.ret (Fin.ret rfl ⟨rfl, _, _, i64_rng _, rfl, .inl rfl⟩)
      | true =>
        refine T.seq_k (fun K_h0 h0 => ?_)
        refine T.regi hm ?_
        simp only [↓reduceIte, namesOf, List.any, I.names, aopsI, astep, ev, setd, List.set, List.getD, List.getElem?_cons_zero, List.getElem?_cons_succ, then_normal, Option.getD_some, Bool.or_false, Bool.false_eq_true, up_zero, Bool.not_true]
        refine h0 _ _ ?_
        try clear h0 K_h0
        refine T.cond rfl (fun h => by cases h) (fun _ => T.skip ?_)
        refine h1 _ _ ?_
        try clear h1 K_h1
        refine T.seq_k (fun K_h1 h1 => ?_)
        by_cases hgt : (n : Int) > M
        · have f1 : decide ((n : Int) > M) = true := decide_eq_true hgt
          refine T.seq_k (fun K_h0 h0 => ?_)
          refine T.regi hm ?_
          simp only [↓reduceIte, namesOf, List.any, I.names, aopsI, astep, ev, setd, List.set, List.getD, List.getElem?_cons_zero, List.getElem?_cons_succ, then_normal, Option.getD_some, Bool.or_false, Bool.false_eq_true, up_zero, binv, ↓opt_def, eq_self, f1]
          refine h0 _ _ ?_
          try clear h0 K_h0
          refine T.cond rfl (fun _ => ?_) (fun h => by cases h)
          refine T.seq_k (fun K_h0 h0 => ?_)
          refine T.regi hm ?_
          simp only [↓reduceIte, namesOf, List.any, I.names, aopsI, astep, ev, setd, List.set, List.getD, List.getElem?_cons_zero, List.getElem?_cons_succ, then_normal, Option.getD_some, Bool.or_false, Bool.false_eq_true, up_zero, eq_self]
          refine h0 _ _ ?_
          try clear h0 K_h0
          exact T.ret (Fin.ret rfl ⟨rfl, _, _, i64_rng _, rfl, .inr ⟨1, .inl rfl, rfl⟩⟩)
        · have f1 : decide ((n : Int) > M) = false := decide_eq_false hgt
          refine T.seq_k (fun K_h0 h0 => ?_)
          refine T.regi hm ?_
          simp only [↓reduceIte, namesOf, List.any, I.names, aopsI, astep, ev, setd, List.set, List.getD, List.getElem?_cons_zero, List.getElem?_cons_succ, then_normal, Option.getD_some, Bool.or_false, Bool.false_eq_true, up_zero, binv, ↓opt_def, eq_self, f1]
          refine h0 _ _ ?_
          try clear h0 K_h0
          refine T.cond rfl (fun h => by cases h) (fun _ => T.skip ?_)
          refine h1 _ _ ?_
          try clear h1 K_h1
          refine T.seq_k (fun K_h0 h0 => ?_)
          refine T.regi hm ?_
          simp only [↓reduceIte, namesOf, List.any, I.names, aopsI, astep, ev, setd, List.set, List.getD, List.getElem?_cons_zero, List.getElem?_cons_succ, then_normal, Option.getD_some, Bool.or_false, Bool.false_eq_true, up_zero]
          refine h0 _ _ ?_
          try clear h0 K_h0
          refine T.seq_k (fun K_h1 h1 => ?_)
          refine T.seq_k (fun K_h0 h0 => ?_)
          refine T.regi hm ?_
          simp only [↓reduceIte, namesOf, List.any, I.names, aopsI, astep, ev, setd, List.set, List.getD, List.getElem?_cons_zero, List.getElem?_cons_succ, then_normal, Option.getD_some, Bool.or_false, Bool.false_eq_true, up_zero]
          refine h0 _ _ ?_
          try clear h0 K_h0
          refine T.cond rfl (fun _ => ?_) (fun h => by cases h)
          refine T.regi hm ?_
          simp only [↓reduceIte, namesOf, List.any, I.names, aopsI, astep, ev, setd, List.set, List.getD, List.getElem?_cons_zero, List.getElem?_cons_succ, then_normal, Option.getD_some, Bool.or_false, Bool.false_eq_true, up_zero, eq_self]
          refine h1 _ _ ?_
          try clear h1 K_h1
          refine T.seq_k (fun K_h0 h0 => ?_)
          refine T.regi hm ?_
          simp only [↓reduceIte, namesOf, List.any, I.names, aopsI, astep, ev, setd, List.set, List.getD, List.getElem?_cons_zero, List.getElem?_cons_succ, then_normal, Option.getD_some, Bool.or_false, Bool.false_eq_true, up_zero]
          refine h0 _ _ ?_
          try clear h0 K_h0
          exact T.ret (Fin.ret rfl ⟨rfl, _, _, i64_rng _, rfl, .inl rfl⟩)
    rcases he with rfl | rfl | rfl
    · have g1 : eqIv true [(tCode, .i64), (t_serr, .i64)] .nili .nili = some true := rfl
      refine T.seq_k (fun K_h0 h0 => ?_)
      refine T.regi hm ?_
      simp only [↓reduceIte, namesOf, List.any, I.names, aopsI, astep, ev, setd, List.set, List.getD, List.getElem?_cons_zero, List.getElem?_cons_succ, then_normal, Option.getD_some, Bool.or_false, Bool.false_eq_true, up_zero, g1, bne_self_eq_false]
      refine h0 _ _ ?_
      try clear h0 K_h0
      refine T.cond rfl (fun h => by cases h) (fun _ => T.skip ?_)
      exact rest _ rfl
    · have g1 : eqIv true [(tCode, .i64), (t_serr, .i64)] (.iface t_serr (.int .i64 1)) .nili = some false := rfl
      have g2 : eqIv false [(tCode, .i64), (t_serr, .i64)] (.iface t_serr (.int .i64 1)) (.iface t_serr (.int .i64 1)) = some true := rfl
      refine T.seq_k (fun K_h0 h0 => ?_)
      refine T.regi hm ?_
      simp only [↓reduceIte, namesOf, List.any, I.names, aopsI, astep, ev, setd, List.set, List.getD, List.getElem?_cons_zero, List.getElem?_cons_succ, then_normal, Option.getD_some, Bool.or_false, Bool.false_eq_true, up_zero, eq_self, g1, g2, bne_self_eq_false, Bool.false_bne]
      refine h0 _ _ ?_
      try clear h0 K_h0
      refine T.cond rfl (fun h => by cases h) (fun _ => T.skip ?_)
      exact rest _ rfl
    · have g1 : eqIv true [(tCode, .i64), (t_serr, .i64)] (.iface t_serr (.int .i64 2)) .nili = some false := rfl
      have g2 : eqIv false [(tCode, .i64), (t_serr, .i64)] (.iface t_serr (.int .i64 2)) (.iface t_serr (.int .i64 1)) = some false := rfl
      refine T.seq_k (fun K_h0 h0 => ?_)
      refine T.regi hm ?_
      simp only [↓reduceIte, namesOf, List.any, I.names, aopsI, astep, ev, setd, List.set, List.getD, List.getElem?_cons_zero, List.getElem?_cons_succ, then_normal, Option.getD_some, Bool.or_false, Bool.false_eq_true, up_zero, eq_self, g1, g2, Bool.false_bne]
      refine h0 _ _ ?_
      try clear h0 K_h0
      refine T.cond rfl (fun _ => ?_) (fun h => by cases h)
      refine T.seq_k (fun K_h0 h0 => ?_)
      refine T.regi hm ?_
      simp only [↓reduceIte, namesOf, List.any, I.names, aopsI, astep, ev, setd, List.set, List.getD, List.getElem?_cons_zero, List.getElem?_cons_succ, then_normal, Option.getD_some, Bool.or_false, Bool.false_eq_true, up_zero]
      refine h0 _ _ ?_
      try clear h0 K_h0
      exact T.ret (Fin.ret rfl ⟨rfl, _, _, ⟨by omega, by omega⟩, rfl, .inr ⟨2, .inr rfl, rfl⟩⟩)
  refine T.seq_k (fun K_h0 h0 => ?_)
  refine T.regi hm ?_
  simp only [↓reduceIte, namesOf, List.any, I.names, aopsI, astep, ev, setd, List.set, List.getD, List.getElem?_cons_zero, List.getElem?_cons_succ, then_normal, Option.getD_some, Bool.or_false, Bool.false_eq_true, up_zero, hsz, hpos, hg0, Int.le_refl, and_self]
  refine h0 _ _ ?_
  try clear h0 K_h0
  refine T.block ?_
  have hr : r.length ≤ 1000000000 := by simp at hl; omega
  by_cases h43 : c.toNat = 43
  · have f1 : ((c.toNat : Int) == 43) = true := by rw [h43]; rfl
    refine T.seq_k (fun K_h0 h0 => ?_)
    refine T.regi hm ?_
    simp only [↓reduceIte, namesOf, List.any, I.names, aopsI, astep, ev, setd, List.set, List.getD, List.getElem?_cons_zero, List.getElem?_cons_succ, then_normal, Option.getD_some, Bool.or_false, Bool.false_eq_true, up_zero, binv, ↓opt_def, eq_self, f1]
    refine h0 _ _ ?_
    try clear h0 K_h0
    refine T.cond rfl (fun _ => ?_) (fun h => by cases h)
    refine T.regi hm ?_
    simp only [↓reduceIte, namesOf, List.any, I.names, aopsI, astep, ev, setd, List.set, List.getD, List.getElem?_cons_zero, List.getElem?_cons_succ, then_normal, inBlock_normal, Option.getD_some, Bool.or_false, Bool.false_eq_true, up_zero, Int.toNat_natCast, hsz, idx, h1le, hcut, Int.le_refl, and_self, Int.toNat_one, Int.reduceLE]
    exact nxt _ r false hr rfl
  have f1 : ((c.toNat : Int) == 43) = false := by rw [beq_eq_false_iff_ne]; omega
  refine T.seq_k (fun K_h0 h0 => ?_)
  refine T.regi hm ?_
  simp only [↓reduceIte, namesOf, List.any, I.names, aopsI, astep, ev, setd, List.set, List.getD, List.getElem?_cons_zero, List.getElem?_cons_succ, then_normal, Option.getD_some, Bool.or_false, Bool.false_eq_true, up_zero, binv, ↓opt_def, eq_self, f1]
  refine h0 _ _ ?_
  try clear h0 K_h0
  refine T.cond rfl (fun h => by cases h) (fun _ => ?_)
  by_cases h45 : c.toNat = 45
  · have f2 : ((c.toNat : Int) == 45) = true := by rw [h45]; rfl
    refine T.seq_k (fun K_h0 h0 => ?_)
    refine T.regi hm ?_
    simp only [↓reduceIte, namesOf, List.any, I.names, aopsI, astep, ev, setd, List.set, List.getD, List.getElem?_cons_zero, List.getElem?_cons_succ, then_normal, Option.getD_some, Bool.or_false, Bool.false_eq_true, up_zero, binv, ↓opt_def, eq_self, f2]
    refine h0 _ _ ?_
    try clear h0 K_h0
    refine T.cond rfl (fun _ => ?_) (fun h => by cases h)
    refine T.seq_k (fun K_h0 h0 => ?_)
    refine T.regi hm ?_
    simp only [↓reduceIte, namesOf, List.any, I.names, aopsI, astep, ev, setd, List.set, List.getD, List.getElem?_cons_zero, List.getElem?_cons_succ, then_normal, Option.getD_some, Bool.or_false, Bool.false_eq_true, up_zero, Int.toNat_natCast, hsz, idx, h1le, hcut, Int.le_refl, and_self, Int.toNat_one, Int.reduceLE]
    refine h0 _ _ ?_
    try clear h0 K_h0
    refine T.regi hm ?_
    simp only [↓reduceIte, namesOf, List.any, I.names, aopsI, astep, ev, setd, List.set, then_normal, inBlock_normal, Bool.or_false, Bool.false_eq_true, up_zero]
    exact nxt _ r true hr rfl
  · have f2 : ((c.toNat : Int) == 45) = false := by rw [beq_eq_false_iff_ne]; omega
    refine T.seq_k (fun K_h0 h0 => ?_)
    refine T.regi hm ?_
    simp only [↓reduceIte, namesOf, List.any, I.names, aopsI, astep, ev, setd, List.set, List.getD, List.getElem?_cons_zero, List.getElem?_cons_succ, then_normal, Option.getD_some, Bool.or_false, Bool.false_eq_true, up_zero, binv, ↓opt_def, eq_self, f2]
    refine h0 _ _ ?_
    try clear h0 K_h0
    refine T.cond rfl (fun h => by cases h) (fun _ => T.skip ?_)
    try simp only [then_normal, inBlock_normal, inBlock_normal]
    exact nxt _ (c :: r) false hl rfl

end Go.VL

namespace Go.VL

open Go.Proofs

theorem u8_sub48 (k : Nat) (hk : k < 256) : ∃ d : Nat, IntKind.u8.wrap ((k : Int) - 48) = (d : Int) ∧ d < 256 ∧ (48 ≤ k → d = k - 48) := by
  refine ⟨(IntKind.u8.wrap ((k : Int) - 48)).toNat, ?_, ?_, ?_⟩ <;> simp [IntKind.wrap, IntKind.bits, IntKind.signed] <;> omega

set_option maxRecDepth 10000 in
set_option maxHeartbeats 1000000 in
theorem iatoi_ok {l : List UInt8} {σ : St} (hl : l.length ≤ 1000000000) :
    ACalls Tryd.prog n_iatoi [.str ⟨l.toArray⟩] σ (fun v σ' => σ' = σ ∧ AOut t_serr (fun c => .int .i64 c) l v) := by
  refine s_iatoi (fun wf => ?_)
  unfold c_iatoi
  have hsz : ((⟨l.toArray⟩ : ByteArray).size : Int) = ((l.length : Nat) : Int) := by rw [sz_mk]
  refine T.seq_k (fun K_h0 h0 => ?_)
  refine T.regi hm ?_
  simp only [↓reduceIte, namesOf, List.any, I.names, aopsI, astep, ev, setd, List.set, List.cons_append, List.nil_append, List.length_cons, List.length_nil, List.replicate, then_normal, Bool.or_false, Bool.false_eq_true, up_zero, Nat.reduceAdd, Nat.reduceSub]
  refine h0 _ _ ?_
  try clear h0 K_h0
  refine T.seq_k (fun K_h0 h0 => ?_)
  refine T.regi hm ?_
  simp only [↓reduceIte, namesOf, List.any, I.names, aopsI, astep, ev, setd, List.set, List.getD, List.getElem?_cons_zero, List.getElem?_cons_succ, then_normal, Option.getD_some, Bool.or_false, Bool.false_eq_true, up_zero, hsz]
  refine h0 _ _ ?_
  try clear h0 K_h0
  refine T.seq_k (fun K_h1 h1 => ?_)
  by_cases hf : 0 < l.length ∧ l.length < 19
  case neg =>
    have slow : ∀ ρ' : List AV, keep [0] 0 ρ' = [.str ⟨l.toArray⟩] ++ List.replicate 76 .any → K_h1 ρ' σ := by
      intro ρ' hρ
      refine h1 _ _ ?_
      try clear h1 K_h1
      refine T.gh (Gh.keep [0]) ?_
      rw [hρ]
      refine T.seq_k (fun K_h1 h1 => ?_)
      refine T.regi hm ?_
      simp only [↓reduceIte, namesOf, List.any, I.names, aopsI, astep, ev, setd, List.set, List.getD, List.getElem?_cons_zero, List.getElem?_cons_succ, List.cons_append, List.nil_append, List.replicate, then_normal, Option.getD_some, Bool.or_false, Bool.false_eq_true, up_zero, ↓opt_def, List.map_cons, List.map_nil]
      refine (iparI_ok hl).mono ?_
      rintro v σ1 ⟨rfl, k, e, hk, rfl, he⟩
      try simp only [List.getElem?_cons_zero, List.getElem?_cons_succ]
      refine h1 _ _ ?_
      try clear h1 K_h1
      refine T.seq_k (fun K_h0 h0 => ?_)
      refine T.regi hm ?_
      simp only [↓reduceIte, namesOf, List.any, I.names, aopsI, astep, ev, setd, List.set, List.getD, List.getElem?_cons_zero, List.getElem?_cons_succ, then_normal, Option.getD_some, Bool.or_false, Bool.false_eq_true, up_zero]
      refine h0 _ _ ?_
      try clear h0 K_h0
      have hno : ∀ n, ¬ canA l n := fun n h => by have := h.len; omega
      refine T.ret (Fin.quiet rfl ⟨trivial, ?_, trivial⟩ (fun _ _ h => h) ⟨rfl, k, e, hk, rfl, ?_⟩)
      · rcases he with rfl | ⟨c, _, rfl⟩ <;> trivial
      · rcases he with rfl | h
        · exact .inl ⟨rfl, fun n h => absurd h (hno n)⟩
        · exact .inr ⟨h, hno⟩
    by_cases h0 : 0 < l.length
    · have f1 : decide ((0 : Int) < (l.length : Int)) = true := decide_eq_true (by omega)
      have f2 : decide ((l.length : Int) < 19) = false := decide_eq_false (by omega)
      refine T.seq_k (fun K_h0 h0 => ?_)
      refine T.regi hm ?_
      simp only [↓reduceIte, namesOf, List.any, I.names, aopsI, astep, ev, setd, List.set, List.getD, List.getElem?_cons_zero, List.getElem?_cons_succ, then_normal, Option.getD_some, Bool.or_false, Bool.false_eq_true, up_zero, binv, ↓opt_def, eq_self, f1, f2]
      refine h0 _ _ ?_
      try clear h0 K_h0
      refine T.cond rfl (fun h => by cases h) (fun _ => T.skip ?_)
      exact slow _ rfl
    · have f1 : decide ((0 : Int) < (l.length : Int)) = false := decide_eq_false (by omega)
      refine T.seq_k (fun K_h0 h0 => ?_)
      refine T.regi hm ?_
      simp only [↓reduceIte, namesOf, List.any, I.names, aopsI, astep, ev, setd, List.set, List.getD, List.getElem?_cons_zero, List.getElem?_cons_succ, then_normal, Option.getD_some, Bool.or_false, Bool.false_eq_true, up_zero, binv, ↓opt_def, eq_self, f1]
      refine h0 _ _ ?_
      try clear h0 K_h0
      refine T.cond rfl (fun h => by cases h) (fun _ => T.skip ?_)
      exact slow _ rfl
  have f1 : decide ((0 : Int) < (l.length : Int)) = true := decide_eq_true (by omega)
  have f2 : decide ((l.length : Int) < 19) = true := decide_eq_true (by omega)
  refine T.seq_k (fun K_h0 h0 => ?_)
  refine T.regi hm ?_
  simp only [↓reduceIte, namesOf, List.any, I.names, aopsI, astep, ev, setd, List.set, List.getD, List.getElem?_cons_zero, List.getElem?_cons_succ, then_normal, Option.getD_some, Bool.or_false, Bool.false_eq_true, up_zero, binv, ↓opt_def, eq_self, f1, f2]
  refine h0 _ _ ?_
  try clear h0 K_h0
  refine T.cond rfl (fun _ => ?_) (fun h => by cases h)
  refine T.seq_k (fun K_h0 h0 => ?_)
  refine T.regi hm ?_
  simp only [↓reduceIte, namesOf, List.any, I.names, aopsI, astep, ev, setd, List.set, List.getD, List.getElem?_cons_zero, List.getElem?_cons_succ, then_normal, Option.getD_some, Bool.or_false, Bool.false_eq_true, up_zero]
  refine h0 _ _ ?_
  try clear h0 K_h0
  obtain ⟨c, r, rfl⟩ : ∃ c r, l = c :: r := by cases l with
    | nil => simp at hf
    | cons c r => exact ⟨c, r, rfl⟩
  have hrl : r.length < 18 := by have := hf.2; simp at this; omega
  have hsz1 : ((⟨(c :: r).toArray⟩ : ByteArray).size : Int) = ((r.length + 1 : Nat) : Int) := by rw [sz_mk]; rfl
  have hpos : (0 : Int) < ((r.length + 1 : Nat) : Int) := by omega
  have hg0 : (⟨(c :: r).toArray⟩ : ByteArray).data.toList[(0 : Int).toNat]? = some c := rfl
  have hcut : (⟨(c :: r).toArray⟩ : ByteArray).extract 1 (r.length + 1) = ⟨r.toArray⟩ := by rw [ba_cut]; simp
  have h1le : (1 : Int) ≤ ((r.length + 1 : Nat) : Int) := by omega
  have hc0 : ∀ n, canA (c :: r) n → 48 ≤ c.toNat := fun n h => by have := (h.digit (i := 0) rfl).2; omega
  clear h1 hsz f1 f2
  refine T.seq_k (fun K_h1 h1 => ?_)
  have nxt : ∀ (ρ' : List AV) (s : List UInt8), s.length < 19 → (∀ n, canA (c :: r) n → s = c :: r) → keep [0, 5] 0 ρ' = [.str ⟨s.toArray⟩, .any, .any, .any, .any, .str ⟨(c :: r).toArray⟩] ++ List.replicate 71 .any → K_h1 ρ' σ := by
    intro ρ' s hs hsl hρ
    refine h1 _ _ ?_
    try clear h1 K_h1
    refine T.gh (Gh.keep [0, 5]) ?_
    rw [hρ]
    clear hρ ρ'
    refine T.seq_k (fun K_h0 h0 => ?_)
    refine T.regi hm ?_
    simp only [↓reduceIte, namesOf, List.any, I.names, aopsI, astep, ev, setd, List.set, List.cons_append, List.nil_append, List.replicate, then_normal, Bool.or_false, Bool.false_eq_true, up_zero]
    refine h0 _ _ ?_
    try clear h0 K_h0
    refine T.seq_k (fun K_h1 h1 => ?_)
    have hd : (⟨s.toArray⟩ : ByteArray).data.toList = s := rfl
    refine T.seq_k (fun K_h0 h0 => ?_)
    refine T.regi hm ?_
    simp only [↓reduceIte, namesOf, List.any, I.names, aopsI, astep, ev, setd, List.set, List.getD, List.getElem?_cons_zero, List.getElem?_cons_succ, List.length_cons, List.length_nil, then_normal, Option.getD_some, Bool.or_false, Bool.or_true, Nat.reduceAdd, eq_self, held, bytesAV_er, bytesAV_len]
    refine h0 _ _ ?_
    try clear h0 K_h0
    have hL0 : Like σ ((σ.up 4).set (σ.next + 1) (.tip 1)) := (Like.refl σ).box (n := 4) (i := 1) _
    generalize ((σ.up 4).set (σ.next + 1) (.tip 1)) = t0 at hL0 ⊢
    generalize σ.next + 1 = g
    refine T.block ?_
    refine T.gh (Gh.keep [5, 6, 47, 48, 49]) ?_
    refine T.loopi (fun i ρ t => ∃ n : Int, i64r n ∧ (∀ m, canA (c :: r) m → n = ((m / 10 ^ (3 - i) : Nat) : Int)) ∧ Like σ t ∧
        ρ = [.any, .any, .any, .any, .any, .str ⟨(c :: r).toArray⟩, .int .i64 n] ++ List.replicate 40 .any ++ [.sl (bytesAV s) (.tip g), .int .i64 (s.length : Int), .int .i64 (i : Int)] ++ List.replicate 27 .any)
      s.length 0 (Nat.zero_le _) ⟨0, ⟨by omega, by omega⟩, fun m h => by rw [Nat.div_eq_of_lt (by have := h.1; omega)]; rfl, hL0, rfl⟩ ?_
    clear hL0 t0
    rintro i ρ t hi ⟨n, hn, hcan, hL, rfl⟩
    refine T.seq_k (fun K_h0 h0 => ?_)
    refine T.regi hm ?_
    simp only [↓reduceIte, namesOf, List.any, I.names, aopsI, astep, ev, setd, List.set, List.getD, List.getElem?_cons_zero, List.getElem?_cons_succ, List.cons_append, List.nil_append, List.replicate, then_normal, Option.getD_some, Bool.or_false, Bool.false_eq_true, up_zero, binv, ↓opt_def, lt_len, eq_self]
    refine h0 _ _ ?_
    try clear h0 K_h0
    refine T.seq_k (fun K_h2 h2 => ?_)
    by_cases hil : i < s.length
    case neg =>
      refine T.cond (b := false) (by simp [ev]; omega) (fun h => by cases h) (fun _ => T.exit ?_)
      have hie : i = s.length := by omega
      try simp only [List.cons_append, List.nil_append, List.replicate, then_normal, inBlock_exit, then_exit]
      refine h1 _ _ ?_
      try clear h1 K_h1
      have hfin : ∀ m, canA (c :: r) m → n = (m : Int) := fun m h => by
        have h1 := hsl m h
        have h2 := h.len
        rw [hcan m h, hie, h1, h2, Nat.sub_self, Nat.pow_zero, Nat.div_one]
      refine T.seq_k (fun K_h1 h1 => ?_)
      by_cases h45 : c.toNat = 45
      · have g1 : ((c.toNat : Int) == 45) = true := by rw [h45]; rfl
        refine T.seq_k (fun K_h0 h0 => ?_)
        refine T.regi hm ?_
        simp only [↓reduceIte, namesOf, List.any, I.names, aopsI, astep, ev, setd, List.set, List.getD, List.getElem?_cons_zero, List.getElem?_cons_succ, then_normal, Option.getD_some, Bool.or_false, Bool.false_eq_true, up_zero, binv, ↓opt_def, eq_self, hsz1, hpos, hg0, Int.le_refl, and_self, g1]
        refine h0 _ _ ?_
        try clear h0 K_h0
        refine T.cond rfl (fun _ => ?_) (fun h => by cases h)
        refine T.regi hm ?_
        simp only [↓reduceIte, namesOf, List.any, I.names, aopsI, astep, ev, setd, List.set, List.getD, List.getElem?_cons_zero, List.getElem?_cons_succ, then_normal, Option.getD_some, Bool.or_false, Bool.false_eq_true, up_zero, eq_self]
        refine h1 _ _ ?_
        try clear h1 K_h1
        refine T.seq_k (fun K_h0 h0 => ?_)
        refine T.regi hm ?_
        simp only [↓reduceIte, namesOf, List.any, I.names, aopsI, astep, ev, setd, List.set, List.getD, List.getElem?_cons_zero, List.getElem?_cons_succ, then_normal, Option.getD_some, Bool.or_false, Bool.false_eq_true, up_zero]
        refine h0 _ _ ?_
        try clear h0 K_h0
        exact T.ret (Fin.quiet rfl ⟨trivial, trivial, trivial⟩ (hL.quiet wf) ⟨rfl, _, _, i64_rng _, rfl, .inl ⟨rfl, fun m h => by have := hc0 m h; omega⟩⟩)
      · have g1 : ((c.toNat : Int) == 45) = false := by rw [beq_eq_false_iff_ne]; omega
        refine T.seq_k (fun K_h0 h0 => ?_)
        refine T.regi hm ?_
        simp only [↓reduceIte, namesOf, List.any, I.names, aopsI, astep, ev, setd, List.set, List.getD, List.getElem?_cons_zero, List.getElem?_cons_succ, then_normal, Option.getD_some, Bool.or_false, Bool.false_eq_true, up_zero, binv, ↓opt_def, eq_self, hsz1, hpos, hg0, Int.le_refl, and_self, g1]
        refine h0 _ _ ?_
        try clear h0 K_h0
        refine T.cond rfl (fun h => by cases h) (fun _ => T.skip ?_)
        refine h1 _ _ ?_
        try clear h1 K_h1
        refine T.seq_k (fun K_h0 h0 => ?_)
        refine T.regi hm ?_
        simp only [↓reduceIte, namesOf, List.any, I.names, aopsI, astep, ev, setd, List.set, List.getD, List.getElem?_cons_zero, List.getElem?_cons_succ, then_normal, Option.getD_some, Bool.or_false, Bool.false_eq_true, up_zero]
        refine h0 _ _ ?_
        try clear h0 K_h0
        exact T.ret (Fin.quiet rfl ⟨trivial, trivial, trivial⟩ (hL.quiet wf) ⟨rfl, _, _, hn, rfl, .inl ⟨rfl, hfin⟩⟩)
    refine T.cond (b := true) (by simp [ev]; omega) (fun _ => T.skip ?_) (fun h => by cases h)
    refine h2 _ _ ?_
    try clear h2 K_h2
    obtain ⟨x, hx⟩ : ∃ x, s[i]? = some x := ⟨_, List.getElem?_eq_getElem hil⟩
    have hgx : (bytesAV s)[i]? = some (.int .u8 ((x.toNat : Nat) : Int)) := by simp [bytesAV, hx]
    obtain ⟨d, hd1, hd2, hd3⟩ := u8_sub48 x.toNat x.toNat_lt
    have hinc := inc64' hil (by omega)
    have hdig : ∀ m, canA (c :: r) m → i < 3 ∧ d = m / 10 ^ (2 - i) % 10 := fun m h => by
      rw [hsl m h] at hx
      obtain ⟨a1, a2⟩ := h.digit hx
      exact ⟨a1, by omega⟩
    refine T.seq_k (fun K_h3 h3 => ?_)
    refine T.block ?_
    refine T.seq_k (fun K_h0 h0 => ?_)
    refine T.regi hm ?_
    simp only [↓reduceIte, namesOf, List.any, I.names, aopsI, astep, ev, setd, List.set, List.getD, List.getElem?_cons_zero, List.getElem?_cons_succ, List.cons_append, List.nil_append, List.length_cons, List.length_nil, List.replicate, then_normal, Option.getD_some, Bool.or_false, Bool.false_eq_true, up_zero, ↓opt_def, AV.cells, ldc, Int.natCast_nonneg, lt_len, Int.toNat_natCast, true_and, and_true, eq_self, decide_true, hil, bytesAV_len, hgx, Nat.zero_add]
    refine h0 _ _ ?_
    try clear h0 K_h0
    refine T.seq_k (fun K_h0 h0 => ?_)
    refine T.regi hm ?_
    simp only [↓reduceIte, namesOf, List.any, I.names, aopsI, astep, ev, setd, List.set, List.getD, List.getElem?_cons_zero, List.getElem?_cons_succ, List.cons_append, List.nil_append, List.replicate, then_normal, Option.getD_some, Bool.or_false, Bool.false_eq_true, up_zero, binv, ↓opt_def, eq_self, hd1]
    refine h0 _ _ ?_
    try clear h0 K_h0
    refine T.seq_k (fun K_h4 h4 => ?_)
    by_cases hd9 : d > 9
    · have g1 : decide ((d : Int) > 9) = true := decide_eq_true (by omega)
      refine T.seq_k (fun K_h0 h0 => ?_)
      refine T.regi hm ?_
      simp only [↓reduceIte, namesOf, List.any, I.names, aopsI, astep, ev, setd, List.set, List.getD, List.getElem?_cons_zero, List.getElem?_cons_succ, List.cons_append, List.nil_append, List.replicate, then_normal, Option.getD_some, Bool.or_false, Bool.false_eq_true, up_zero, binv, ↓opt_def, eq_self, g1]
      refine h0 _ _ ?_
      try clear h0 K_h0
      refine T.cond rfl (fun _ => ?_) (fun h => by cases h)
      refine T.seq_k (fun K_h0 h0 => ?_)
      refine T.regi hm ?_
      simp only [↓reduceIte, namesOf, List.any, I.names, aopsI, astep, ev, setd, List.set, List.getD, List.getElem?_cons_zero, List.getElem?_cons_succ, List.cons_append, List.nil_append, List.replicate, then_normal, Option.getD_some, Bool.or_false, Bool.false_eq_true, up_zero]
      refine h0 _ _ ?_
      try clear h0 K_h0
      exact T.ret (Fin.quiet rfl ⟨trivial, trivial, trivial⟩ (hL.quiet wf) ⟨rfl, 0, _, ⟨by omega, by omega⟩, rfl, .inr ⟨⟨2, .inr rfl, rfl⟩, fun m h => by have := (hdig m h).2; omega⟩⟩)
    have g1 : decide ((d : Int) > 9) = false := decide_eq_false (by omega)
    have wd : IntKind.i64.wrap (d : Int) = (d : Int) := wrap64 (by omega) (by omega)
    refine T.seq_k (fun K_h0 h0 => ?_)
    refine T.regi hm ?_
    simp only [↓reduceIte, namesOf, List.any, I.names, aopsI, astep, ev, setd, List.set, List.getD, List.getElem?_cons_zero, List.getElem?_cons_succ, List.cons_append, List.nil_append, List.replicate, then_normal, Option.getD_some, Bool.or_false, Bool.false_eq_true, up_zero, binv, ↓opt_def, eq_self, g1]
    refine h0 _ _ ?_
    try clear h0 K_h0
    refine T.cond rfl (fun h => by cases h) (fun _ => T.skip ?_)
    refine h4 _ _ ?_
    try clear h4 K_h4
    refine T.regi hm ?_
    simp only [↓reduceIte, namesOf, List.any, I.names, aopsI, astep, ev, setd, List.set, List.getD, List.getElem?_cons_zero, List.getElem?_cons_succ, List.cons_append, List.nil_append, List.replicate, then_normal, inBlock_normal, Option.getD_some, Bool.or_false, Bool.false_eq_true, up_zero, binv, ↓opt_def, eq_self, wd]
    try simp only [↓reduceIte, namesOf, List.any, I.names, aops, aopsI, aopsT, qstep, CPt, qget, Tbl.get, astep, ev, setd, List.set, List.getD, List.getElem?_cons_zero, List.getElem?_cons_succ, List.getElem?_nil, List.cons_append, List.nil_append, List.length_cons, List.length_nil, List.replicate, then_normal, inBlock_normal, Option.getD_some, Option.getD_none, Bool.or_false, Bool.or_true, Bool.true_or, Bool.false_or, Bool.false_eq_true, if_false, if_true, up_zero, Nat.reduceAdd, Nat.reduceSub, binv, ↓opt_def, AV.isAny, AV.cells, ldc, List.map_cons, List.map_nil, St.set_next, St.set_same, St.up_next, Int.natCast_nonneg, lt_len, le_len, Int.toNat_natCast, true_and, and_true, eq_self, reduceCtorEq, decide_true, List.length_singleton, er_int, er_bool, er_str, srcR, inBlock_normal]
    refine h3 _ _ ?_
    try clear h3 K_h3
    refine T.regi hm ?_
    simp only [↓reduceIte, namesOf, List.any, I.names, aopsI, astep, ev, setd, List.set, List.getD, List.getElem?_cons_zero, List.getElem?_cons_succ, List.cons_append, List.nil_append, List.replicate, then_normal, Option.getD_some, Bool.or_false, Bool.false_eq_true, up_zero, binv, ↓opt_def, eq_self, hinc]
    refine ⟨hil, _, _, Gh.keep [5, 6, 47, 48, 49], _, i64_rng _, fun m h => ?_, hL, rfl⟩
    obtain ⟨a1, a2⟩ := hdig m h
    have a3 := hcan m h
    have a4 : m / 10 ^ (3 - i) = m / 10 ^ (2 - i) / 10 := by rw [show 3 - i = (2 - i) + 1 by omega, Nat.pow_succ, Nat.div_div_eq_div_mul]
    have a5 : m / 10 ^ (2 - i) ≤ m := Nat.div_le_self _ _
    have a6 := h.1
    rw [show 3 - (i + 1) = 2 - i by omega]
    rw [a4] at a3
    generalize m / 10 ^ (2 - i) = y at a2 a3 a5 ⊢
    rw [a3, wrap64 (n := ((y / 10 : Nat) : Int) * 10) (by omega) (by omega), wrap64 (by omega) (by omega)]
    omega
  by_cases h45 : c.toNat = 45
  · have g1 : ((c.toNat : Int) == 45) = true := by rw [h45]; rfl
    refine T.seq_k (fun K_h0 h0 => ?_)
    refine T.regi hm ?_
    simp only [↓reduceIte, namesOf, List.any, I.names, aopsI, astep, ev, setd, List.set, List.getD, List.getElem?_cons_zero, List.getElem?_cons_succ, List.length_cons, then_normal, Option.getD_some, Bool.or_false, Bool.false_eq_true, up_zero, binv, ↓opt_def, eq_self, reduceCtorEq, hsz1, hpos, hg0, Int.le_refl, and_self, g1]
    refine h0 _ _ ?_
    try clear h0 K_h0
    refine T.cond rfl (fun _ => ?_) (fun h => by cases h)
    refine T.seq_k (fun K_h0 h0 => ?_)
    refine T.regi hm ?_
    simp only [↓reduceIte, namesOf, List.any, I.names, aopsI, astep, ev, setd, List.set, List.getD, List.getElem?_cons_zero, List.getElem?_cons_succ, then_normal, Option.getD_some, Bool.or_false, Bool.false_eq_true, up_zero, Int.toNat_natCast, hsz1, idx, h1le, hcut, Int.le_refl, and_self, Int.toNat_one, Int.reduceLE]
    refine h0 _ _ ?_
    try clear h0 K_h0
    by_cases hr0 : r.length < 1
    · have g2 : decide ((r.length : Int) < 1) = true := decide_eq_true (by omega)
      have hrs : ((⟨r.toArray⟩ : ByteArray).size : Int) = (r.length : Int) := by rw [sz_mk]
      refine T.seq_k (fun K_h0 h0 => ?_)
      refine T.regi hm ?_
      simp only [↓reduceIte, namesOf, List.any, I.names, aopsI, astep, ev, setd, List.set, List.getD, List.getElem?_cons_zero, List.getElem?_cons_succ, then_normal, Option.getD_some, Bool.or_false, Bool.false_eq_true, up_zero, binv, ↓opt_def, eq_self, hrs, g2]
      refine h0 _ _ ?_
      try clear h0 K_h0
      refine T.cond rfl (fun _ => ?_) (fun h => by cases h)
      refine T.seq_k (fun K_h0 h0 => ?_)
      refine T.regi hm ?_
      simp only [↓reduceIte, namesOf, List.any, I.names, aopsI, astep, ev, setd, List.set, List.getD, List.getElem?_cons_zero, List.getElem?_cons_succ, then_normal, Option.getD_some, Bool.or_false, Bool.false_eq_true, up_zero]
      refine h0 _ _ ?_
      try clear h0 K_h0
      exact T.ret (Fin.ret rfl ⟨rfl, 0, _, ⟨by omega, by omega⟩, rfl, .inr ⟨⟨2, .inr rfl, rfl⟩, fun m h => by have := hc0 m h; omega⟩⟩)
    · have g2 : decide ((r.length : Int) < 1) = false := decide_eq_false (by omega)
      have hrs : ((⟨r.toArray⟩ : ByteArray).size : Int) = (r.length : Int) := by rw [sz_mk]
      refine T.seq_k (fun K_h0 h0 => ?_)
      refine T.regi hm ?_
      simp only [↓reduceIte, namesOf, List.any, I.names, aopsI, astep, ev, setd, List.set, List.getD, List.getElem?_cons_zero, List.getElem?_cons_succ, then_normal, Option.getD_some, Bool.or_false, Bool.false_eq_true, up_zero, binv, ↓opt_def, eq_self, hrs, g2]
      refine h0 _ _ ?_
      try clear h0 K_h0
      refine T.cond rfl (fun h => by cases h) (fun _ => T.skip ?_)
      exact nxt _ r (by omega) (fun m h => by have := hc0 m h; omega) rfl
  have g1 : ((c.toNat : Int) == 45) = false := by rw [beq_eq_false_iff_ne]; omega
  by_cases h43 : c.toNat = 43
  · have g3 : ((c.toNat : Int) == 43) = true := by rw [h43]; rfl
    refine T.seq_k (fun K_h0 h0 => ?_)
    refine T.regi hm ?_
    simp only [↓reduceIte, namesOf, List.any, I.names, aopsI, astep, ev, setd, List.set, List.getD, List.getElem?_cons_zero, List.getElem?_cons_succ, List.length_cons, then_normal, Option.getD_some, Bool.or_false, Bool.false_eq_true, up_zero, binv, ↓opt_def, eq_self, hsz1, hpos, hg0, Int.le_refl, and_self, g1, g3]
    refine h0 _ _ ?_
    try clear h0 K_h0
    refine T.cond rfl (fun _ => ?_) (fun h => by cases h)
    refine T.seq_k (fun K_h0 h0 => ?_)
    refine T.regi hm ?_
    simp only [↓reduceIte, namesOf, List.any, I.names, aopsI, astep, ev, setd, List.set, List.getD, List.getElem?_cons_zero, List.getElem?_cons_succ, then_normal, Option.getD_some, Bool.or_false, Bool.false_eq_true, up_zero, Int.toNat_natCast, hsz1, idx, h1le, hcut, Int.le_refl, and_self, Int.toNat_one, Int.reduceLE]
    refine h0 _ _ ?_
    try clear h0 K_h0
    by_cases hr0 : r.length < 1
    · have g2 : decide ((r.length : Int) < 1) = true := decide_eq_true (by omega)
      have hrs : ((⟨r.toArray⟩ : ByteArray).size : Int) = (r.length : Int) := by rw [sz_mk]
      refine T.seq_k (fun K_h0 h0 => ?_)
      refine T.regi hm ?_
      simp only [↓reduceIte, namesOf, List.any, I.names, aopsI, astep, ev, setd, List.set, List.getD, List.getElem?_cons_zero, List.getElem?_cons_succ, then_normal, Option.getD_some, Bool.or_false, Bool.false_eq_true, up_zero, binv, ↓opt_def, eq_self, hrs, g2]
      refine h0 _ _ ?_
      try clear h0 K_h0
      refine T.cond rfl (fun _ => ?_) (fun h => by cases h)
      refine T.seq_k (fun K_h0 h0 => ?_)
      refine T.regi hm ?_
      simp only [↓reduceIte, namesOf, List.any, I.names, aopsI, astep, ev, setd, List.set, List.getD, List.getElem?_cons_zero, List.getElem?_cons_succ, then_normal, Option.getD_some, Bool.or_false, Bool.false_eq_true, up_zero]
      refine h0 _ _ ?_
      try clear h0 K_h0
      exact T.ret (Fin.ret rfl ⟨rfl, 0, _, ⟨by omega, by omega⟩, rfl, .inr ⟨⟨2, .inr rfl, rfl⟩, fun m h => by have := hc0 m h; omega⟩⟩)
    · have g2 : decide ((r.length : Int) < 1) = false := decide_eq_false (by omega)
      have hrs : ((⟨r.toArray⟩ : ByteArray).size : Int) = (r.length : Int) := by rw [sz_mk]
      refine T.seq_k (fun K_h0 h0 => ?_)
      refine T.regi hm ?_
      simp only [↓reduceIte, namesOf, List.any, I.names, aopsI, astep, ev, setd, List.set, List.getD, List.getElem?_cons_zero, List.getElem?_cons_succ, then_normal, Option.getD_some, Bool.or_false, Bool.false_eq_true, up_zero, binv, ↓opt_def, eq_self, hrs, g2]
      refine h0 _ _ ?_
      try clear h0 K_h0
      refine T.cond rfl (fun h => by cases h) (fun _ => T.skip ?_)
      exact nxt _ r (by omega) (fun m h => by have := hc0 m h; omega) rfl
  have g3 : ((c.toNat : Int) == 43) = false := by rw [beq_eq_false_iff_ne]; omega
  refine T.seq_k (fun K_h0 h0 => ?_)
  refine T.regi hm ?_
  simp only [↓reduceIte, namesOf, List.any, I.names, aopsI, astep, ev, setd, List.set, List.getD, List.getElem?_cons_zero, List.getElem?_cons_succ, List.length_cons, then_normal, Option.getD_some, Bool.or_false, Bool.false_eq_true, up_zero, binv, ↓opt_def, eq_self, hsz1, hpos, hg0, Int.le_refl, and_self, g1, g3]
  refine h0 _ _ ?_
  try clear h0 K_h0
  refine T.cond rfl (fun h => by cases h) (fun _ => T.skip ?_)
  exact nxt _ (c :: r) hf.2 (fun _ _ => rfl) rfl

theorem atoi_ok {l : List UInt8} {σ : St} (hE : Errs σ) (hl : l.length ≤ 1000000000) :
    ACalls Tryd.prog n_atoi [.str ⟨l.toArray⟩] σ (fun v σ' => σ' = σ ∧ AOut t_nerr (fun _ => .any) l v) := by
  refine s_atoi (fun wf => ?_)
  unfold c_atoi
  have hsz : (⟨l.toArray⟩ : ByteArray).size ≤ 1000000000 := by rw [sz_mk]; exact hl
  refine T.seq_k (fun K_h0 h0 => ?_)
  refine T.regi hm ?_
  simp only [↓reduceIte, namesOf, List.any, I.names, aopsI, astep, ev, setd, List.set, List.cons_append, List.nil_append, List.length_cons, List.length_nil, List.replicate, then_normal, Bool.or_false, Bool.false_eq_true, up_zero, Nat.reduceAdd, Nat.reduceSub]
  refine h0 _ _ ?_
  try clear h0 K_h0
  refine T.seq_k (fun K_h1 h1 => ?_)
  refine T.regi hm ?_
  simp only [↓reduceIte, namesOf, List.any, I.names, aopsI, astep, ev, setd, List.set, List.getD, List.getElem?_cons_zero, List.getElem?_cons_succ, then_normal, Option.getD_some, Bool.or_false, Bool.false_eq_true, up_zero, ↓opt_def, List.map_cons, List.map_nil]
  refine (iatoi_ok hl).mono ?_
  rintro v σ1 ⟨rfl, k, e, hk, rfl, (⟨rfl, hc⟩ | ⟨⟨c, he, rfl⟩, hc⟩)⟩
  · have g1 : eqIv true [(tCode, .i64)] .nili .nili = some true := rfl
    try simp only [List.getElem?_cons_zero, List.getElem?_cons_succ]
    refine h1 _ _ ?_
    try clear h1 K_h1
    refine T.seq_k (fun K_h1 h1 => ?_)
    refine T.seq_k (fun K_h0 h0 => ?_)
    refine T.regi hm ?_
    simp only [↓reduceIte, namesOf, List.any, I.names, aopsI, astep, ev, setd, List.set, List.getD, List.getElem?_cons_zero, List.getElem?_cons_succ, then_normal, Option.getD_some, Bool.or_false, Bool.false_eq_true, up_zero, g1, bne_self_eq_false]
    refine h0 _ _ ?_
    try clear h0 K_h0
    refine T.cond rfl (fun h => by cases h) (fun _ => T.skip ?_)
    refine h1 _ _ ?_
    try clear h1 K_h1
    refine T.seq_k (fun K_h0 h0 => ?_)
    refine T.regi hm ?_
    simp only [↓reduceIte, namesOf, List.any, I.names, aopsI, astep, ev, setd, List.set, List.getD, List.getElem?_cons_zero, List.getElem?_cons_succ, then_normal, Option.getD_some, Bool.or_false, Bool.false_eq_true, up_zero]
    refine h0 _ _ ?_
    try clear h0 K_h0
    exact T.ret (Fin.quiet rfl ⟨trivial, trivial, trivial⟩ (fun _ _ h => h) ⟨rfl, k, _, hk, rfl, .inl ⟨rfl, hc⟩⟩)
  · have g1 : eqIv true [(tCode, .i64)] (.iface t_serr (.int .i64 c)) .nili = some false := rfl
    try simp only [List.getElem?_cons_zero, List.getElem?_cons_succ]
    refine h1 _ _ ?_
    try clear h1 K_h1
    refine T.seq_k (fun K_h1 h1 => ?_)
    refine T.seq_k (fun K_h0 h0 => ?_)
    refine T.regi hm ?_
    simp only [↓reduceIte, namesOf, List.any, I.names, aopsI, astep, ev, setd, List.set, List.getD, List.getElem?_cons_zero, List.getElem?_cons_succ, then_normal, Option.getD_some, Bool.or_false, Bool.false_eq_true, up_zero, g1, Bool.false_bne]
    refine h0 _ _ ?_
    try clear h0 K_h0
    refine T.cond rfl (fun _ => ?_) (fun h => by cases h)
    refine T.seq_k (fun K_h2 h2 => ?_)
    refine T.regi hm ?_
    simp only [↓reduceIte, namesOf, List.any, I.names, aopsI, astep, ev, setd, List.set, List.getD, List.getElem?_cons_zero, List.getElem?_cons_succ, then_normal, Option.getD_some, Bool.or_false, Bool.false_eq_true, up_zero, List.map_cons, List.map_nil]
    refine (toErr_ok hE hsz he).mono ?_
    rintro v σ2 ⟨rfl, rfl⟩
    try simp only [↓reduceIte, namesOf, List.any, I.names, aops, aopsI, aopsT, qstep, CPt, qget, Tbl.get, astep, ev, setd, List.set, List.getD, List.getElem?_cons_zero, List.getElem?_cons_succ, List.getElem?_nil, List.cons_append, List.nil_append, List.length_cons, List.length_nil, List.replicate, then_normal, inBlock_normal, Option.getD_some, Option.getD_none, Bool.or_false, Bool.or_true, Bool.true_or, Bool.false_or, Bool.false_eq_true, if_false, if_true, up_zero, Nat.reduceAdd, Nat.reduceSub, binv, ↓opt_def, AV.isAny, AV.cells, ldc, List.map_cons, List.map_nil, St.set_next, St.set_same, St.up_next, Int.natCast_nonneg, lt_len, le_len, Int.toNat_natCast, true_and, and_true, eq_self, reduceCtorEq, decide_true, List.length_singleton, er_int, er_bool, er_str, srcR, up_zero]
    refine h2 _ _ ?_
    try clear h2 K_h2
    exact T.ret (Fin.quiet rfl ⟨trivial, trivial, trivial⟩ (fun _ _ h => h) ⟨rfl, k, _, hk, rfl, .inr ⟨⟨c, he, rfl⟩, hc⟩⟩)

end Go.VL

namespace Go.VL

open Go.Proofs

/-- what there is a name of -/
def What (what : List UInt8) : Prop := what = [112] ∨ what = [109] ∨ what = [105] ∨ what = [102] ∨ what = [120]

def V3 (id : Nat) (what : List UInt8) (page : Int) : Prop := id < 18446744073709551616 ∧ ((what = [112] ∧ 0 ≤ page ∧ page < 1000) ∨ ((what = [109] ∨ what = [105] ∨ what = [102] ∨ what = [120]) ∧ page = 0))

theorem V3.what {id : Nat} {what : List UInt8} {page : Int} (h : V3 id what page) : What what := by
  rcases h.2 with h | h
  · exact .inl h.1
  · exact .inr h.1

def tailF (what : List UInt8) (page : Int) : List UInt8 := if what = [112] then 112 :: dg 10 3 (page.toNat % 1000) else what

theorem nm_eq {id : Nat} {what : List UInt8} {page : Int} (h : What what) : nmF id what page = [98] ++ 47 :: (dg 16 16 id ++ 47 :: tailF what page) := by
  unfold nmF tailF nmHead
  by_cases hp : what = [112]
  · rw [if_pos hp, if_pos hp]; simp
  · rw [if_neg hp, if_neg hp, if_pos (h.resolve_left hp)]; simp

theorem tail_free {what : List UInt8} {page : Int} (h : What what) : 47 ∉ tailF what page := by
  unfold tailF
  split
  · intro hm
    rcases List.mem_cons.1 hm with h1 | h1
    · exact absurd h1 (by decide)
    · exact dg_ne (by omega) (by omega) 3 _ _ h1 rfl
  · rename_i hp
    rcases h with h | h | h | h | h
    · exact absurd h hp
    all_goals (subst h; decide)

theorem nm_split {id : Nat} {what : List UInt8} {page : Int} (h : What what) : splitB (nmF id what page) = [[98], dg 16 16 id, tailF what page] := by
  rw [nm_eq h, split_at (by decide), split_at (fun hm => dg_ne (by omega) (by omega) 16 _ _ hm rfl), split_no (tail_free h)]

/-- what the parts of a name are -/
theorem canon_parts {l p0 p1 r : List UInt8} {c : UInt8} (hs : splitB l = [p0, p1, c :: r]) {id : Nat} {what : List UInt8} {page : Int} (hv : V3 id what page) (he : l = nmF id what page) :
    canU 16 p1 id ∧ what = [c] ∧ ((c = 112 ∧ canA r page.toNat ∧ page = (page.toNat : Int)) ∨ (c ≠ 112 ∧ page = 0)) := by
  rw [he, nm_split hv.what] at hs
  injection hs with _ hs
  injection hs with h1 hs
  injection hs with h2 _
  refine ⟨⟨rfl, hv.1, h1.symm⟩, ?_⟩
  unfold tailF at h2
  rcases hv.2 with ⟨rfl, h3, h4⟩ | ⟨hw, h3⟩
  · rw [if_pos rfl] at h2
    injection h2 with h5 h6
    subst h5
    exact ⟨rfl, .inl ⟨rfl, ⟨by omega, by rw [← h6, Nat.mod_eq_of_lt (by omega)]⟩, by omega⟩⟩
  · rw [if_neg (fun h => by subst h; simp at hw)] at h2
    subst h2
    rcases hw with h | h | h | h <;> (injection h with h5 h6; subst h5 h6; exact ⟨rfl, .inr ⟨by decide, h3⟩⟩)

theorem canon_len {l : List UInt8} {id : Nat} {what : List UInt8} {page : Int} (hv : V3 id what page) (he : l = nmF id what page) : (splitB l).length = 3 ∧ ∀ p0 p1 p2, splitB l = [p0, p1, p2] → p2 ≠ [] := by
  rw [he, nm_split hv.what]
  refine ⟨rfl, fun p0 p1 p2 h => ?_⟩
  injection h with _ h
  injection h with _ h
  injection h with h _
  subst h
  unfold tailF
  split
  · simp
  · rename_i hp
    rcases hv.what with h | h | h | h | h
    · exact absurd h hp
    all_goals simp [h]

theorem V3.uniq {id id' : Nat} {what what' : List UInt8} {page page' : Int} (h : V3 id what page) (h' : V3 id' what' page') (he : nmF id what page = nmF id' what' page') : id = id' ∧ what = what' ∧ page = page' := by
  have hs := nm_split (id := id) (page := page) h.what
  obtain ⟨c, r, hcr⟩ : ∃ c r, tailF what page = c :: r := by
    cases ht : tailF what page with
    | nil => exact absurd ht ((canon_len h rfl).2 _ _ _ hs)
    | cons c r => exact ⟨c, r, rfl⟩
  rw [hcr] at hs
  obtain ⟨a1, a2, a3⟩ := canon_parts hs h rfl
  obtain ⟨b1, b2, b3⟩ := canon_parts hs h' he
  refine ⟨?_, a2.trans b2.symm, ?_⟩
  · exact dg_inj (by omega) (by omega) 16 a1.2.1 b1.2.1 (a1.2.2.symm.trans b1.2.2)
  · rcases a3 with ⟨c1, c2, c3⟩ | ⟨c1, c2⟩ <;> rcases b3 with ⟨d1, d2, d3⟩ | ⟨d1, d2⟩
    · have := dg_inj (b := 10) (by omega) (by omega) 3 c2.1 d2.1 (c2.2.symm.trans d2.2)
      omega
    · exact absurd c1 d1
    · exact absurd d1 c1
    · rw [c2, d2]

/-- what a name tells -/
def PRes (l : List UInt8) (v : AV) : Prop :=
  (∃ id what page, V3 id what page ∧ l = nmF id what page ∧ v = .tup [.int .u64 ((id : Nat) : Int), .str ⟨what.toArray⟩, .int .i64 page, .bool true]) ∨
  ((∀ id what page, V3 id what page → l ≠ nmF id what page) ∧ v = .tup [.int .u64 0, .str ⟨#[]⟩, .int .i64 0, .bool false])

theorem PRes.uniq {l : List UInt8} {v w : AV} (h : PRes l v) (k : PRes l w) : v = w := by
  rcases h with ⟨id, what, page, h1, h2, rfl⟩ | ⟨h1, rfl⟩ <;> rcases k with ⟨id', what', page', k1, k2, rfl⟩ | ⟨k1, rfl⟩
  · obtain ⟨rfl, rfl, rfl⟩ := h1.uniq k1 (h2.symm.trans k2); rfl
  · exact absurd h2 (k1 _ _ _ h1)
  · exact absurd k2 (h1 _ _ _ k1)
  · rfl

theorem nb_p0 (m : Nat) : (AV.tup [.int .u64 0, .str ⟨#[]⟩, .int .i64 0, .bool false]).nb m := ⟨trivial, trivial, trivial, trivial, trivial⟩

set_option maxRecDepth 10000 in
set_option maxHeartbeats 1000000 in
theorem mParse_ok {l : List UInt8} {σ : St} (hT : Tabs σ) (hE : Errs σ) (hl : l.length ≤ 1000000) : ACalls Tryd.prog n_mParse [.str ⟨l.toArray⟩] σ (fun v σ' => σ' = σ ∧ PRes l v) := by
  refine s_mParse (fun wf => ?_)
  unfold c_mParse
  refine T.seq_k (fun K_h0 h0 => ?_)
  refine T.regi hm ?_
  simp only [↓reduceIte, namesOf, List.any, I.names, aopsI, astep, ev, setd, List.set, List.cons_append, List.nil_append, List.length_cons, List.length_nil, List.replicate, then_normal, Bool.or_false, Bool.false_eq_true, up_zero, Nat.reduceAdd, Nat.reduceSub]
  refine h0 _ _ ?_
  try clear h0 K_h0
  refine T.seq_k (fun K_h1 h1 => ?_)
  refine T.regi hm ?_
  simp only [↓reduceIte, namesOf, List.any, I.names, aopsI, astep, ev, setd, List.set, List.getD, List.getElem?_cons_zero, List.getElem?_cons_succ, then_normal, Option.getD_some, Bool.or_false, Bool.false_eq_true, up_zero, List.map_cons, List.map_nil]
  refine (split_ok hl).mono ?_
  rintro v σ ⟨rfl, rfl⟩
  try simp only [↓reduceIte, namesOf, List.any, I.names, aops, aopsI, aopsT, qstep, CPt, qget, Tbl.get, astep, ev, setd, List.set, List.getD, List.getElem?_cons_zero, List.getElem?_cons_succ, List.getElem?_nil, List.cons_append, List.nil_append, List.length_cons, List.length_nil, List.replicate, then_normal, inBlock_normal, Option.getD_some, Option.getD_none, Bool.or_false, Bool.or_true, Bool.true_or, Bool.false_or, Bool.false_eq_true, if_false, if_true, up_zero, Nat.reduceAdd, Nat.reduceSub, binv, ↓opt_def, AV.isAny, AV.cells, ldc, List.map_cons, List.map_nil, St.set_next, St.set_same, St.up_next, Int.natCast_nonneg, lt_len, le_len, Int.toNat_natCast, true_and, and_true, eq_self, reduceCtorEq, decide_true, List.length_singleton, er_int, er_bool, er_str, srcR, up_zero]
  refine h1 _ _ ?_
  try clear h1 K_h1
  have hsum := split_sum l
  obtain ⟨ps, hps⟩ : ∃ ps, splitB l = ps := ⟨_, rfl⟩
  rw [hps] at hsum ⊢
  have fin : ∀ ρ', (∀ id what page, V3 id what page → l ≠ nmF id what page) → rvals ρ' σ [.t 2, .t 3, .t 4, .t 5] = some [.int .u64 0, .str ⟨#[]⟩, .int .i64 0, .bool false] → Fin σ [.t 2, .t 3, .t 4, .t 5] (fun v σ' => σ' = σ ∧ PRes l v) .ret ρ' σ := fun ρ' hno hr =>
    Fin.quiet hr (nb_p0 _) (fun _ _ h => h) ⟨rfl, .inr ⟨hno, rfl⟩⟩
  refine T.seq_k (fun K_h1 h1 => ?_)
  by_cases h3 : ps.length = 3
  case neg =>
    have e1 : ((ps.length : Int) != 3) = true := by simp; omega
    refine T.seq_k (fun K_h0 h0 => ?_)
    refine T.regi hm ?_
    simp only [↓reduceIte, namesOf, List.any, I.names, aopsI, astep, ev, setd, List.set, List.getD, List.getElem?_cons_zero, List.getElem?_cons_succ, then_normal, Option.getD_some, Bool.or_false, Bool.false_eq_true, up_zero, binv, ↓opt_def, eq_self, reduceCtorEq, strs_len, e1]
    refine h0 _ _ ?_
    try clear h0 K_h0
    refine T.cond rfl (fun _ => ?_) (fun h => by cases h)
    refine T.seq_k (fun K_h0 h0 => ?_)
    refine T.regi hm ?_
    simp only [↓reduceIte, namesOf, List.any, I.names, aopsI, astep, ev, setd, List.set, then_normal, Bool.or_false, Bool.false_eq_true, up_zero]
    refine h0 _ _ ?_
    try clear h0 K_h0
    exact T.ret (fin _ (fun id what page hv he => h3 (by have := (canon_len hv he).1; rw [hps] at this; exact this)) rfl)
  obtain ⟨p0, p1, p2, rfl⟩ : ∃ p0 p1 p2, ps = [p0, p1, p2] := by
    match ps, h3 with
    | [a, b, c], _ => exact ⟨a, b, c, rfl⟩
  have hlen : ((strsAV [p0, p1, p2]).length : Int) = 3 := rfl
  have e1 : ((3 : Int) != 3) = false := rfl
  have i1 : (1 : Int) < 3 := by decide
  have i2 : (2 : Int) < 3 := by decide
  have z1 : (0 : Int) ≤ 1 := by decide
  have z2 : (0 : Int) ≤ 2 := by decide
  have g1 : (strsAV [p0, p1, p2])[(1 : Int).toNat]? = some (.str ⟨p1.toArray⟩) := rfl
  have g2 : (strsAV [p0, p1, p2])[(2 : Int).toNat]? = some (.str ⟨p2.toArray⟩) := rfl
  have q2 : sbinv .eql ⟨p2.toArray⟩ ⟨#[]⟩ = some (.bool (decide (p2 = []))) := by simp only [sbinv, ba_eq p2 []]
  by_cases hp2 : p2 = []
  · have f1 : decide (p2 = []) = true := decide_eq_true hp2
    rw [f1] at q2
    refine T.seq_k (fun K_h0 h0 => ?_)
    refine T.regi hm ?_
    simp only [↓reduceIte, namesOf, List.any, I.names, aopsI, astep, ev, setd, List.set, List.getD, List.getElem?_cons_zero, List.getElem?_cons_succ, List.length_cons, List.length_nil, then_normal, Option.getD_some, Bool.or_false, Bool.false_eq_true, up_zero, binv, ↓opt_def, AV.cells, ldc, and_true, eq_self, hlen, e1, i2, z2, g2, q2, Nat.zero_add]
    refine h0 _ _ ?_
    try clear h0 K_h0
    refine T.cond rfl (fun _ => ?_) (fun h => by cases h)
    refine T.seq_k (fun K_h0 h0 => ?_)
    refine T.regi hm ?_
    simp only [↓reduceIte, namesOf, List.any, I.names, aopsI, astep, ev, setd, List.set, then_normal, Bool.or_false, Bool.false_eq_true, up_zero]
    refine h0 _ _ ?_
    try clear h0 K_h0
    exact T.ret (fin _ (fun id what page hv he => (canon_len hv he).2 _ _ _ hps hp2) rfl)
  have f1 : decide (p2 = []) = false := decide_eq_false hp2
  rw [f1] at q2
  refine T.seq_k (fun K_h0 h0 => ?_)
  refine T.regi hm ?_
  simp only [↓reduceIte, namesOf, List.any, I.names, aopsI, astep, ev, setd, List.set, List.getD, List.getElem?_cons_zero, List.getElem?_cons_succ, List.length_cons, List.length_nil, then_normal, Option.getD_some, Bool.or_false, Bool.false_eq_true, up_zero, binv, ↓opt_def, AV.cells, ldc, and_true, eq_self, hlen, e1, i2, z2, g2, q2, Nat.zero_add]
  refine h0 _ _ ?_
  try clear h0 K_h0
  refine T.cond rfl (fun h => by cases h) (fun _ => T.skip ?_)
  refine h1 _ _ ?_
  try clear h1 K_h1
  obtain ⟨c, r, rfl⟩ : ∃ c r, p2 = c :: r := by cases p2 with
    | nil => exact absurd rfl hp2
    | cons c r => exact ⟨c, r, rfl⟩
  have hl1 : p1.length ≤ 1000000 := by have := hsum p1 (by simp); omega
  have hlr : r.length ≤ 1000000 := by have := hsum (c :: r) (by simp); simp at this; omega
  have hcan := fun (id : Nat) (what : List UInt8) (page : Int) => canon_parts (id := id) (what := what) (page := page) hps
  clear hsum q2 f1 hp2 h3
  refine T.seq_k (fun K_h1 h1 => ?_)
  refine T.regi hm ?_
  simp only [↓reduceIte, namesOf, List.any, I.names, aopsI, astep, ev, setd, List.set, List.getD, List.getElem?_cons_zero, List.getElem?_cons_succ, List.length_cons, List.length_nil, then_normal, Option.getD_some, Bool.or_false, Bool.false_eq_true, up_zero, ↓opt_def, AV.cells, ldc, List.map_cons, List.map_nil, and_true, eq_self, hlen, i1, z1, g1, Nat.zero_add]
  refine (parU_ok hE (by omega)).mono ?_
  rintro v σ ⟨rfl, (⟨n, hn, rfl, hc⟩ | ⟨n, hn, rfl, hc⟩)⟩
  case inr =>
    have g0 : eqIv true [(tCode, .i64)] (.iface t_nerr .any) .nili = some false := rfl
    try simp only [List.getElem?_cons_zero, List.getElem?_cons_succ]
    refine h1 _ _ ?_
    try clear h1 K_h1
    refine T.seq_k (fun K_h1 h1 => ?_)
    refine T.seq_k (fun K_h0 h0 => ?_)
    refine T.regi hm ?_
    simp only [↓reduceIte, namesOf, List.any, I.names, aopsI, astep, ev, setd, List.set, List.getD, List.getElem?_cons_zero, List.getElem?_cons_succ, then_normal, Option.getD_some, Bool.or_false, Bool.false_eq_true, up_zero, g0, Bool.false_bne]
    refine h0 _ _ ?_
    try clear h0 K_h0
    refine T.cond rfl (fun _ => ?_) (fun h => by cases h)
    refine T.seq_k (fun K_h0 h0 => ?_)
    refine T.regi hm ?_
    simp only [↓reduceIte, namesOf, List.any, I.names, aopsI, astep, ev, setd, List.set, then_normal, Bool.or_false, Bool.false_eq_true, up_zero]
    refine h0 _ _ ?_
    try clear h0 K_h0
    exact T.ret (fin _ (fun id what page hv he => hc id (hcan _ _ _ hv he).1) rfl)
  have g0 : eqIv true [(tCode, .i64)] .nili .nili = some true := rfl
  try simp only [List.getElem?_cons_zero, List.getElem?_cons_succ]
  refine h1 _ _ ?_
  try clear h1 K_h1
  refine T.seq_k (fun K_h1 h1 => ?_)
  refine T.seq_k (fun K_h0 h0 => ?_)
  refine T.regi hm ?_
  simp only [↓reduceIte, namesOf, List.any, I.names, aopsI, astep, ev, setd, List.set, List.getD, List.getElem?_cons_zero, List.getElem?_cons_succ, then_normal, Option.getD_some, Bool.or_false, Bool.false_eq_true, up_zero, g0, bne_self_eq_false]
  refine h0 _ _ ?_
  try clear h0 K_h0
  refine T.cond rfl (fun h => by cases h) (fun _ => T.skip ?_)
  refine h1 _ _ ?_
  try clear h1 K_h1
  have hsz : ((⟨(c :: r).toArray⟩ : ByteArray).size : Int) = ((r.length + 1 : Nat) : Int) := by rw [sz_mk]; rfl
  have hx1 : (⟨(c :: r).toArray⟩ : ByteArray).extract 0 1 = ⟨[c].toArray⟩ := by rw [ba_cut]; simp
  have hx2 : (⟨(c :: r).toArray⟩ : ByteArray).extract 1 (r.length + 1) = ⟨r.toArray⟩ := by rw [ba_cut]; simp
  have h1le : (1 : Int) ≤ ((r.length + 1 : Nat) : Int) := by omega
  have qp : sbinv .eql ⟨[c].toArray⟩ ⟨#[112]⟩ = some (.bool (decide (c = 112))) := by
    simp only [sbinv, ba_eq [c] [112]]
    congr 3
    simp
  refine T.seq_k (fun K_h0 h0 => ?_)
  refine T.regi hm ?_
  simp only [↓reduceIte, namesOf, List.any, I.names, aopsI, astep, ev, setd, List.set, List.getD, List.getElem?_cons_zero, List.getElem?_cons_succ, List.length_cons, List.length_nil, then_normal, Option.getD_some, Bool.or_false, Bool.false_eq_true, up_zero, ↓opt_def, AV.cells, ldc, eq_self, hlen, i2, z2, g2, hsz, idx, h1le, hx1, Int.le_refl, and_self, Int.toNat_zero, Int.toNat_one, z1, Nat.zero_add]
  refine h0 _ _ ?_
  try clear h0 K_h0
  refine T.seq_k (fun K_h1 h1 => ?_)
  have nxt : ∀ (ρ' : List AV) (k : Int), i64r k → ((c = 112 ∧ ∀ m, canA r m → k = (m : Int)) ∨ (c ≠ 112 ∧ k = 0)) →
      keep [0, 7, 9, 10] 0 ρ' = [.str ⟨l.toArray⟩, .any, .any, .any, .any, .any, .any, .int .u64 (n : Int), .any, .str ⟨[c].toArray⟩, .int .i64 k] ++ List.replicate 48 .any → K_h1 ρ' σ := by
    intro ρ' k hk hkc hρ
    refine h1 _ _ ?_
    try clear h1 K_h1
    refine T.gh (Gh.keep [0, 7, 9, 10]) ?_
    rw [hρ]
    clear hρ ρ'
    have qn : sbinv .neq ⟨(nmF n [c] k).toArray⟩ ⟨l.toArray⟩ = some (.bool (!decide (nmF n [c] k = l))) := by simp only [sbinv, ba_eq]
    refine T.seq_k (fun K_h1 h1 => ?_)
    refine T.seq_k (fun K_h2 h2 => ?_)
    refine T.regi hm ?_
    simp only [↓reduceIte, namesOf, List.any, I.names, aopsI, astep, ev, setd, List.set, List.getD, List.getElem?_cons_zero, List.getElem?_cons_succ, List.cons_append, List.nil_append, List.replicate, then_normal, Option.getD_some, Bool.or_false, Bool.false_eq_true, up_zero, ↓opt_def, List.map_cons, List.map_nil]
    refine (mName_ok (what := [c]) hT hn hk (by simp)).mono ?_
    rintro v σ ⟨rfl, rfl⟩
    by_cases hnm : nmF n [c] k = l
    · rw [decide_eq_true hnm] at qn
      try simp only [qn, Bool.not_true]
      refine h2 _ _ ?_
      try clear h2 K_h2
      refine T.cond rfl (fun h => by cases h) (fun _ => T.skip ?_)
      refine h1 _ _ ?_
      try clear h1 K_h1
      refine T.seq_k (fun K_h0 h0 => ?_)
      refine T.regi hm ?_
      simp only [↓reduceIte, namesOf, List.any, I.names, aopsI, astep, ev, setd, List.set, List.getD, List.getElem?_cons_zero, List.getElem?_cons_succ, then_normal, Option.getD_some, Bool.or_false, Bool.false_eq_true, up_zero]
      refine h0 _ _ ?_
      try clear h0 K_h0
      have hw : What [c] := by
        by_cases h0 : What [c]
        · exact h0
        · have : nmF n [c] k = [] := by
            unfold nmF
            rw [if_neg (fun h => h0 (.inl h)), if_neg (fun h => h0 (.inr h))]
          rw [this] at hnm
          rw [← hnm] at hps
          simp [splitB] at hps
      have hparts := nm_split (id := n) (page := k) hw
      rw [hnm, hps] at hparts
      injection hparts with _ hparts
      injection hparts with _ hparts
      injection hparts with hp _
      have hv : V3 n [c] k := by
        refine ⟨hn, ?_⟩
        rcases hkc with ⟨rfl, hm⟩ | ⟨hne, h0⟩
        · unfold tailF at hp
          rw [if_pos rfl] at hp
          injection hp with _ hp
          have h1 : k.toNat % 1000 < 1000 := Nat.mod_lt _ (by omega)
          have := hm (k.toNat % 1000) ⟨h1, hp⟩
          exact .inl ⟨rfl, by omega, by omega⟩
        · exact .inr ⟨hw.resolve_left (fun h => hne (by simpa using h)), h0⟩
      exact T.ret (Fin.quiet rfl ⟨trivial, trivial, trivial, trivial, trivial⟩ (fun _ _ h => h) ⟨rfl, .inl ⟨n, [c], k, hv, hnm.symm, rfl⟩⟩)
    · rw [decide_eq_false hnm] at qn
      try simp only [qn, Bool.not_false]
      refine h2 _ _ ?_
      try clear h2 K_h2
      refine T.cond rfl (fun _ => ?_) (fun h => by cases h)
      refine T.seq_k (fun K_h0 h0 => ?_)
      refine T.regi hm ?_
      simp only [↓reduceIte, namesOf, List.any, I.names, aopsI, astep, ev, setd, List.set, then_normal, Bool.or_false, Bool.false_eq_true, up_zero]
      refine h0 _ _ ?_
      try clear h0 K_h0
      refine T.ret (fin _ (fun id what page hv he => hnm ?_) rfl)
      obtain ⟨a1, a2, a3⟩ := hcan _ _ _ hv he
      have b1 := hc id a1
      have b2 : k = page := by
        rcases hkc with ⟨h0, hm⟩ | ⟨h0, hm⟩ <;> rcases a3 with ⟨d1, d2, d3⟩ | ⟨d1, d2⟩
        · rw [hm _ d2, ← d3]
        · exact absurd h0 d1
        · exact absurd d1 h0
        · rw [hm, d2]
      rw [b1, b2, he, a2]
  by_cases h112 : c = 112
  · rw [decide_eq_true h112] at qp
    refine T.seq_k (fun K_h0 h0 => ?_)
    refine T.regi hm ?_
    simp only [↓reduceIte, namesOf, List.any, I.names, aopsI, astep, ev, setd, List.set, List.getD, List.getElem?_cons_zero, List.getElem?_cons_succ, then_normal, Option.getD_some, Bool.or_false, Bool.false_eq_true, up_zero, ↓opt_def, qp]
    refine h0 _ _ ?_
    try clear h0 K_h0
    refine T.cond rfl (fun _ => ?_) (fun h => by cases h)
    refine T.seq_k (fun K_h2 h2 => ?_)
    refine T.regi hm ?_
    simp only [↓reduceIte, namesOf, List.any, I.names, aopsI, astep, ev, setd, List.set, List.getD, List.getElem?_cons_zero, List.getElem?_cons_succ, List.length_cons, List.length_nil, then_normal, Option.getD_some, Bool.or_false, Bool.false_eq_true, up_zero, ↓opt_def, AV.cells, ldc, List.map_cons, List.map_nil, Int.toNat_natCast, eq_self, hlen, i2, z2, g2, hsz, idx, h1le, hx2, Int.le_refl, and_self, Int.toNat_one, z1, Nat.zero_add]
    refine (atoi_ok hE (by omega)).mono ?_
    rintro v σ ⟨rfl, k, e, hk, rfl, (⟨rfl, hmm⟩ | ⟨⟨cc, _, rfl⟩, hno⟩)⟩
    · try simp only [List.getElem?_cons_zero, List.getElem?_cons_succ]
      refine h2 _ _ ?_
      try clear h2 K_h2
      refine T.seq_k (fun K_h2 h2 => ?_)
      refine T.seq_k (fun K_h0 h0 => ?_)
      refine T.regi hm ?_
      simp only [↓reduceIte, namesOf, List.any, I.names, aopsI, astep, ev, setd, List.set, List.getD, List.getElem?_cons_zero, List.getElem?_cons_succ, then_normal, Option.getD_some, Bool.or_false, Bool.false_eq_true, up_zero, g0, bne_self_eq_false]
      refine h0 _ _ ?_
      try clear h0 K_h0
      refine T.cond rfl (fun h => by cases h) (fun _ => T.skip ?_)
      refine h2 _ _ ?_
      try clear h2 K_h2
      refine T.regi hm ?_
      simp only [↓reduceIte, namesOf, List.any, I.names, aopsI, astep, ev, setd, List.set, List.getD, List.getElem?_cons_zero, List.getElem?_cons_succ, then_normal, Option.getD_some, Bool.or_false, Bool.false_eq_true, up_zero]
      exact nxt _ k hk (.inl ⟨h112, hmm⟩) rfl
    · have g3 : eqIv true [(tCode, .i64)] (.iface t_nerr .any) .nili = some false := rfl
      try simp only [List.getElem?_cons_zero, List.getElem?_cons_succ]
      refine h2 _ _ ?_
      try clear h2 K_h2
      refine T.seq_k (fun K_h2 h2 => ?_)
      refine T.seq_k (fun K_h0 h0 => ?_)
      refine T.regi hm ?_
      simp only [↓reduceIte, namesOf, List.any, I.names, aopsI, astep, ev, setd, List.set, List.getD, List.getElem?_cons_zero, List.getElem?_cons_succ, then_normal, Option.getD_some, Bool.or_false, Bool.false_eq_true, up_zero, g3, Bool.false_bne]
      refine h0 _ _ ?_
      try clear h0 K_h0
      refine T.cond rfl (fun _ => ?_) (fun h => by cases h)
      refine T.seq_k (fun K_h0 h0 => ?_)
      refine T.regi hm ?_
      simp only [↓reduceIte, namesOf, List.any, I.names, aopsI, astep, ev, setd, List.set, then_normal, Bool.or_false, Bool.false_eq_true, up_zero]
      refine h0 _ _ ?_
      try clear h0 K_h0
      refine T.ret (fin _ (fun id what page hv he => ?_) rfl)
      rcases (hcan _ _ _ hv he).2.2 with ⟨_, d2, _⟩ | ⟨d1, _⟩
      · exact hno _ d2
      · exact d1 h112
  · rw [decide_eq_false h112] at qp
    refine T.seq_k (fun K_h0 h0 => ?_)
    refine T.regi hm ?_
    simp only [↓reduceIte, namesOf, List.any, I.names, aopsI, astep, ev, setd, List.set, List.getD, List.getElem?_cons_zero, List.getElem?_cons_succ, then_normal, Option.getD_some, Bool.or_false, Bool.false_eq_true, up_zero, ↓opt_def, qp]
    refine h0 _ _ ?_
    try clear h0 K_h0
    refine T.cond rfl (fun h => by cases h) (fun _ => T.skip ?_)
    exact nxt _ 0 ⟨by omega, by omega⟩ (.inr ⟨h112, rfl⟩) rfl

end Go.VL

namespace Go.VL

open Go.Proofs

theorem nmp_len {id : Nat} {what : List UInt8} {page : Int} (h : What what) : (nmF id what page).length = if what = [112] then 23 else 20 := by
  rw [nm_eq h]
  unfold tailF
  split
  · simp [dg_len]
  · rename_i hp
    rcases h with h | h | h | h | h
    · exact absurd h hp
    all_goals simp [h, dg_len]

end Go.VL

namespace Go.VL

open Go.Proofs

def metAV (l : List Nat) : List (AV × AV) := l.map fun n : Nat => (.int .u64 (n : Int), .bool true)

theorem met_put (l : List Nat) (n : Nat) (h : l.contains n = false) : mput (.int .u64 (n : Int)) (.bool true) (metAV l) = metAV (l ++ [n]) := by
  induction l with
  | nil => rfl
  | cons a r ih =>
    unfold metAV at ih ⊢
    simp only [List.contains_cons, Bool.or_eq_false_iff] at h
    have h1 : ((n : Int) == (a : Int)) = false := by have := h.1; simp at this ⊢; omega
    simp only [List.map_cons, mput, keq, if_true, h1, ih h.2, List.cons_append]

structure OneSt (σ σ' : St) (a m : Nat) (t : Tc) (l : List Nat) : Prop where
  a0 : σ.next ≤ a
  m0 : σ.next ≤ m
  a1 : a < σ'.next
  m1 : m < σ'.next
  obj : σ'.res a = some (.obj t.av.cells)
  map : σ'.res m = some (.map (metAV l) (List.range l.length) l.length)
  old : ∀ n r, σ.res n = some r → σ'.res n = some r

theorem OneSt.put {σ σ' : St} {a m : Nat} {t : Tc} {l : List Nat} {n : Nat} (wf : WF σ) (ham : a ≠ m) (h : OneSt σ σ' a m t l) (hn : l.contains n = false) : OneSt σ (σ'.set m (.map (mput (.int .u64 (n : Int)) (.bool true) (metAV l)) (List.range l.length ++ [l.length]) (l.length + 1))) a m t (l ++ [n]) where
  a0 := h.a0
  m0 := h.m0
  a1 := h.a1
  m1 := h.m1
  obj := by rw [St.set_other _ _ ham]; exact h.obj
  map := by rw [St.set_same, met_put l n hn, List.length_append, List.length_singleton, List.range_succ]
  old := fun n r' hr => by
    have hn : n < σ.next := by
      rcases Nat.lt_or_ge n σ.next with h' | h'
      · exact h'
      · rw [wf n h'] at hr; cases hr
    rw [St.set_other _ _ (by have := h.m0; omega)]; exact h.old n r' hr

end Go.VL

namespace Go.VL

open Go.Proofs

/-- a span whose Ids are words -/
def Sp.wd (s : Sp) : Prop := s.tr < 18446744073709551616 ∧ s.id < 18446744073709551616

end Go.VL

namespace Go.VL

open Go.Proofs

/-- an end that is owned, and what was owned ahead of it -/
structure Tp (σ σ' : St) (g k : Nat) : Prop where
  lo : σ.next ≤ g
  hi : g < σ'.next
  at_ : σ'.res g = some (.tip k)
  old : ∀ n x, σ.res n = some x → σ'.res n = some x

theorem Tp.new {σ σ' : St} {k n i : Nat} (wf : WF σ) (hn : σ.next ≤ σ'.next) (ho : ∀ n x, σ.res n = some x → σ'.res n = some x) (hi : i < n) : Tp σ ((σ'.up n).set (σ'.next + i) (.tip k)) (σ'.next + i) k :=
  ⟨by omega, by simp; omega, by simp, set_quiet wf hn ho _ (by omega)⟩

theorem Tp.mv {σ σ' : St} {g g2 k : Nat} (wf : WF σ) (h : Tp σ σ' g k) (hlo : σ.next ≤ g2) (hhi : g2 < σ'.next) : Tp σ ((σ'.del g).set g2 (.tip k)) g2 k :=
  ⟨hlo, by simpa using hhi, by simp, fun n x hr => by
    have hn : n < σ.next := by
      rcases Nat.lt_or_ge n σ.next with h' | h'
      · exact h'
      · rw [wf n h'] at hr; cases hr
    have h1 := h.lo
    rw [St.set_other _ _ (by omega)]
    simp only [St.del]
    rw [if_neg (by omega)]; exact h.old n x hr⟩

theorem Tp.up {σ σ' : St} {g k : Nat} (h : Tp σ σ' g k) (n : Nat) : Tp σ (σ'.up n) g k := ⟨h.lo, Nat.lt_of_lt_of_le h.hi (Nat.le_add_right _ _), h.at_, h.old⟩

end Go.VL

namespace Go.VL

open Go.Proofs

/-- a reader (an owned thing nm), a row that grows, and names that nobody knows -/
structure Rk (σ t : St) (nm : Nat) (r : Res) (k : Nat) (v : Ver) : Prop where
  like : Like σ t
  lo : σ.next ≤ nm
  hi : nm < t.next
  at_ : t.res nm = some r
  ver : v = .nil ∨ ∃ g, v = .tip g ∧ g ≠ nm ∧ σ.next ≤ g ∧ g < t.next ∧ t.res g = some (.tip k)

theorem Rk.set {σ t : St} {nm k : Nat} {r : Res} {v : Ver} (h : Rk σ t nm r k v) (r' : Res) : Rk σ (t.set nm r') nm r' k v :=
  ⟨h.like.set _ h.lo, h.lo, h.hi, by simp, h.ver.imp id fun ⟨g, a1, a2, a3, a4, a5⟩ => ⟨g, a1, a2, a3, a4, by rw [St.set_other _ _ a2]; exact a5⟩⟩

theorem Rk.up {σ t : St} {nm k : Nat} {r : Res} {v : Ver} (h : Rk σ t nm r k v) (n : Nat) : Rk σ (t.up n) nm r k v :=
  ⟨h.like.up n, h.lo, Nat.lt_of_lt_of_le h.hi (Nat.le_add_right _ _), h.at_, h.ver.imp id fun ⟨g, a1, a2, a3, a4, a5⟩ => ⟨g, a1, a2, a3, Nat.lt_of_lt_of_le a4 (Nat.le_add_right _ _), a5⟩⟩

theorem Rk.new {σ t : St} {nm k : Nat} {r : Res} {v : Ver} (h : Rk σ t nm r k v) {a : Nat} (r' : Res) (ha : σ.next ≤ a) (hn : a ≠ nm) (hv : ∀ g, v = .tip g → a ≠ g) : Rk σ (t.set a r') nm r k v :=
  ⟨h.like.set _ ha, h.lo, h.hi, by rw [St.set_other _ _ (Ne.symm hn)]; exact h.at_, h.ver.imp id fun ⟨g, a1, a2, a3, a4, a5⟩ => ⟨g, a1, a2, a3, a4, by rw [St.set_other _ _ (Ne.symm (hv g a1))]; exact a5⟩⟩

theorem Rk.lt {σ t : St} {nm k : Nat} {r : Res} {v : Ver} (h : Rk σ t nm r k v) {g : Nat} (hv : v = .tip g) : g < t.next := by
  rcases h.ver with e | ⟨g', e, _, _, h4, _⟩
  · rw [hv] at e; cases e
  · rw [hv] at e; cases e; exact h4

end Go.VL

namespace Go.VL

open Go.Proofs

/-- the reader's place in what is left of the bytes -/
def sh (k : Nat) (s : Rs) : Rs := ⟨s.at_ - k, if s.bad = -1 then -1 else s.bad - k⟩

structure SH (k : Nat) (b : List UInt8) (s : Rs) : Prop where
  ok : s.ok b
  len : k ≤ b.length
  lo : (k : Int) ≤ s.at_
  bad : s.bad = -1 ∨ (k : Int) ≤ s.bad

theorem SH.neg {k : Nat} {b : List UInt8} {s : Rs} (h : SH k b s) : (sh k s).bad = -1 ↔ s.bad = -1 := by
  unfold sh; have := h.bad
  split <;> simp_all <;> omega

theorem SH.pos {k : Nat} {b : List UInt8} {s : Rs} (h : SH k b s) : 0 ≤ (sh k s).bad ↔ 0 ≤ s.bad := by
  unfold sh; have := h.bad
  split <;> simp_all <;> omega

theorem SH.rt {k : Nat} {b : List UInt8} {s : Rs} (h : SH k b s) (w : Int) : rT (b.drop k) (sh k s) w = rT b s w := by
  have e := h.neg
  have := h.len
  unfold rT
  rw [Bool.eq_iff_iff, decide_eq_true_eq, decide_eq_true_eq, e, List.length_drop]
  unfold sh
  constructor <;> rintro ⟨h1, h2⟩ <;> refine ⟨h1, ?_⟩ <;> simp only [] at * <;> omega

theorem SH.rw {k : Nat} {b : List UInt8} {s : Rs} (h : SH k b s) (w : Nat) : rW (b.drop k) (sh k s) w = rW b s w := by
  unfold rW
  rw [h.rt]
  have : (b.drop k).drop (sh k s).at_.toNat = b.drop s.at_.toNat := by
    rw [List.drop_drop]; unfold sh; have := h.lo; congr 1; simp only []; omega
  rw [this]

end Go.VL

namespace Go.VL

open Go.Proofs

-- tb05: not of this seat

/-- traces whose numbers are words -/
def Tc.wd (t : Tc) : Prop := t.id < 18446744073709551616 ∧ ∀ s ∈ t.sp, s.wd

end Go.VL

namespace Go.VL

open Go.Proofs

structure Mt where
  id : Nat
  level : Int
  st : Int
  en : Int
  pages : Int
  traces : Int
  deriving DecidableEq

abbrev mtC (m : Mt) : List AV := [.int .u64 (m.id : Int), .int .i64 m.level, .int .i64 m.st, .int .i64 m.en, .int .i64 m.pages, .int .i64 m.traces]

/-- do metas rise by Id? -/
abbrev RisM (l : List Mt) : Prop := l.Pairwise fun x y => x.id < y.id

theorem RisM.bad {l : List Mt} {i : Nat} {x y : Mt} (hi : 0 < i) (hx : l[i - 1]? = some x) (hy : l[i]? = some y) (hlt : ¬ x.id < y.id) : ¬ RisM l := fun h => by
  obtain ⟨hil, rfl⟩ := List.getElem?_eq_some_iff.1 hy
  obtain ⟨hil2, rfl⟩ := List.getElem?_eq_some_iff.1 hx
  exact hlt (List.pairwise_iff_getElem.1 h _ _ hil2 hil (by omega))

end Go.VL

namespace Go.VL

open Go.Proofs

abbrev mayM (m : Mt) : Prop := (m.id : Int) ≥ 1 ∧ m.level ≥ 0 ∧ m.level ≤ 10 ∧ m.st ≥ 0 ∧ m.st ≤ m.en ∧ m.en ≤ 1099511627776 ∧ m.pages ≥ 1 ∧ m.pages ≤ 200 ∧ m.traces ≥ m.pages ∧ m.traces ≤ m.pages * 64

set_option maxRecDepth 10000 in
set_option maxHeartbeats 1000000 in
theorem mMay_ok {m : Mt} {σ : St} : ACalls Tryd.prog n_mMay [.agg [.int .u64 (m.id : Int), .int .i64 m.level, .int .i64 m.st, .int .i64 m.en, .int .i64 m.pages, .int .i64 m.traces]] σ (fun v σ' => v = .bool (decide (mayM m)) ∧ σ' = σ) := by
  refine s_mMay (fun wf => ?_)
  unfold c_mMay
  refine T.seq_k (fun K_h0 h0 => ?_)
  refine T.regi hm ?_
  simp only [↓reduceIte, namesOf, List.any, I.names, aopsI, astep, ev, setd, List.set, List.getD, List.getElem?_cons_zero, List.cons_append, List.nil_append, List.length_cons, List.length_nil, List.replicate, then_normal, Option.getD_some, Bool.or_false, Bool.false_eq_true, Nat.reduceAdd, Nat.reduceSub, AV.isAny, AV.cells, eq_self]
  refine h0 _ _ ?_
  try clear h0 K_h0
  have hb : ((σ.up 2).set (σ.next + 0) (.obj [.int .u64 (m.id : Int), .int .i64 m.level, .int .i64 m.st, .int .i64 m.en, .int .i64 m.pages, .int .i64 m.traces])).res (σ.next + 0) = some (.obj [.int .u64 (m.id : Int), .int .i64 m.level, .int .i64 m.st, .int .i64 m.en, .int .i64 m.pages, .int .i64 m.traces]) := St.set_same _ _ _
  have hL : Like σ ((σ.up 2).set (σ.next + 0) (.obj [.int .u64 (m.id : Int), .int .i64 m.level, .int .i64 m.st, .int .i64 m.en, .int .i64 m.pages, .int .i64 m.traces])) := (Like.refl σ).box (n := 2) (i := 0) _
  generalize ((σ.up 2).set (σ.next + 0) (.obj [.int .u64 (m.id : Int), .int .i64 m.level, .int .i64 m.st, .int .i64 m.en, .int .i64 m.pages, .int .i64 m.traces])) = t at hb hL ⊢
  generalize σ.next + 0 = b at hb ⊢
  by_cases c1 : (m.id : Int) ≥ 1
  case neg =>
    have f1 : decide ((m.id : Int) ≥ 1) = false := decide_eq_false c1
    have hm0 : decide (mayM m) = false := decide_eq_false (fun h => c1 h.1)
    refine T.seq_k (fun K_h0 h0 => ?_)
    refine T.regi hm ?_
    simp only [↓reduceIte, namesOf, List.any, I.names, aopsI, astep, ev, setd, List.set, List.getD, List.getElem?_cons_zero, List.getElem?_cons_succ, then_normal, Option.getD_some, Bool.or_false, Bool.false_eq_true, up_zero, binv, ↓opt_def, ldc, eq_self, hb, Nat.zero_add, f1]
    refine h0 _ _ ?_
    try clear h0 K_h0
    exact T.ret (Fin.quiet rfl trivial (hL.quiet wf) ⟨by rw [hm0]; rfl, rfl⟩)
  have f1 : decide ((m.id : Int) ≥ 1) = true := decide_eq_true c1
  by_cases c2 : m.level ≥ 0
  case neg =>
    have f2 : decide (m.level ≥ 0) = false := decide_eq_false c2
    have hm0 : decide (mayM m) = false := decide_eq_false (fun h => c2 h.2.1)
    refine T.seq_k (fun K_h0 h0 => ?_)
    refine T.regi hm ?_
    simp only [↓reduceIte, namesOf, List.any, I.names, aopsI, astep, ev, setd, List.set, List.getD, List.getElem?_cons_zero, List.getElem?_cons_succ, then_normal, Option.getD_some, Bool.or_false, Bool.false_eq_true, up_zero, binv, ↓opt_def, ldc, eq_self, hb, Nat.zero_add, f1, f2]
    refine h0 _ _ ?_
    try clear h0 K_h0
    exact T.ret (Fin.quiet rfl trivial (hL.quiet wf) ⟨by rw [hm0]; rfl, rfl⟩)
  have f2 : decide (m.level ≥ 0) = true := decide_eq_true c2
  by_cases c3 : m.level ≤ 10
  case neg =>
    have f3 : decide (m.level ≤ 10) = false := decide_eq_false c3
    have hm0 : decide (mayM m) = false := decide_eq_false (fun h => c3 h.2.2.1)
    refine T.seq_k (fun K_h0 h0 => ?_)
    refine T.regi hm ?_
    simp only [↓reduceIte, namesOf, List.any, I.names, aopsI, astep, ev, setd, List.set, List.getD, List.getElem?_cons_zero, List.getElem?_cons_succ, then_normal, Option.getD_some, Bool.or_false, Bool.false_eq_true, up_zero, binv, ↓opt_def, ldc, eq_self, hb, Nat.zero_add, f1, f2, f3]
    refine h0 _ _ ?_
    try clear h0 K_h0
    exact T.ret (Fin.quiet rfl trivial (hL.quiet wf) ⟨by rw [hm0]; rfl, rfl⟩)
  have f3 : decide (m.level ≤ 10) = true := decide_eq_true c3
  by_cases c4 : m.st ≥ 0
  case neg =>
    have f4 : decide (m.st ≥ 0) = false := decide_eq_false c4
    have hm0 : decide (mayM m) = false := decide_eq_false (fun h => c4 h.2.2.2.1)
    refine T.seq_k (fun K_h0 h0 => ?_)
    refine T.regi hm ?_
    simp only [↓reduceIte, namesOf, List.any, I.names, aopsI, astep, ev, setd, List.set, List.getD, List.getElem?_cons_zero, List.getElem?_cons_succ, then_normal, Option.getD_some, Bool.or_false, Bool.false_eq_true, up_zero, binv, ↓opt_def, ldc, eq_self, hb, Nat.zero_add, f1, f2, f3, f4]
    refine h0 _ _ ?_
    try clear h0 K_h0
    exact T.ret (Fin.quiet rfl trivial (hL.quiet wf) ⟨by rw [hm0]; rfl, rfl⟩)
  have f4 : decide (m.st ≥ 0) = true := decide_eq_true c4
  by_cases c5 : m.st ≤ m.en
  case neg =>
    have f5 : decide (m.st ≤ m.en) = false := decide_eq_false c5
    have hm0 : decide (mayM m) = false := decide_eq_false (fun h => c5 h.2.2.2.2.1)
    refine T.seq_k (fun K_h0 h0 => ?_)
    refine T.regi hm ?_
    simp only [↓reduceIte, namesOf, List.any, I.names, aopsI, astep, ev, setd, List.set, List.getD, List.getElem?_cons_zero, List.getElem?_cons_succ, then_normal, Option.getD_some, Bool.or_false, Bool.false_eq_true, up_zero, binv, ↓opt_def, ldc, eq_self, hb, Nat.zero_add, f1, f2, f3, f4, f5]
    refine h0 _ _ ?_
    try clear h0 K_h0
    exact T.ret (Fin.quiet rfl trivial (hL.quiet wf) ⟨by rw [hm0]; rfl, rfl⟩)
  have f5 : decide (m.st ≤ m.en) = true := decide_eq_true c5
  by_cases c6 : m.en ≤ 1099511627776
  case neg =>
    have f6 : decide (m.en ≤ 1099511627776) = false := decide_eq_false c6
    have hm0 : decide (mayM m) = false := decide_eq_false (fun h => c6 h.2.2.2.2.2.1)
    refine T.seq_k (fun K_h0 h0 => ?_)
    refine T.regi hm ?_
    simp only [↓reduceIte, namesOf, List.any, I.names, aopsI, astep, ev, setd, List.set, List.getD, List.getElem?_cons_zero, List.getElem?_cons_succ, then_normal, Option.getD_some, Bool.or_false, Bool.false_eq_true, up_zero, binv, ↓opt_def, ldc, eq_self, hb, Nat.zero_add, f1, f2, f3, f4, f5, f6]
    refine h0 _ _ ?_
    try clear h0 K_h0
    exact T.ret (Fin.quiet rfl trivial (hL.quiet wf) ⟨by rw [hm0]; rfl, rfl⟩)
  have f6 : decide (m.en ≤ 1099511627776) = true := decide_eq_true c6
  by_cases c7 : m.pages ≥ 1
  case neg =>
    have f7 : decide (m.pages ≥ 1) = false := decide_eq_false c7
    have hm0 : decide (mayM m) = false := decide_eq_false (fun h => c7 h.2.2.2.2.2.2.1)
    refine T.seq_k (fun K_h0 h0 => ?_)
    refine T.regi hm ?_
    simp only [↓reduceIte, namesOf, List.any, I.names, aopsI, astep, ev, setd, List.set, List.getD, List.getElem?_cons_zero, List.getElem?_cons_succ, then_normal, Option.getD_some, Bool.or_false, Bool.false_eq_true, up_zero, binv, ↓opt_def, ldc, eq_self, hb, Nat.zero_add, f1, f2, f3, f4, f5, f6, f7]
    refine h0 _ _ ?_
    try clear h0 K_h0
    exact T.ret (Fin.quiet rfl trivial (hL.quiet wf) ⟨by rw [hm0]; rfl, rfl⟩)
  have f7 : decide (m.pages ≥ 1) = true := decide_eq_true c7
  by_cases c8 : m.pages ≤ 200
  case neg =>
    have f8 : decide (m.pages ≤ 200) = false := decide_eq_false c8
    have hm0 : decide (mayM m) = false := decide_eq_false (fun h => c8 h.2.2.2.2.2.2.2.1)
    refine T.seq_k (fun K_h0 h0 => ?_)
    refine T.regi hm ?_
    simp only [↓reduceIte, namesOf, List.any, I.names, aopsI, astep, ev, setd, List.set, List.getD, List.getElem?_cons_zero, List.getElem?_cons_succ, then_normal, Option.getD_some, Bool.or_false, Bool.false_eq_true, up_zero, binv, ↓opt_def, ldc, eq_self, hb, Nat.zero_add, f1, f2, f3, f4, f5, f6, f7, f8]
    refine h0 _ _ ?_
    try clear h0 K_h0
    exact T.ret (Fin.quiet rfl trivial (hL.quiet wf) ⟨by rw [hm0]; rfl, rfl⟩)
  have f8 : decide (m.pages ≤ 200) = true := decide_eq_true c8
  by_cases c9 : m.traces ≥ m.pages
  case neg =>
    have f9 : decide (m.traces ≥ m.pages) = false := decide_eq_false c9
    have hm0 : decide (mayM m) = false := decide_eq_false (fun h => c9 h.2.2.2.2.2.2.2.2.1)
    refine T.seq_k (fun K_h0 h0 => ?_)
    refine T.regi hm ?_
    simp only [↓reduceIte, namesOf, List.any, I.names, aopsI, astep, ev, setd, List.set, List.getD, List.getElem?_cons_zero, List.getElem?_cons_succ, then_normal, Option.getD_some, Bool.or_false, Bool.false_eq_true, up_zero, binv, ↓opt_def, ldc, eq_self, hb, Nat.zero_add, f1, f2, f3, f4, f5, f6, f7, f8, f9]
    refine h0 _ _ ?_
    try clear h0 K_h0
    exact T.ret (Fin.quiet rfl trivial (hL.quiet wf) ⟨by rw [hm0]; rfl, rfl⟩)
  have f9 : decide (m.traces ≥ m.pages) = true := decide_eq_true c9
  have hw : IntKind.i64.wrap (m.pages * 64) = m.pages * 64 := wrap64 (by omega) (by omega)
  by_cases c10 : m.traces ≤ m.pages * 64
  case neg =>
    have f10 : decide (m.traces ≤ m.pages * 64) = false := decide_eq_false c10
    have hm0 : decide (mayM m) = false := decide_eq_false (fun h => c10 h.2.2.2.2.2.2.2.2.2)
    refine T.seq_k (fun K_h0 h0 => ?_)
    refine T.regi hm ?_
    simp only [↓reduceIte, namesOf, List.any, I.names, aopsI, astep, ev, setd, List.set, List.getD, List.getElem?_cons_zero, List.getElem?_cons_succ, then_normal, Option.getD_some, Bool.or_false, Bool.false_eq_true, up_zero, binv, ↓opt_def, ldc, eq_self, hb, Nat.zero_add, f1, f2, f3, f4, f5, f6, f7, f8, f9, f10, hw]
    refine h0 _ _ ?_
    try clear h0 K_h0
    exact T.ret (Fin.quiet rfl trivial (hL.quiet wf) ⟨by rw [hm0]; rfl, rfl⟩)
  have f10 : decide (m.traces ≤ m.pages * 64) = true := decide_eq_true c10
  have hm0 : decide (mayM m) = true := decide_eq_true ⟨c1, c2, c3, c4, c5, c6, c7, c8, c9, c10⟩
  refine T.seq_k (fun K_h0 h0 => ?_)
  refine T.regi hm ?_
  simp only [↓reduceIte, namesOf, List.any, I.names, aopsI, astep, ev, setd, List.set, List.getD, List.getElem?_cons_zero, List.getElem?_cons_succ, then_normal, Option.getD_some, Bool.or_false, Bool.false_eq_true, up_zero, binv, ↓opt_def, ldc, eq_self, hb, Nat.zero_add, f1, f2, f3, f4, f5, f6, f7, f8, f9, f10, hw]
  refine h0 _ _ ?_
  try clear h0 K_h0
  exact T.ret (Fin.quiet rfl trivial (hL.quiet wf) ⟨by rw [hm0]; rfl, rfl⟩)

end Go.VL

namespace Go.VL

open Go.Proofs

/-- numbers, each of its own width, one behind the other -/
def wWs (l : List (Nat × Nat)) : List UInt8 := l.flatMap fun p => beB p.1 p.2

theorem wWs_le {l : List (Nat × Nat)} (h : ∀ p ∈ l, p.1 ≤ 8) : (wWs l).length ≤ l.length * 8 := by
  induction l with
  | nil => simp [wWs]
  | cons p l ih =>
    have h1 := ih (fun q hq => h q (List.mem_cons_of_mem _ hq))
    have h2 := h p (by simp)
    simp only [wWs, List.flatMap_cons, List.length_append, List.length_cons, beB_len] at h1 ⊢
    omega

def fwAV (l : List (Nat × Nat)) : List AV := l.map fun p => .agg [.int .i64 (p.1 : Int), .int .u64 (p.2 : Int)]

theorem fw_len (l : List (Nat × Nat)) : (fwAV l).length = l.length := by simp [fwAV]

theorem fw_get {l : List (Nat × Nat)} {i : Nat} {p : Nat × Nat} (h : l[i]? = some p) : (fwAV l)[i]? = some (.agg [.int .i64 (p.1 : Int), .int .u64 (p.2 : Int)]) := by simp [fwAV, h]

set_option maxRecDepth 10000 in
theorem mputT_ok {l : List (Nat × Nat)} {g : Ver} {σ : St} (hl : l.length ≤ 1000) (hw : ∀ p ∈ l, rightB p.1 = true ∧ (p.1 < 8 → p.2 / 256 ^ p.1 = 0)) :
    ACalls Tryd.prog n_mput [.sl (fwAV l) g] σ (fun v σ' => ∃ h, OneTip σ σ' h 1 ∧ v = .tup [.sl (bytesAV (sealB (wWs l))) (.tip h), .nili]) := by
  have hw8 : ∀ p ∈ l, p.1 ≤ 8 := fun p hp => by have := (hw p hp).1; simp [rightB] at this; omega
  have hlen0 : ∀ i, (wWs (l.take i)).length ≤ 8000 := fun i => by
    have := wWs_le (l := l.take i) (fun p hp => hw8 p (List.mem_of_mem_take hp))
    rw [List.length_take] at this; omega
  refine s_mput (fun wf => ?_)
  unfold c_mput
  refine T.seq_k (fun K_h0 h0 => ?_)
  refine T.regi hm ?_
  simp only [↓reduceIte, namesOf, List.any, I.names, aopsI, astep, ev, setd, List.set, List.cons_append, List.nil_append, List.length_cons, List.length_nil, List.replicate, then_normal, Bool.or_false, Bool.false_eq_true, up_zero, Nat.reduceAdd, Nat.reduceSub]
  refine h0 _ _ ?_
  try clear h0 K_h0
  refine T.seq_k (fun K_h0 h0 => ?_)
  refine T.regi hm ?_
  simp only [↓reduceIte, namesOf, List.any, I.names, aopsI, astep, ev, setd, List.set, then_normal, Bool.or_false, Bool.false_eq_true, up_zero]
  refine h0 _ _ ?_
  try clear h0 K_h0
  refine T.seq_k (fun K_h1 h1 => ?_)
  refine T.seq_k (fun K_h0 h0 => ?_)
  refine T.regi hm ?_
  simp only [↓reduceIte, namesOf, List.any, I.names, aopsI, astep, ev, setd, List.set, List.getD, List.getElem?_cons_zero, List.getElem?_cons_succ, then_normal, Option.getD_some, Bool.or_false, Bool.false_eq_true, up_zero, fw_len]
  refine h0 _ _ ?_
  try clear h0 K_h0
  refine T.block ?_
  refine T.gh (Gh.keep [4, 9, 10, 11]) ?_
  refine T.loopi (fun i ρ t => ∃ g2, Like σ t ∧ ρ = [.any, .any, .any, .any, .sl (bytesAV (wWs (l.take i))) g2, .any, .any, .any, .any, .sl (fwAV l) g, .int .i64 (l.length : Int), .int .i64 (i : Int)] ++ List.replicate 19 .any)
    l.length 0 (Nat.zero_le _) ⟨.nil, .refl _, rfl⟩ ?_
  rintro i ρ t hi ⟨g2, hL, rfl⟩
  refine T.seq_k (fun K_h0 h0 => ?_)
  refine T.regi hm ?_
  simp only [↓reduceIte, namesOf, List.any, I.names, aopsI, astep, ev, setd, List.set, List.getD, List.getElem?_cons_zero, List.getElem?_cons_succ, List.cons_append, List.nil_append, List.replicate, then_normal, Option.getD_some, Bool.or_false, Bool.false_eq_true, up_zero, binv, ↓opt_def, lt_len, eq_self]
  refine h0 _ _ ?_
  try clear h0 K_h0
  refine T.seq_k (fun K_h2 h2 => ?_)
  by_cases hil : i < l.length
  case neg =>
    refine T.cond (b := false) (by simp [ev]; omega) (fun h => by cases h) (fun _ => T.exit ?_)
    have hie : i = l.length := by omega
    have hl0 := hlen0 i
    subst hie
    rw [List.take_length] at hl0 ⊢
    try simp only [List.cons_append, List.nil_append, List.replicate, then_normal, inBlock_exit, then_exit]
    refine h1 _ _ ?_
    try clear h1 K_h1
    refine T.seq_k (fun K_h1 h1 => ?_)
    refine T.regi hm ?_
    simp only [↓reduceIte, namesOf, List.any, I.names, aopsI, astep, ev, setd, List.set, List.getD, List.getElem?_cons_zero, List.getElem?_cons_succ, then_normal, Option.getD_some, Bool.or_false, Bool.false_eq_true, up_zero, List.map_cons, List.map_nil]
    refine (cseal_ok (by omega)).mono ?_
    rintro v σ1 ⟨h, o1, rfl⟩
    try simp only [↓reduceIte, namesOf, List.any, I.names, aops, aopsI, aopsT, qstep, CPt, qget, Tbl.get, astep, ev, setd, List.set, List.getD, List.getElem?_cons_zero, List.getElem?_cons_succ, List.getElem?_nil, List.cons_append, List.nil_append, List.length_cons, List.length_nil, List.replicate, then_normal, inBlock_normal, Option.getD_some, Option.getD_none, Bool.or_false, Bool.or_true, Bool.true_or, Bool.false_or, Bool.false_eq_true, if_false, if_true, up_zero, Nat.reduceAdd, Nat.reduceSub, binv, ↓opt_def, AV.isAny, AV.cells, ldc, List.map_cons, List.map_nil, St.set_next, St.set_same, St.up_next, Int.natCast_nonneg, lt_len, le_len, Int.toNat_natCast, true_and, and_true, eq_self, reduceCtorEq, decide_true, List.length_singleton, er_int, er_bool, er_str, srcR, up_zero]
    refine h1 _ _ ?_
    try clear h1 K_h1
    have q1 : Tq σ σ1 h 1 := Tq.trans hL (Tq.one o1)
    exact T.ret (Fin.tip wf rfl q1 ⟨⟨nb_bytes _ _, q1.hi⟩, trivial, trivial⟩ (fun σ' o => ⟨h, o, rfl⟩))
  refine T.cond (b := true) (by simp [ev]; omega) (fun _ => T.skip ?_) (fun h => by cases h)
  refine h2 _ _ ?_
  try clear h2 K_h2
  obtain ⟨p, hn⟩ : ∃ p, l[i]? = some p := ⟨_, List.getElem?_eq_getElem hil⟩
  have hgn := fw_get hn
  have hp := hw p (List.mem_of_getElem? hn)
  have hts : wWs (l.take (i + 1)) = wWs (l.take i) ++ beB p.1 p.2 := by
    rw [List.take_succ_eq_append_getElem hil]
    rw [List.getElem?_eq_getElem hil] at hn
    cases hn
    simp only [wWs, List.flatMap_append, List.flatMap_cons, List.flatMap_nil, List.append_nil]
  have hinc := inc64' hil (by omega)
  have hlen : (wWs (l.take i)).length ≤ 1099511627776 := by have := hlen0 i; omega
  refine T.seq_k (fun K_h3 h3 => ?_)
  refine T.block ?_
  refine T.seq_k (fun K_h0 h0 => ?_)
  refine T.regi hm ?_
  simp only [↓reduceIte, namesOf, List.any, I.names, aopsI, astep, ev, setd, List.set, List.getD, List.getElem?_cons_zero, List.getElem?_cons_succ, List.cons_append, List.nil_append, List.length_cons, List.length_nil, List.replicate, then_normal, Option.getD_some, Bool.or_false, Bool.or_true, Nat.reduceAdd, ↓opt_def, AV.isAny, AV.cells, ldc, St.set_same, Int.natCast_nonneg, lt_len, Int.toNat_natCast, true_and, and_true, eq_self, decide_true, hil, fw_len, hgn, AV.fits, AV.one, List.all_cons, List.all_nil, Nat.reduceBEq, Bool.not_false, Bool.and_self, Nat.zero_add, splice, List.take, List.drop, Nat.reduceLeDiff, St.set_set]
  refine h0 _ _ ?_
  try clear h0 K_h0
  have hb : ((t.up 4).set (t.next + 2) (.obj [.int .i64 (p.1 : Int), .int .u64 (p.2 : Int)])).res (t.next + 2) = some (.obj [.int .i64 (p.1 : Int), .int .u64 (p.2 : Int)]) := St.set_same _ _ _
  have hL1 : Like σ ((t.up 4).set (t.next + 2) (.obj [.int .i64 (p.1 : Int), .int .u64 (p.2 : Int)])) := hL.box (n := 4) (i := 2) _
  generalize ((t.up 4).set (t.next + 2) (.obj [.int .i64 (p.1 : Int), .int .u64 (p.2 : Int)])) = u at hb hL1 ⊢
  generalize t.next + 2 = b at hb ⊢
  refine T.seq_k (fun K_h4 h4 => ?_)
  refine T.regi hm ?_
  simp only [↓reduceIte, namesOf, List.any, I.names, aopsI, astep, ev, setd, List.set, List.getD, List.getElem?_cons_zero, List.getElem?_cons_succ, List.cons_append, List.nil_append, List.replicate, then_normal, Option.getD_some, Bool.or_false, Bool.false_eq_true, up_zero, ↓opt_def, ldc, List.map_cons, List.map_nil, hb, Nat.zero_add]
  refine (wput_ok (w := p.1) (n := p.2) hlen hp.1 hp.2).mono ?_
  rintro v σ1 ⟨h, o1, rfl⟩
  try simp only [List.getElem?_cons_zero, List.getElem?_cons_succ]
  refine h4 _ _ ?_
  try clear h4 K_h4
  have hL2 : Like σ σ1 := hL1.trans (Like.one o1)
  refine T.seq_k (fun K_h4 h4 => ?_)
  refine T.seq_k (fun K_h0 h0 => ?_)
  refine T.regi hm ?_
  simp only [↓reduceIte, namesOf, List.any, I.names, aopsI, astep, ev, setd, List.set, List.getD, List.getElem?_cons_zero, List.getElem?_cons_succ, List.cons_append, List.nil_append, List.replicate, then_normal, Option.getD_some, Bool.or_false, Bool.false_eq_true, up_zero, eq_self, eqIv, bne_self_eq_false]
  refine h0 _ _ ?_
  try clear h0 K_h0
  refine T.cond rfl (fun h => by cases h) (fun _ => T.skip ?_)
  refine h4 _ _ ?_
  try clear h4 K_h4
  refine T.regi hm ?_
  simp only [↓reduceIte, namesOf, List.any, I.names, aopsI, astep, ev, setd, List.set, List.getD, List.getElem?_cons_zero, List.getElem?_cons_succ, List.cons_append, List.nil_append, List.replicate, then_normal, inBlock_normal, Option.getD_some, Bool.or_false, Bool.false_eq_true, up_zero]
  try simp only [↓reduceIte, namesOf, List.any, I.names, aops, aopsI, aopsT, qstep, CPt, qget, Tbl.get, astep, ev, setd, List.set, List.getD, List.getElem?_cons_zero, List.getElem?_cons_succ, List.getElem?_nil, List.cons_append, List.nil_append, List.length_cons, List.length_nil, List.replicate, then_normal, inBlock_normal, Option.getD_some, Option.getD_none, Bool.or_false, Bool.or_true, Bool.true_or, Bool.false_or, Bool.false_eq_true, if_false, if_true, up_zero, Nat.reduceAdd, Nat.reduceSub, binv, ↓opt_def, AV.isAny, AV.cells, ldc, List.map_cons, List.map_nil, St.set_next, St.set_same, St.up_next, Int.natCast_nonneg, lt_len, le_len, Int.toNat_natCast, true_and, and_true, eq_self, reduceCtorEq, decide_true, List.length_singleton, er_int, er_bool, er_str, srcR, inBlock_normal]
  refine h3 _ _ ?_
  try clear h3 K_h3
  refine T.regi hm ?_
  simp only [↓reduceIte, namesOf, List.any, I.names, aopsI, astep, ev, setd, List.set, List.getD, List.getElem?_cons_zero, List.getElem?_cons_succ, List.cons_append, List.nil_append, List.replicate, then_normal, Option.getD_some, Bool.or_false, Bool.false_eq_true, up_zero, binv, ↓opt_def, eq_self, hinc]
  exact ⟨hil, _, _, Gh.keep [4, 9, 10, 11], .tip h, hL2, by rw [hts]; rfl⟩

/-- a meta's fields -/
def mtW (m : Mt) : List (Nat × Nat) := [(8, m.id), (8, m.st.toNat), (8, m.en.toNat), (1, m.level.toNat), (2, m.pages.toNat), (4, m.traces.toNat)]

def metaB (m : Mt) : List UInt8 := sealB (wWs (mtW m))

theorem toN {x : Int} (h : 0 ≤ x) : ((x.toNat : Nat) : Int) = x := Int.toNat_of_nonneg h

theorem u64n {x : Int} (h0 : 0 ≤ x) (h1 : x < 18446744073709551616) : IntKind.u64.wrap x = ((x.toNat : Nat) : Int) := by
  have := u64w (n := x.toNat) (by omega)
  rw [toN h0] at this
  rw [this, toN h0]

set_option maxRecDepth 10000 in
theorem mPutT_ok {m : Mt} {σ : St} (hm0 : mayM m) (hid : m.id < 18446744073709551616) : ACalls Tryd.prog n_mPut [.agg (mtC m)] σ
    (fun v σ' => ∃ h, OneTip σ σ' h 1 ∧ v = .tup [.sl (bytesAV (metaB m)) (.tip h), .nili]) := by
  refine s_mPut (fun wf => ?_)
  unfold c_mPut
  refine T.seq_k (fun K_h0 h0 => ?_)
  refine T.regi hm ?_
  simp only [↓reduceIte, namesOf, List.any, I.names, aopsI, astep, ev, setd, List.set, List.getD, List.getElem?_cons_zero, List.cons_append, List.nil_append, List.length_cons, List.length_nil, List.replicate, then_normal, Option.getD_some, Bool.or_false, Bool.false_eq_true, Nat.reduceAdd, Nat.reduceSub, AV.isAny, AV.cells, eq_self]
  refine h0 _ _ ?_
  try clear h0 K_h0
  have hb : ((σ.up 3).set (σ.next + 0) (.obj (mtC m))).res (σ.next + 0) = some (.obj (mtC m)) := St.set_same _ _ _
  have hL : Like σ ((σ.up 3).set (σ.next + 0) (.obj (mtC m))) := (Like.refl σ).box (n := 3) (i := 0) _
  generalize ((σ.up 3).set (σ.next + 0) (.obj (mtC m))) = t at hb hL ⊢
  generalize σ.next + 0 = b at hb ⊢
  refine T.seq_k (fun K_h1 h1 => ?_)
  refine T.seq_k (fun K_h2 h2 => ?_)
  refine T.regi hm ?_
  simp only [↓reduceIte, namesOf, List.any, I.names, aopsI, astep, ev, setd, List.set, List.getD, List.getElem?_cons_zero, List.getElem?_cons_succ, List.length_cons, List.length_nil, then_normal, Option.getD_some, Bool.or_false, Bool.false_eq_true, up_zero, Nat.reduceAdd, ↓opt_def, ldc, List.map_cons, List.map_nil, hb, Nat.zero_add, Nat.zero_add, List.take, List.drop, Nat.reduceLeDiff]
  refine mMay_ok.mono ?_
  rintro v σ1 ⟨rfl, rfl⟩
  try simp only [decide_eq_true hm0, Bool.not_true]
  refine h2 _ _ ?_
  try clear h2 K_h2
  refine T.cond rfl (fun h => by cases h) (fun _ => T.skip ?_)
  refine h1 _ _ ?_
  try clear h1 K_h1
  obtain ⟨m1, m2, m3, m4, m5, m6, m7, m8, m9, m10⟩ := hm0
  have w3 := u64n (x := m.st) m4 (by omega)
  have w4 := u64n (x := m.en) (by omega) (by omega)
  have w2 := u64n (x := m.level) m2 (by omega)
  have w5 := u64n (x := m.pages) (by omega) (by omega)
  have w6 := u64n (x := m.traces) (by omega) (by omega)
  have hfl : [AV.agg [.int .i64 8, .int .u64 (m.id : Int)], .agg [.int .i64 8, .int .u64 ((m.st.toNat : Nat) : Int)], .agg [.int .i64 8, .int .u64 ((m.en.toNat : Nat) : Int)], .agg [.int .i64 1, .int .u64 ((m.level.toNat : Nat) : Int)], .agg [.int .i64 2, .int .u64 ((m.pages.toNat : Nat) : Int)], .agg [.int .i64 4, .int .u64 ((m.traces.toNat : Nat) : Int)]] = fwAV (mtW m) := rfl
  refine T.seq_k (fun K_h1 h1 => ?_)
  refine T.regi hm ?_
  simp only [↓reduceIte, namesOf, List.any, I.names, aopsI, astep, ev, setd, List.set, List.getD, List.getElem?_cons_zero, List.getElem?_cons_succ, List.cons_append, List.nil_append, List.length_cons, List.length_nil, then_normal, Option.getD_some, Bool.or_false, Bool.false_eq_true, up_zero, Nat.reduceAdd, ↓opt_def, AV.isAny, AV.cells, ldc, List.map_cons, List.map_nil, and_true, eq_self, hb, Nat.zero_add, w2, w3, w4, w5, w6, held, fillA, ↓Option.map_some, hfl, AV.fits, AV.one, List.all_cons, List.all_nil, Nat.reduceBEq, Bool.not_false, Bool.and_self, Nat.zero_add, splice, List.take, List.drop, Nat.reduceLeDiff]
  refine (mputT_ok (l := mtW m) (by simp [mtW]) (fun p hp => ?_)).mono ?_
  · have pw : ∀ n : Nat, n < 256 → n / 256 ^ 1 = 0 := fun n h => Nat.div_eq_of_lt (by omega)
    simp only [mtW, List.mem_cons, List.not_mem_nil, or_false] at hp
    rcases hp with rfl | rfl | rfl | rfl | rfl | rfl
    · exact ⟨rfl, fun h => by simp at h⟩
    · exact ⟨rfl, fun h => by simp at h⟩
    · exact ⟨rfl, fun h => by simp at h⟩
    · exact ⟨rfl, fun _ => Nat.div_eq_of_lt (show m.level.toNat < 256 by omega)⟩
    · exact ⟨rfl, fun _ => Nat.div_eq_of_lt (show m.pages.toNat < 65536 by omega)⟩
    · exact ⟨rfl, fun _ => Nat.div_eq_of_lt (show m.traces.toNat < 4294967296 by omega)⟩
  rintro v σ2 ⟨h, o1, rfl⟩
  try simp only [List.getElem?_cons_zero, List.getElem?_cons_succ]
  refine h1 _ _ ?_
  try clear h1 K_h1
  have q1 : Tq σ σ2 h 1 := Tq.trans hL (Tq.one o1)
  exact T.ret (Fin.tip wf rfl q1 ⟨⟨nb_bytes _ _, q1.hi⟩, trivial, trivial⟩ (fun σ' o => ⟨h, o, rfl⟩))

theorem mPut_no {m : Mt} {σ : St} (hm0 : ¬ mayM m) : ACalls Tryd.prog n_mPut [.agg (mtC m)] σ (fun v σ' => v = .tup [.sl [] .nil, .iface tCode (.int .i64 1)] ∧ σ' = σ) := by
  refine s_mPut (fun wf => ?_)
  unfold c_mPut
  refine T.seq_k (fun K_h0 h0 => ?_)
  refine T.regi hm ?_
  simp only [↓reduceIte, namesOf, List.any, I.names, aopsI, astep, ev, setd, List.set, List.getD, List.getElem?_cons_zero, List.cons_append, List.nil_append, List.length_cons, List.length_nil, List.replicate, then_normal, Option.getD_some, Bool.or_false, Bool.false_eq_true, Nat.reduceAdd, Nat.reduceSub, AV.isAny, AV.cells, eq_self]
  refine h0 _ _ ?_
  try clear h0 K_h0
  have hb : ((σ.up 3).set (σ.next + 0) (.obj (mtC m))).res (σ.next + 0) = some (.obj (mtC m)) := St.set_same _ _ _
  have hL : Like σ ((σ.up 3).set (σ.next + 0) (.obj (mtC m))) := (Like.refl σ).box (n := 3) (i := 0) _
  generalize ((σ.up 3).set (σ.next + 0) (.obj (mtC m))) = t at hb hL ⊢
  generalize σ.next + 0 = b at hb ⊢
  refine T.seq_k (fun K_h1 h1 => ?_)
  refine T.seq_k (fun K_h2 h2 => ?_)
  refine T.regi hm ?_
  simp only [↓reduceIte, namesOf, List.any, I.names, aopsI, astep, ev, setd, List.set, List.getD, List.getElem?_cons_zero, List.getElem?_cons_succ, List.length_cons, List.length_nil, then_normal, Option.getD_some, Bool.or_false, Bool.false_eq_true, up_zero, Nat.reduceAdd, ↓opt_def, ldc, List.map_cons, List.map_nil, hb, Nat.zero_add, Nat.zero_add, List.take, List.drop, Nat.reduceLeDiff]
  refine mMay_ok.mono ?_
  rintro v σ1 ⟨rfl, rfl⟩
  try simp only [decide_eq_false hm0, Bool.not_false]
  refine h2 _ _ ?_
  try clear h2 K_h2
  refine T.cond rfl (fun _ => ?_) (fun h => by cases h)
  refine T.seq_k (fun K_h0 h0 => ?_)
  refine T.regi hm ?_
  simp only [↓reduceIte, namesOf, List.any, I.names, aopsI, astep, ev, setd, List.set, List.getD, List.getElem?_cons_zero, List.getElem?_cons_succ, then_normal, Option.getD_some, Bool.or_false, Bool.false_eq_true, up_zero]
  refine h0 _ _ ?_
  try clear h0 K_h0
  exact T.ret (Fin.quiet rfl ⟨⟨trivial, trivial⟩, trivial, trivial⟩ (hL.quiet wf) ⟨rfl, rfl⟩)

end Go.VL

namespace Go.VL

open Go.Proofs

set_option maxRecDepth 10000 in
theorem up13_ok {σ : St} (hT : Tabs σ) (hE : Errs σ) : ACalls Tryd.prog n_up13 [] σ (fun v σ' => v = .bool true ∧ σ' = σ) := by
  refine s_up13 (fun wf => ?_)
  unfold c_up13
  have hl : (⟨#[98, 47, 48, 48, 48, 48, 48, 48, 48, 48, 48, 48, 48, 48, 48, 48, 102, 102, 47, 109]⟩ : ByteArray) = ⟨(nmF 255 [109] 0).toArray⟩ := by decide +kernel
  have hV : V3 255 [109] 0 := ⟨by omega, .inr ⟨.inl rfl, rfl⟩⟩
  refine T.seq_k (fun K_h0 h0 => ?_)
  refine T.regi hm ?_
  simp only [↓reduceIte, namesOf, List.any, I.names, aopsI, astep, ev, setd, List.set, List.nil_append, List.length_nil, List.replicate, then_normal, Bool.or_false, Bool.false_eq_true, up_zero, Nat.reduceSub]
  refine h0 _ _ ?_
  try clear h0 K_h0
  refine T.seq_k (fun K_h1 h1 => ?_)
  refine T.regi hm ?_
  simp only [↓reduceIte, namesOf, List.any, I.names, aopsI, astep, ev, setd, List.set, List.getD, List.getElem?_cons_zero, List.getElem?_cons_succ, then_normal, Option.getD_some, Bool.or_false, Bool.false_eq_true, up_zero, ↓opt_def, List.map_cons, List.map_nil]
  rw [hl]
  refine (mParse_ok hT hE (by rw [nmp_len (.inr (.inl rfl))]; decide)).mono ?_
  rintro v σ1 ⟨rfl, hv⟩
  obtain rfl := hv.uniq (.inl ⟨255, [109], 0, hV, rfl, rfl⟩)
  try simp only [List.getElem?_cons_zero, List.getElem?_cons_succ]
  refine h1 _ _ ?_
  try clear h1 K_h1
  have hz : [AV.int .u64 0, .int .i64 0, .int .i64 0, .int .i64 0, .int .i64 0, .int .i64 0] = mtC ⟨0, 0, 0, 0, 0, 0⟩ := rfl
  have hno : ¬ mayM ⟨0, 0, 0, 0, 0, 0⟩ := by decide
  have ee : eqIv false [(tCode, .i64)] (.iface tCode (.int .i64 1)) (.iface tCode (.int .i64 1)) = some true := rfl
  have q1 : ∀ s : ByteArray, sbinv .eql s s = some (.bool true) := fun s => by simp [sbinv]
  have e255 : (((255 : Nat) : Int) == 255) = true := rfl
  refine T.seq_k (fun K_h1 h1 => ?_)
  refine T.regi hm ?_
  simp only [↓reduceIte, namesOf, List.any, I.names, aopsI, astep, ev, setd, List.set, List.getD, List.getElem?_cons_zero, List.getElem?_cons_succ, then_normal, Option.getD_some, Bool.or_false, Bool.false_eq_true, up_zero, ↓opt_def, List.map_cons, List.map_nil, fillA, ↓Option.map_some, hz]
  refine (mPut_no hno).mono ?_
  rintro v σ ⟨rfl, rfl⟩
  try simp only [List.getElem?_cons_zero, List.getElem?_cons_succ]
  refine h1 _ _ ?_
  try clear h1 K_h1
  have hnm := mName_ok (id := 255) (what := [109]) (page := 0) (σ := σ) hT (by omega) (by omega) (by simp)
  refine T.seq_k (fun K_h1 h1 => ?_)
  refine T.regt hm (tbl := []) Tbl.ok_nil ?_
  refine aopsT_cut 1 (fun K_c h_c => ?_)
  try simp only [↓reduceIte, namesOf, List.any, I.names, aopsT, qstep, CPt, Tbl.get, astep, ev, setd, List.set, Bool.or_false, Bool.false_eq_true, up_zero, List.map_cons, List.map_nil, List.take_succ_cons, List.take_zero, up_zero]
  refine (hnm).mono ?_
  rintro _ _ ⟨rfl, rfl⟩
  refine h_c _ _ ?_
  clear h_c K_c
  simp only [List.drop_succ_cons, List.drop_zero, Nat.zero_add]
  try simp only [↓reduceIte, namesOf, List.any, I.names, aops, aopsI, aopsT, qstep, CPt, qget, Tbl.get, astep, ev, setd, List.set, List.getD, List.getElem?_cons_zero, List.getElem?_cons_succ, List.getElem?_nil, List.cons_append, List.nil_append, List.length_cons, List.length_nil, List.replicate, then_normal, inBlock_normal, Option.getD_some, Option.getD_none, Bool.or_false, Bool.or_true, Bool.true_or, Bool.false_or, Bool.false_eq_true, if_false, if_true, up_zero, Nat.reduceAdd, Nat.reduceSub, binv, ↓opt_def, AV.isAny, AV.cells, ldc, List.map_cons, List.map_nil, St.set_next, St.set_same, St.up_next, Int.natCast_nonneg, lt_len, le_len, Int.toNat_natCast, true_and, and_true, eq_self, reduceCtorEq, decide_true, List.length_singleton, er_int, er_bool, er_str, srcR, up_zero, q1, ee, e255, bne_self_eq_false, Bool.bne_false]
  refine h1 _ _ ?_
  try clear h1 K_h1
  exact T.ret (Fin.ret rfl ⟨rfl, rfl⟩)

end Go.VL

namespace Go.VL

open Go.Proofs

/-- a slice that began as nil, and was appended to: nothing yet, or a named end; what was there ahead of it is as it was -/
def AccG (σ t : St) (k : Nat) (xs : List AV) (x : AV) : Option Nat → Prop
  | none => x = .sl [] .nil ∧ xs = [] ∧ Like σ t
  | some g => x = .sl xs (.tip g) ∧ Tq σ t g k

section

variable {σ t u : St} {k : Nat} {xs : List AV} {x : AV} {G : Option Nat}

theorem AccG.like (h : AccG σ t k xs x G) : Like σ t := by
  cases G with
  | none => exact h.2.2
  | some g => exact h.2.like

theorem AccG.nil (h : Like σ t) : AccG σ t k [] (.sl [] .nil) none := ⟨rfl, rfl, h⟩

theorem AccG.ex (h : AccG σ t k xs x G) : ∃ v, x = .sl xs v := by
  cases G with
  | none => obtain ⟨h1, h2, _⟩ := h; subst h2; exact ⟨_, h1⟩
  | some g => exact ⟨_, h.1⟩

theorem AccG.up (h : AccG σ t k xs x G) (n : Nat) : AccG σ (t.up n) k xs x G := by
  cases G with
  | none => exact ⟨h.1, h.2.1, h.2.2.up n⟩
  | some g => exact ⟨h.1, h.2.up n⟩

theorem AccG.lt (h : AccG σ t k xs x G) : ∀ g, G = some g → σ.next ≤ g ∧ g < t.next := by
  rintro g rfl
  exact ⟨h.2.lo, h.2.hi⟩

theorem AccG.keep (h : AccG σ t k xs x G) (hn : t.next ≤ u.next) (hs : ∀ m, m < σ.next → u.res m = t.res m) (hg : ∀ g, G = some g → u.res g = t.res g) : AccG σ u k xs x G := by
  have hl : Like σ u := ⟨Nat.le_trans h.like.next hn, fun m hm => (hs m hm).trans (h.like.same m hm)⟩
  cases G with
  | none => exact ⟨h.1, h.2.1, hl⟩
  | some g => exact ⟨h.1, hl, by rw [hg g rfl]; exact h.2.at_, h.2.lo, Nat.lt_of_lt_of_le h.2.hi hn⟩

theorem AccG.set (h : AccG σ t k xs x G) {a : Nat} (r : Res) (ha : σ.next ≤ a) (hg : ∀ g, G = some g → a ≠ g) : AccG σ (t.set a r) k xs x G :=
  h.keep (Nat.le_refl _) (fun m hm => St.set_other _ _ (by omega)) (fun g e => St.set_other _ _ (Ne.symm (hg g e)))

theorem AccG.box (h : AccG σ t k xs x G) {n i : Nat} (hi : i < n) (r : Res) : AccG σ ((t.up n).set (t.next + i) r) k xs x G :=
  (h.up n).set r (by have := h.like.next; omega) (fun g e => by have := (h.lt g e).2; omega)

theorem AccG.quiet (wf : WF σ) (h : AccG σ t k xs x G) : ∀ n r, σ.res n = some r → t.res n = some r := h.like.quiet wf

theorem AccG.wk (h : AccG σ t k xs x G) : Wk x (.sl xs .none) := by
  obtain ⟨v, rfl⟩ := h.ex
  exact .sl _ _

end

end Go.VL

namespace Go.VL

open Go.Proofs

/-- what a store holds: names, and bytes -/
abbrev Objs := List (ByteArray × List UInt8)

def objsAV (L : Objs) : List (AV × AV) := L.map fun e => (.str e.1, .sl (bytesAV e.2) .none)

/-- a store stands at p, its map at m -/
structure StS (σ : St) (p m : Nat) (room left calls : Int) (L : Objs) : Prop where
  obj : σ.res p = some (.obj [.int .i64 room, .map m, .int .i64 left, .int .i64 calls])
  map : ∃ ts clk, σ.res m = some (.map (objsAV L) ts clk) ∧ ts.length = L.length ∧ ts.Nodup ∧ ∀ t ∈ ts, t < clk
  ne : p ≠ m

theorem StS.mono {σ σ' : St} {p m : Nat} {room left calls : Int} {L : Objs} (h : StS σ p m room left calls L) (ho : ∀ n x, σ.res n = some x → σ'.res n = some x) : StS σ' p m room left calls L := by
  obtain ⟨ts, clk, h1, h2⟩ := h.map
  exact ⟨ho _ _ h.obj, ⟨ts, clk, ho _ _ h1, h2⟩, h.ne⟩

end Go.VL

namespace Go.VL

open Go.Proofs

/-- an owned row that comes back, told to be a value -/
theorem Gv.freeze {σ0 σ : St} {n off len k : Nat} {cs xs : List AV} (hr : σ.res n = some (.obj cs)) (hlen : xs.length = len) (hk : ∀ x ∈ xs, x.cells.length = k)
    (hx : xs.flatMap AV.cells = (cs.drop off).take (len * k)) : Gv σ0 (.ref n off len) σ (.sl xs .none) (σ.del n) := by
  intro κ0 w0 B0 F0 F κ w v h0 hR he hd hn hv
  obtain ⟨hdm, us, rest, ty, fz, h1, h2, h3, h4, _⟩ := hR.own n _ hr
  have e : Ext κ w { κ with I := fun b o => κ.I b o ∨ (b = κ.φ n ∧ o < us.length) } w := ⟨fun _ _ x => .inl x, fun _ _ => rfl, fun _ _ => rfl, fun _ _ => rfl, fun _ _ => rfl, fun _ x => x, fun _ _ _ => rfl⟩
  have hlt := hR.lt hr
  have hR' : R w0.heap.size F { κ with I := fun b o => κ.I b o ∨ (b = κ.φ n ∧ o < us.length) } w (σ.del n) := by
    refine hR.step e (fun m hm => hR.dom m hm) (fun b o hi => ?_) (fun m r hm => ?_)
    · rcases hi with hi | ⟨rfl, _⟩
      · exact hR.imm b o hi
      · exact hlt
    · have hmn : m ≠ n := by intro e; subst e; simp [St.del] at hm
      have hm' : σ.res m = some r := by simpa [St.del, hmn] using hm
      refine .inl ⟨hm', rfl, fun o hi => ?_⟩
      rcases hi with hi | ⟨hx, _⟩
      · exact hi
      · exact absurd (hR.apart _ _ _ _ hm' hr hx) hmn
  obtain ⟨cap, rfl, hcap, _⟩ := hv.ref_inv
  refine ⟨_, hR', he.trans e, hd, hn, ?_⟩
  rw [← hlen]
  refine .sl _ _ cap k xs hk (by rw [hlen]; exact hcap) ?_
  rw [hx]
  refine Vs.mk (us := (us.drop off).take (len * k)) (((h3.mono e).drop off).take _) (fun i u hu => ?_)
  have hu2 : us[off + i]? = some u := by
    rw [List.getElem?_take] at hu
    split at hu
    · simpa using hu
    · cases hu
  have hil : off + i < us.length := (List.getElem?_eq_some_iff.1 hu2).1
  exact ⟨.inr ⟨rfl, hil⟩, by rw [cell_of h1, List.getElem?_append_left hil]; exact hu2⟩

/-- all else is as it was -/
structure Nx (σ σ' : St) (p m : Nat) : Prop where
  next : σ.next ≤ σ'.next
  old : ∀ n x, n ≠ p → n ≠ m → σ.res n = some x → σ'.res n = some x

theorem Nx.refl (σ : St) (p m : Nat) : Nx σ σ p m := ⟨Nat.le_refl _, fun _ _ _ _ h => h⟩

theorem Nx.trans {σ σ1 σ2 : St} {p m : Nat} (h : Nx σ σ1 p m) (k : Nx σ1 σ2 p m) : Nx σ σ2 p m := ⟨Nat.le_trans h.next k.next, fun n x h1 h2 h3 => k.old n x h1 h2 (h.old n x h1 h2 h3)⟩

theorem Nx.set {σ : St} {p m : Nat} (r : Res) : Nx σ (σ.set p r) p m := ⟨Nat.le_refl _, fun n x h1 _ h3 => by rw [St.set_other _ _ h1]; exact h3⟩

end Go.VL

namespace Go.VL

open Go.Proofs

/-- a deed -/
structure Dd where
  what : Int
  name : ByteArray
  n : Int
  x : Int
  b : List UInt8

def Dd.av (d : Dd) : AV := .agg [.int .i64 d.what, .str d.name, .int .i64 d.n, .int .u8 d.x, .sl (bytesAV d.b) .none]

def Dd.ok (d : Dd) : Prop := (-9223372036854775808 ≤ d.what ∧ d.what ≤ 9223372036854775807) ∧ (-9223372036854775808 ≤ d.n ∧ d.n ≤ 9223372036854775807) ∧ (0 ≤ d.x ∧ d.x ≤ 255) ∧ d.name.size ≤ 9223372036854775807 ∧ d.b.length ≤ 9223372036854775807

end Go.VL

namespace Go.VL

open Go.Proofs

/-- all but two things is as it was -/
structure Two (σ t : St) (p q : Nat) : Prop where
  next : t.next = σ.next
  same : ∀ n, n ≠ p → n ≠ q → t.res n = σ.res n

theorem Two.refl (σ : St) (p q : Nat) : Two σ σ p q := ⟨rfl, fun _ _ _ => rfl⟩

theorem Two.step {σ t : St} {p q : Nat} (h : Two σ t p q) (hne : p ≠ q) (a b : Res) : Two σ ((t.set p a).set q b) p q ∧ ((t.set p a).set q b).res p = some a ∧ ((t.set p a).set q b).res q = some b :=
  ⟨⟨h.next, fun n h1 h2 => by rw [St.set_other _ _ h2, St.set_other _ _ h1]; exact h.same n h1 h2⟩, by rw [St.set_other _ _ hne]; exact St.set_same _ _ _, St.set_same _ _ _⟩

def rm1 (l : List UInt8) : Rs := rN l r0 8

def rm2 (l : List UInt8) : Rs := rN l (rm1 l) 8

def rm3 (l : List UInt8) : Rs := rN l (rm2 l) 8

def rm4 (l : List UInt8) : Rs := rN l (rm3 l) 1

def rm5 (l : List UInt8) : Rs := rN l (rm4 l) 2

def rm6 (l : List UInt8) : Rs := rN l (rm5 l) 4

/-- the meta that bytes tell, whatever they are -/
def readM (l : List UInt8) : Mt := ⟨rW l r0 8, IntKind.i64.wrap (rW l (rm3 l) 1 : Nat), IntKind.i64.wrap (rW l (rm1 l) 8 : Nat), IntKind.i64.wrap (rW l (rm2 l) 8 : Nat), IntKind.i64.wrap (rW l (rm4 l) 2 : Nat), IntKind.i64.wrap (rW l (rm5 l) 4 : Nat)⟩

abbrev mZ : Mt := ⟨0, 0, 0, 0, 0, 0⟩

theorem rm_end {l : List UInt8} : (31 ≤ l.length → rm6 l = ⟨31, -1⟩) ∧ (l.length < 31 → 0 ≤ (rm6 l).bad) := by
  have go : ∀ (s : Rs) (w : Nat), (s.bad = -1 → s.at_ + w ≤ l.length → rN l s w = ⟨s.at_ + w, -1⟩) ∧ ((0 ≤ s.bad ∨ (s.bad = -1 ∧ 0 ≤ s.at_ ∧ (l.length : Int) < s.at_ + w)) → 0 ≤ (rN l s w).bad) := by
    intro s w
    refine ⟨fun h1 h2 => ?_, fun h => ?_⟩
    · unfold rN; rw [if_pos (by unfold rT; rw [decide_eq_true_eq]; exact ⟨h1, by omega⟩), h1]
    · unfold rN
      rw [if_neg (by unfold rT; rw [decide_eq_true_eq]; omega)]
      simp only [rF]
      split <;> omega
  constructor
  · intro h
    have a1 : rm1 l = ⟨8, -1⟩ := (go r0 8).1 rfl (by simp [r0]; omega)
    have a2 : rm2 l = ⟨16, -1⟩ := by unfold rm2; rw [a1]; exact (go _ 8).1 rfl (by simp; omega)
    have a3 : rm3 l = ⟨24, -1⟩ := by unfold rm3; rw [a2]; exact (go _ 8).1 rfl (by simp; omega)
    have a4 : rm4 l = ⟨25, -1⟩ := by unfold rm4; rw [a3]; exact (go _ 1).1 rfl (by simp; omega)
    have a5 : rm5 l = ⟨27, -1⟩ := by unfold rm5; rw [a4]; exact (go _ 2).1 rfl (by simp; omega)
    unfold rm6; rw [a5]; exact (go _ 4).1 rfl (by simp; omega)
  · intro h
    have st : ∀ (s : Rs) (w : Nat) (e : Int), (0 ≤ s.bad ∨ s = ⟨e, -1⟩) → 0 ≤ e → (0 ≤ (rN l s w).bad ∨ rN l s w = ⟨e + w, -1⟩) ∧ ((l.length : Int) < e + w → 0 ≤ (rN l s w).bad) := by
      intro s w e hs he
      rcases hs with hs | rfl
      · exact ⟨.inl ((go s w).2 (.inl hs)), fun _ => (go s w).2 (.inl hs)⟩
      · refine ⟨?_, fun hl => (go _ w).2 (.inr ⟨rfl, he, hl⟩)⟩
        by_cases hl : e + w ≤ (l.length : Int)
        · exact .inr ((go ⟨e, -1⟩ w).1 rfl hl)
        · exact .inl ((go ⟨e, -1⟩ w).2 (.inr ⟨rfl, he, by simp only; omega⟩))
    have a1 := (st r0 8 0 (.inr rfl) (by omega)).1
    have a2 := (st _ 8 _ a1 (by omega)).1
    have a3 := (st _ 8 _ a2 (by omega)).1
    have a4 := (st _ 1 _ a3 (by omega)).1
    have a5 := (st _ 2 _ a4 (by omega)).1
    exact (st _ 4 _ a5 (by omega)).2 (by omega)

/-- the meta of bytes, and an error's number -/
def metaGF (x : List UInt8) : Mt × Int :=
  if (openB x).1 ≠ 0 then (mZ, (openB x).1) else if (openB x).2.length = 31 ∧ mayM (readM (openB x).2) then (readM (openB x).2, 0) else (mZ, 2)

set_option maxRecDepth 10000 in
set_option maxHeartbeats 1000000 in
theorem mGet1_ok {l : List UInt8} {p q : Nat} {σ : St} (hl : l.length ≤ 1099511627776) (hne : p ≠ q) (hp : σ.res p = some (rdS l .none r0)) (hq : σ.res q = some (.obj (mtC mZ))) :
    ACalls Tryd.prog n_mGet1 [.ptr p 0, .ptr q 0] σ (fun v σ' => v = .bool (decide (mayM (readM l))) ∧ Two σ σ' p q ∧ σ'.res p = some (rdS l .none (rm6 l)) ∧ σ'.res q = some (.obj (mtC (readM l)))) := by
  refine s_mGet1 (fun wf => ?_)
  unfold c_mGet1
  have o0 := Rs.ok_r0 hl
  have o1 : (rm1 l).ok l := rN_ok o0
  have o2 : (rm2 l).ok l := rN_ok o1
  have o3 : (rm3 l).ok l := rN_ok o2
  have o4 : (rm4 l).ok l := rN_ok o3
  have o5 : (rm5 l).ok l := rN_ok o4
  have T0 := Two.refl σ p q
  have ho : ∀ (t : St) (r : Res), (t.set p r).res q = t.res q := fun t r => St.set_other _ _ (Ne.symm hne)
  generalize hσ : σ = t at hp hq T0
  have hT0 : Two σ t p q := by rw [hσ]; exact Two.refl _ _ _
  clear T0
  have e1 : rN l r0 8 = rm1 l := rfl
  have e2 : rN l (rm1 l) 8 = rm2 l := rfl
  have e3 : rN l (rm2 l) 8 = rm3 l := rfl
  have e4 : rN l (rm3 l) 1 = rm4 l := rfl
  have e5 : rN l (rm4 l) 2 = rm5 l := rfl
  have e6 : rN l (rm5 l) 4 = rm6 l := rfl
  have hrM : readM l = ⟨rW l r0 8, IntKind.i64.wrap (rW l (rm3 l) 1 : Nat), IntKind.i64.wrap (rW l (rm1 l) 8 : Nat), IntKind.i64.wrap (rW l (rm2 l) 8 : Nat), IntKind.i64.wrap (rW l (rm4 l) 2 : Nat), IntKind.i64.wrap (rW l (rm5 l) 4 : Nat)⟩ := rfl
  refine T.seq_k (fun K_h0 h0 => ?_)
  refine T.regi hm ?_
  simp only [↓reduceIte, namesOf, List.any, I.names, aopsI, astep, ev, setd, List.set, List.cons_append, List.nil_append, List.length_cons, List.length_nil, List.replicate, then_normal, Bool.or_false, Bool.false_eq_true, up_zero, Nat.reduceAdd, Nat.reduceSub]
  refine h0 _ _ ?_
  try clear h0 K_h0
  -- Id
  refine T.seq_k (fun K_h1 h1 => ?_)
  refine T.regi hm ?_
  simp only [↓reduceIte, namesOf, List.any, I.names, aopsI, astep, ev, setd, List.set, List.getD, List.getElem?_cons_zero, List.getElem?_cons_succ, then_normal, Option.getD_some, Bool.or_false, Bool.false_eq_true, up_zero, Nat.reduceAdd, AV.cells, List.map_cons, List.map_nil]
  refine (wwordF (w := 8) o0 rfl hp).mono ?_
  rintro v σ1 ⟨rfl, rfl⟩
  rw [e1]
  try simp only [↓reduceIte, List.cons_append, List.nil_append, List.length_cons, List.length_nil, Nat.reduceAdd, AV.isAny, AV.cells, eq_self, decide_true, ho, hq, AV.fits, AV.one, List.all_cons, List.all_nil, Nat.reduceBEq, Bool.not_false, Bool.and_self, Nat.zero_add, splice, List.take, List.drop, Nat.reduceLeDiff]
  generalize rW l r0 8 = x1 at hrM ⊢
  obtain ⟨T1, hp1, hq1⟩ := hT0.step hne (rdS l .none (rm1 l)) (.obj [.int .u64 (x1 : Int), .int .i64 0, .int .i64 0, .int .i64 0, .int .i64 0, .int .i64 0])
  generalize ((t.set p (rdS l .none (rm1 l))).set q (.obj [.int .u64 (x1 : Int), .int .i64 0, .int .i64 0, .int .i64 0, .int .i64 0, .int .i64 0])) = t1 at T1 hp1 hq1 ⊢
  clear hp hq hT0
  refine h1 _ _ ?_
  try clear h1 K_h1
  -- Start
  refine T.seq_k (fun K_h1 h1 => ?_)
  refine T.regi hm ?_
  simp only [↓reduceIte, namesOf, List.any, I.names, aopsI, astep, ev, setd, List.set, List.getD, List.getElem?_cons_zero, List.getElem?_cons_succ, then_normal, Option.getD_some, Bool.or_false, Bool.false_eq_true, up_zero, Nat.reduceAdd, AV.cells, List.map_cons, List.map_nil]
  refine (wwordF (w := 8) o1 rfl hp1).mono ?_
  rintro v σ1 ⟨rfl, rfl⟩
  rw [e2]
  generalize hy : IntKind.i64.wrap (rW l (rm1 l) 8 : Nat) = x2 at hrM
  try simp only [↓reduceIte, List.cons_append, List.nil_append, List.length_cons, List.length_nil, Nat.reduceAdd, AV.isAny, AV.cells, eq_self, decide_true, ho, hq1, hy, AV.fits, AV.one, List.all_cons, List.all_nil, Nat.reduceBEq, Bool.not_false, Bool.and_self, Nat.zero_add, splice, List.take, List.drop, Nat.reduceLeDiff]
  clear hy
  obtain ⟨T2, hp2, hq2⟩ := T1.step hne (rdS l .none (rm2 l)) (.obj [.int .u64 (x1 : Int), .int .i64 0, .int .i64 x2, .int .i64 0, .int .i64 0, .int .i64 0])
  generalize ((t1.set p (rdS l .none (rm2 l))).set q (.obj [.int .u64 (x1 : Int), .int .i64 0, .int .i64 x2, .int .i64 0, .int .i64 0, .int .i64 0])) = t2 at T2 hp2 hq2 ⊢
  clear T1 hp1 hq1
  refine h1 _ _ ?_
  try clear h1 K_h1
  -- End
  refine T.seq_k (fun K_h1 h1 => ?_)
  refine T.regi hm ?_
  simp only [↓reduceIte, namesOf, List.any, I.names, aopsI, astep, ev, setd, List.set, List.getD, List.getElem?_cons_zero, List.getElem?_cons_succ, then_normal, Option.getD_some, Bool.or_false, Bool.false_eq_true, up_zero, Nat.reduceAdd, AV.cells, List.map_cons, List.map_nil]
  refine (wwordF (w := 8) o2 rfl hp2).mono ?_
  rintro v σ1 ⟨rfl, rfl⟩
  rw [e3]
  generalize hy : IntKind.i64.wrap (rW l (rm2 l) 8 : Nat) = x3 at hrM
  try simp only [↓reduceIte, List.cons_append, List.nil_append, List.length_cons, List.length_nil, Nat.reduceAdd, AV.isAny, AV.cells, eq_self, decide_true, ho, hq2, hy, AV.fits, AV.one, List.all_cons, List.all_nil, Nat.reduceBEq, Bool.not_false, Bool.and_self, Nat.zero_add, splice, List.take, List.drop, Nat.reduceLeDiff]
  clear hy
  obtain ⟨T3, hp3, hq3⟩ := T2.step hne (rdS l .none (rm3 l)) (.obj [.int .u64 (x1 : Int), .int .i64 0, .int .i64 x2, .int .i64 x3, .int .i64 0, .int .i64 0])
  generalize ((t2.set p (rdS l .none (rm3 l))).set q (.obj [.int .u64 (x1 : Int), .int .i64 0, .int .i64 x2, .int .i64 x3, .int .i64 0, .int .i64 0])) = t3 at T3 hp3 hq3 ⊢
  clear T2 hp2 hq2
  refine h1 _ _ ?_
  try clear h1 K_h1
  -- Level
  refine T.seq_k (fun K_h1 h1 => ?_)
  refine T.regi hm ?_
  simp only [↓reduceIte, namesOf, List.any, I.names, aopsI, astep, ev, setd, List.set, List.getD, List.getElem?_cons_zero, List.getElem?_cons_succ, then_normal, Option.getD_some, Bool.or_false, Bool.false_eq_true, up_zero, Nat.reduceAdd, AV.cells, List.map_cons, List.map_nil]
  refine (wwordF (w := 1) o3 rfl hp3).mono ?_
  rintro v σ1 ⟨rfl, rfl⟩
  rw [e4]
  generalize hy : IntKind.i64.wrap (rW l (rm3 l) 1 : Nat) = x4 at hrM
  try simp only [↓reduceIte, List.cons_append, List.nil_append, List.length_cons, List.length_nil, Nat.reduceAdd, AV.isAny, AV.cells, eq_self, decide_true, ho, hq3, hy, AV.fits, AV.one, List.all_cons, List.all_nil, Nat.reduceBEq, Bool.not_false, Bool.and_self, Nat.zero_add, splice, List.take, List.drop, Nat.reduceLeDiff]
  clear hy
  obtain ⟨T4, hp4, hq4⟩ := T3.step hne (rdS l .none (rm4 l)) (.obj [.int .u64 (x1 : Int), .int .i64 x4, .int .i64 x2, .int .i64 x3, .int .i64 0, .int .i64 0])
  generalize ((t3.set p (rdS l .none (rm4 l))).set q (.obj [.int .u64 (x1 : Int), .int .i64 x4, .int .i64 x2, .int .i64 x3, .int .i64 0, .int .i64 0])) = t4 at T4 hp4 hq4 ⊢
  clear T3 hp3 hq3
  refine h1 _ _ ?_
  try clear h1 K_h1
  -- Pages
  refine T.seq_k (fun K_h1 h1 => ?_)
  refine T.regi hm ?_
  simp only [↓reduceIte, namesOf, List.any, I.names, aopsI, astep, ev, setd, List.set, List.getD, List.getElem?_cons_zero, List.getElem?_cons_succ, then_normal, Option.getD_some, Bool.or_false, Bool.false_eq_true, up_zero, Nat.reduceAdd, AV.cells, List.map_cons, List.map_nil]
  refine (wwordF (w := 2) o4 rfl hp4).mono ?_
  rintro v σ1 ⟨rfl, rfl⟩
  rw [e5]
  generalize hy : IntKind.i64.wrap (rW l (rm4 l) 2 : Nat) = x5 at hrM
  try simp only [↓reduceIte, List.cons_append, List.nil_append, List.length_cons, List.length_nil, Nat.reduceAdd, AV.isAny, AV.cells, eq_self, decide_true, ho, hq4, hy, AV.fits, AV.one, List.all_cons, List.all_nil, Nat.reduceBEq, Bool.not_false, Bool.and_self, Nat.zero_add, splice, List.take, List.drop, Nat.reduceLeDiff]
  clear hy
  obtain ⟨T5, hp5, hq5⟩ := T4.step hne (rdS l .none (rm5 l)) (.obj [.int .u64 (x1 : Int), .int .i64 x4, .int .i64 x2, .int .i64 x3, .int .i64 x5, .int .i64 0])
  generalize ((t4.set p (rdS l .none (rm5 l))).set q (.obj [.int .u64 (x1 : Int), .int .i64 x4, .int .i64 x2, .int .i64 x3, .int .i64 x5, .int .i64 0])) = t5 at T5 hp5 hq5 ⊢
  clear T4 hp4 hq4
  refine h1 _ _ ?_
  try clear h1 K_h1
  -- Traces
  refine T.seq_k (fun K_h1 h1 => ?_)
  refine T.regi hm ?_
  simp only [↓reduceIte, namesOf, List.any, I.names, aopsI, astep, ev, setd, List.set, List.getD, List.getElem?_cons_zero, List.getElem?_cons_succ, then_normal, Option.getD_some, Bool.or_false, Bool.false_eq_true, up_zero, Nat.reduceAdd, AV.cells, List.map_cons, List.map_nil]
  refine (wwordF (w := 4) o5 rfl hp5).mono ?_
  rintro v σ1 ⟨rfl, rfl⟩
  rw [e6]
  generalize hy : IntKind.i64.wrap (rW l (rm5 l) 4 : Nat) = x6 at hrM
  try simp only [↓reduceIte, List.cons_append, List.nil_append, List.length_cons, List.length_nil, Nat.reduceAdd, AV.isAny, AV.cells, eq_self, decide_true, ho, hq5, hy, AV.fits, AV.one, List.all_cons, List.all_nil, Nat.reduceBEq, Bool.not_false, Bool.and_self, Nat.zero_add, splice, List.take, List.drop, Nat.reduceLeDiff]
  clear hy
  obtain ⟨T6, hp6, hq6⟩ := T5.step hne (rdS l .none (rm6 l)) (.obj (mtC ⟨x1, x4, x2, x3, x5, x6⟩))
  have hs : ((t5.set p (rdS l .none (rm6 l))).set q (.obj [.int .u64 (x1 : Int), .int .i64 x4, .int .i64 x2, .int .i64 x3, .int .i64 x5, .int .i64 x6])) = ((t5.set p (rdS l .none (rm6 l))).set q (.obj (mtC ⟨x1, x4, x2, x3, x5, x6⟩))) := rfl
  rw [hs]
  rw [← hrM] at T6 hp6 hq6 ⊢
  generalize ((t5.set p (rdS l .none (rm6 l))).set q (.obj (mtC (readM l)))) = t6 at T6 hp6 hq6 ⊢
  clear T5 hp5 hq5
  refine h1 _ _ ?_
  try clear h1 K_h1
  refine T.seq_k (fun K_h1 h1 => ?_)
  refine T.regi hm ?_
  simp only [↓reduceIte, namesOf, List.any, I.names, aopsI, astep, ev, setd, List.set, List.getD, List.getElem?_cons_zero, List.getElem?_cons_succ, List.length_cons, List.length_nil, then_normal, Option.getD_some, Bool.or_false, Bool.false_eq_true, up_zero, Nat.reduceAdd, ↓opt_def, ldc, List.map_cons, List.map_nil, hq6, Nat.zero_add, List.take, List.drop, Nat.reduceLeDiff]
  refine (mMay_ok (m := readM l)).mono ?_
  rintro v t6 ⟨rfl, rfl⟩
  try simp only [↓reduceIte, namesOf, List.any, I.names, aops, aopsI, aopsT, qstep, CPt, qget, Tbl.get, astep, ev, setd, List.set, List.getD, List.getElem?_cons_zero, List.getElem?_cons_succ, List.getElem?_nil, List.cons_append, List.nil_append, List.length_cons, List.length_nil, List.replicate, then_normal, inBlock_normal, Option.getD_some, Option.getD_none, Bool.or_false, Bool.or_true, Bool.true_or, Bool.false_or, Bool.false_eq_true, if_false, if_true, up_zero, Nat.reduceAdd, Nat.reduceSub, binv, ↓opt_def, AV.isAny, AV.cells, ldc, List.map_cons, List.map_nil, St.set_next, St.set_same, St.up_next, Int.natCast_nonneg, lt_len, le_len, Int.toNat_natCast, true_and, and_true, eq_self, reduceCtorEq, decide_true, List.length_singleton, er_int, er_bool, er_str, srcR, up_zero]
  refine h1 _ _ ?_
  try clear h1 K_h1
  subst hσ
  exact T.ret (Fin.ret rfl ⟨rfl, T6, hp6, hq6⟩)

set_option maxRecDepth 10000 in
theorem mOpenG_ok {x : List UInt8} {g : Ver} {q : Nat} {σ : St} (hx : x.length ≤ 1099511627776) (hq : σ.res q = some (.obj (mtC mZ))) :
    ACalls Tryd.prog n_mOpen [.sl (bytesAV x) g, .func n_mGet1 [] [.ptr q 0]] σ (fun v σ' => v = errAV (metaGF x).2 ∧ ∃ m, σ' = σ.set q (.obj (mtC m)) ∧ ((metaGF x).2 = 0 → m = (metaGF x).1)) := by
  refine s_mOpen (fun wf => ?_)
  unfold c_mOpen
  have hql : q < σ.next := wf.lt hq
  have en : eqIv true [(tCode, .i64)] .nili .nili = some true := rfl
  refine T.seq_k (fun K_h0 h0 => ?_)
  refine T.regi hm ?_
  simp only [↓reduceIte, namesOf, List.any, I.names, aopsI, astep, ev, setd, List.set, List.cons_append, List.nil_append, List.length_cons, List.length_nil, List.replicate, then_normal, Bool.or_false, Bool.false_eq_true, up_zero, Nat.reduceAdd, Nat.reduceSub]
  refine h0 _ _ ?_
  try clear h0 K_h0
  refine T.seq_k (fun K_h1 h1 => ?_)
  refine T.regi hm ?_
  simp only [↓reduceIte, namesOf, List.any, I.names, aopsI, astep, ev, setd, List.set, List.getD, List.getElem?_cons_zero, List.getElem?_cons_succ, then_normal, Option.getD_some, Bool.or_false, Bool.false_eq_true, up_zero, ↓opt_def, List.map_cons, List.map_nil]
  refine (copen_ok hx).mono ?_
  rintro v σ ⟨rfl, rfl⟩
  try simp only [List.getElem?_cons_zero, List.getElem?_cons_succ]
  refine h1 _ _ ?_
  try clear h1 K_h1
  refine T.seq_k (fun K_h1 h1 => ?_)
  by_cases ho : (openB x).1 = 0
  case neg =>
    have eo : errAV (openB x).1 = .iface tCode (.int .i64 (openB x).1) := if_neg ho
    have en2 : eqIv true [(tCode, .i64)] (.iface tCode (.int .i64 (openB x).1)) .nili = some false := rfl
    have hm2 : (metaGF x).2 = (openB x).1 := by unfold metaGF; rw [if_pos ho]
    rw [eo]
    refine T.seq_k (fun K_h0 h0 => ?_)
    refine T.regi hm ?_
    simp only [↓reduceIte, namesOf, List.any, I.names, aopsI, astep, ev, setd, List.set, List.getD, List.getElem?_cons_zero, List.getElem?_cons_succ, then_normal, Option.getD_some, Bool.or_false, Bool.false_eq_true, up_zero, en2, Bool.false_bne]
    refine h0 _ _ ?_
    try clear h0 K_h0
    refine T.cond rfl (fun _ => ?_) (fun h => by cases h)
    refine T.seq_k (fun K_h0 h0 => ?_)
    refine T.regi hm ?_
    simp only [↓reduceIte, namesOf, List.any, I.names, aopsI, astep, ev, setd, List.set, List.getD, List.getElem?_cons_zero, List.getElem?_cons_succ, then_normal, Option.getD_some, Bool.or_false, Bool.false_eq_true, up_zero]
    refine h0 _ _ ?_
    try clear h0 K_h0
    refine T.ret (Fin.quiet rfl trivial (fun _ _ h => h) ⟨by rw [hm2, eo]; rfl, mZ, (St.set_self hq).symm, fun h => absurd (hm2.symm.trans h) ho⟩)
  have eo : errAV (openB x).1 = .nili := if_pos ho
  rw [eo]
  refine T.seq_k (fun K_h0 h0 => ?_)
  refine T.regi hm ?_
  simp only [↓reduceIte, namesOf, List.any, I.names, aopsI, astep, ev, setd, List.set, List.getD, List.getElem?_cons_zero, List.getElem?_cons_succ, then_normal, Option.getD_some, Bool.or_false, Bool.false_eq_true, up_zero, en, bne_self_eq_false]
  refine h0 _ _ ?_
  try clear h0 K_h0
  refine T.cond rfl (fun h => by cases h) (fun _ => T.skip ?_)
  refine h1 _ _ ?_
  try clear h1 K_h1
  have hlen := openB_le x
  have hGF : metaGF x = if (openB x).2.length = 31 ∧ mayM (readM (openB x).2) then (readM (openB x).2, 0) else (mZ, 2) := by
    unfold metaGF; rw [if_neg (fun h => h ho)]
  generalize (openB x).2 = l at hlen hGF ⊢
  have hll : l.length ≤ 1099511627776 := by omega
  refine T.seq_k (fun K_h1 h1 => ?_)
  refine T.regi hm ?_
  simp only [↓reduceIte, namesOf, List.any, I.names, aopsI, astep, ev, setd, List.set, List.getD, List.getElem?_cons_zero, List.getElem?_cons_succ, then_normal, Option.getD_some, Bool.or_false, Bool.false_eq_true, up_zero, List.map_cons, List.map_nil]
  refine (wreadF (l := l)).mono ?_
  rintro v t ⟨p, rfl, hp, hlo, hhi, hsame⟩
  try simp only [↓reduceIte, namesOf, List.any, I.names, aops, aopsI, aopsT, qstep, CPt, qget, Tbl.get, astep, ev, setd, List.set, List.getD, List.getElem?_cons_zero, List.getElem?_cons_succ, List.getElem?_nil, List.cons_append, List.nil_append, List.length_cons, List.length_nil, List.replicate, then_normal, inBlock_normal, Option.getD_some, Option.getD_none, Bool.or_false, Bool.or_true, Bool.true_or, Bool.false_or, Bool.false_eq_true, if_false, if_true, up_zero, Nat.reduceAdd, Nat.reduceSub, binv, ↓opt_def, AV.isAny, AV.cells, ldc, List.map_cons, List.map_nil, St.set_next, St.set_same, St.up_next, Int.natCast_nonneg, lt_len, le_len, Int.toNat_natCast, true_and, and_true, eq_self, reduceCtorEq, decide_true, List.length_singleton, er_int, er_bool, er_str, srcR, up_zero]
  refine h1 _ _ ?_
  try clear h1 K_h1
  have hne : p ≠ q := by omega
  have hqt : t.res q = some (.obj (mtC mZ)) := by rw [hsame q hql]; exact hq
  refine T.seq_k (fun K_h1 h1 => ?_)
  refine T.seq_k (fun K_h2 h2 => ?_)
  refine T.regi hm ?_
  simp only [↓reduceIte, namesOf, List.any, I.names, aopsI, astep, ev, setd, List.set, List.getD, List.getElem?_cons_zero, List.getElem?_cons_succ, List.cons_append, List.nil_append, then_normal, Option.getD_some, Bool.or_false, Bool.false_eq_true, up_zero, List.map_cons, List.map_nil]
  refine (mGet1_ok hll hne hp hqt).mono ?_
  rintro v u ⟨rfl, T2, hpu, hqu⟩
  try simp only [↓reduceIte, namesOf, List.any, I.names, aops, aopsI, aopsT, qstep, CPt, qget, Tbl.get, astep, ev, setd, List.set, List.getD, List.getElem?_cons_zero, List.getElem?_cons_succ, List.getElem?_nil, List.cons_append, List.nil_append, List.length_cons, List.length_nil, List.replicate, then_normal, inBlock_normal, Option.getD_some, Option.getD_none, Bool.or_false, Bool.or_true, Bool.true_or, Bool.false_or, Bool.false_eq_true, if_false, if_true, up_zero, Nat.reduceAdd, Nat.reduceSub, binv, ↓opt_def, AV.isAny, AV.cells, ldc, List.map_cons, List.map_nil, St.set_next, St.set_same, St.up_next, Int.natCast_nonneg, lt_len, le_len, Int.toNat_natCast, true_and, and_true, eq_self, reduceCtorEq, decide_true, List.length_singleton, er_int, er_bool, er_str, srcR, up_zero]
  refine h2 _ _ ?_
  try clear h2 K_h2
  obtain ⟨re1, re2⟩ := rm_end (l := l)
  have okr : (rm6 l).ok l := rN_ok (rN_ok (rN_ok (rN_ok (rN_ok (rN_ok (Rs.ok_r0 hll))))))
  have hL : Like (σ.set q (.obj (mtC (readM l)))) u := ⟨by rw [T2.next]; simp; omega, fun n hn => by
    simp at hn
    by_cases e : n = q
    · subst e; rw [hqu, St.set_same]
    · rw [T2.same n (by omega) e, St.set_other _ _ e]; exact hsame n hn⟩
  have fin : ∀ (ρ' : List AV) (e : AV), rvals ρ' u [.t 4] = some [e] → e = errAV (metaGF x).2 → ((metaGF x).2 = 0 → readM l = (metaGF x).1) → e.nb σ.next → Fin σ [.t 4] (fun v σ' => v = errAV (metaGF x).2 ∧ ∃ m, σ' = σ.set q (.obj (mtC m)) ∧ ((metaGF x).2 = 0 → m = (metaGF x).1)) .ret ρ' u := fun ρ' e h1 h2 h3 h4 =>
    Fin.likeset wf h1 (.refl _) hL hq h4 ⟨trivial, trivial, trivial, trivial, trivial, trivial, trivial⟩ ⟨h2, _, rfl, h3⟩
  have hbad : ∀ ρ', (¬ (l.length = 31 ∧ mayM (readM l))) → rvals ρ' u [.t 4] = some [.iface tCode (.int .i64 2)] → Fin σ [.t 4] (fun v σ' => v = errAV (metaGF x).2 ∧ ∃ m, σ' = σ.set q (.obj (mtC m)) ∧ ((metaGF x).2 = 0 → m = (metaGF x).1)) .ret ρ' u := fun ρ' hno hr =>
    fin ρ' _ hr (by rw [hGF, if_neg hno]; rfl) (fun h => by rw [hGF, if_neg hno] at h; cases h) trivial
  have hru : ∀ k, (u.up k).res p = some (rd l .none (rm6 l).at_ (rm6 l).bad) := fun _ => hpu
  have hb1 := wbad_ok (σ := u) hpu
  by_cases hmm : mayM (readM l)
  case neg =>
    have f1 : decide (mayM (readM l)) = false := decide_eq_false hmm
    refine T.seq_k (fun K_h0 h0 => ?_)
    refine T.regi hm ?_
    simp only [↓reduceIte, namesOf, List.any, I.names, aopsI, astep, ev, setd, List.set, List.getD, List.getElem?_cons_zero, List.getElem?_cons_succ, then_normal, Option.getD_some, Bool.or_false, Bool.false_eq_true, up_zero, eq_self, reduceCtorEq, f1, Bool.not_false]
    refine h0 _ _ ?_
    try clear h0 K_h0
    refine T.cond rfl (fun _ => ?_) (fun h => by cases h)
    refine T.seq_k (fun K_h0 h0 => ?_)
    refine T.regi hm ?_
    simp only [↓reduceIte, namesOf, List.any, I.names, aopsI, astep, ev, setd, List.set, List.getD, List.getElem?_cons_zero, List.getElem?_cons_succ, then_normal, Option.getD_some, Bool.or_false, Bool.false_eq_true, up_zero]
    refine h0 _ _ ?_
    try clear h0 K_h0
    exact T.ret (hbad _ (fun h => hmm h.2) rfl)
  have f1 : decide (mayM (readM l)) = true := decide_eq_true hmm
  by_cases h31 : 31 ≤ l.length
  case neg =>
    have hb0 := re2 (by omega)
    have f2 : decide ((rm6 l).bad ≥ 0) = true := decide_eq_true hb0
    refine T.seq_k (fun K_h2 h2 => ?_)
    refine T.regi hm ?_
    simp only [↓reduceIte, namesOf, List.any, I.names, aopsI, astep, ev, setd, List.set, List.getD, List.getElem?_cons_zero, List.getElem?_cons_succ, then_normal, Option.getD_some, Bool.or_false, Bool.false_eq_true, up_zero, binv, ↓opt_def, List.map_cons, List.map_nil, eq_self, f1, Bool.not_true]
    refine hb1.mono ?_
    rintro v u ⟨rfl, rfl⟩
    try simp only [↓reduceIte, eq_self, reduceCtorEq, f2]
    refine h2 _ _ ?_
    try clear h2 K_h2
    refine T.cond rfl (fun _ => ?_) (fun h => by cases h)
    refine T.seq_k (fun K_h0 h0 => ?_)
    refine T.regi hm ?_
    simp only [↓reduceIte, namesOf, List.any, I.names, aopsI, astep, ev, setd, List.set, List.getD, List.getElem?_cons_zero, List.getElem?_cons_succ, then_normal, Option.getD_some, Bool.or_false, Bool.false_eq_true, up_zero]
    refine h0 _ _ ?_
    try clear h0 K_h0
    exact T.ret (hbad _ (fun h => by omega) rfl)
  have hend := re1 h31
  obtain ⟨⟨_, k2, k3⟩, _⟩ := okr
  have hl1 := wleft_ok (σ := u) hll k2 k3 hpu
  rw [hend] at hb1 hl1
  have f2 : decide ((-1 : Int) ≥ 0) = false := rfl
  by_cases he : l.length = 31
  · have f3 : decide ((l.length : Int) - 31 > 0) = false := decide_eq_false (by omega)
    refine T.seq_k (fun K_h2 h2 => ?_)
    refine T.regi hm ?_
    simp only [↓reduceIte, namesOf, List.any, I.names, aopsI, astep, ev, setd, List.set, List.getD, List.getElem?_cons_zero, List.getElem?_cons_succ, then_normal, Option.getD_some, Bool.or_false, Bool.false_eq_true, up_zero, binv, ↓opt_def, List.map_cons, List.map_nil, eq_self, f1, Bool.not_true]
    refine hb1.mono ?_
    rintro v u ⟨rfl, rfl⟩
    try simp only [↓reduceIte, Bool.false_eq_true, eq_self, f2]
    refine hl1.mono ?_
    rintro v u ⟨rfl, rfl⟩
    try simp only [↓reduceIte, eq_self, f3]
    refine h2 _ _ ?_
    try clear h2 K_h2
    refine T.cond rfl (fun h => by cases h) (fun _ => T.skip ?_)
    refine h1 _ _ ?_
    try clear h1 K_h1
    refine T.seq_k (fun K_h0 h0 => ?_)
    refine T.regi hm ?_
    simp only [↓reduceIte, namesOf, List.any, I.names, aopsI, astep, ev, setd, List.set, then_normal, Bool.or_false, Bool.false_eq_true, up_zero]
    refine h0 _ _ ?_
    try clear h0 K_h0
    exact T.ret (fin _ _ rfl (by rw [hGF, if_pos ⟨he, hmm⟩]; rfl) (fun _ => by rw [hGF, if_pos ⟨he, hmm⟩]) trivial)
  · have f3 : decide ((l.length : Int) - 31 > 0) = true := decide_eq_true (by omega)
    refine T.seq_k (fun K_h2 h2 => ?_)
    refine T.regi hm ?_
    simp only [↓reduceIte, namesOf, List.any, I.names, aopsI, astep, ev, setd, List.set, List.getD, List.getElem?_cons_zero, List.getElem?_cons_succ, then_normal, Option.getD_some, Bool.or_false, Bool.false_eq_true, up_zero, binv, ↓opt_def, List.map_cons, List.map_nil, eq_self, f1, Bool.not_true]
    refine hb1.mono ?_
    rintro v u ⟨rfl, rfl⟩
    try simp only [↓reduceIte, Bool.false_eq_true, eq_self, f2]
    refine hl1.mono ?_
    rintro v u ⟨rfl, rfl⟩
    try simp only [↓reduceIte, eq_self, f3]
    refine h2 _ _ ?_
    try clear h2 K_h2
    refine T.cond rfl (fun _ => ?_) (fun h => by cases h)
    refine T.seq_k (fun K_h0 h0 => ?_)
    refine T.regi hm ?_
    simp only [↓reduceIte, namesOf, List.any, I.names, aopsI, astep, ev, setd, List.set, List.getD, List.getElem?_cons_zero, List.getElem?_cons_succ, then_normal, Option.getD_some, Bool.or_false, Bool.false_eq_true, up_zero]
    refine h0 _ _ ?_
    try clear h0 K_h0
    exact T.ret (hbad _ (fun h => he h.1) rfl)

set_option maxRecDepth 10000 in
theorem mGet_ok {x : List UInt8} {g : Ver} {σ : St} (hx : x.length ≤ 1099511627776) : ACalls Tryd.prog n_mGet [.sl (bytesAV x) g] σ
    (fun v σ' => v = .tup [.agg (mtC (metaGF x).1), errAV (metaGF x).2] ∧ σ' = σ) := by
  refine s_mGet (fun wf => ?_)
  unfold c_mGet
  have hz : [AV.int .u64 0, .int .i64 0, .int .i64 0, .int .i64 0, .int .i64 0, .int .i64 0] = mtC mZ := rfl
  have en : eqIv true [(tCode, .i64)] .nili .nili = some true := rfl
  refine T.seq_k (fun K_h0 h0 => ?_)
  refine T.regi hm ?_
  simp only [↓reduceIte, namesOf, List.any, I.names, aopsI, astep, ev, setd, List.set, List.cons_append, List.nil_append, List.length_cons, List.length_nil, List.replicate, then_normal, Bool.or_false, Nat.reduceAdd, Nat.reduceSub, eq_self]
  refine h0 _ _ ?_
  try clear h0 K_h0
  rw [hz]
  have hq : ((σ.up 2).set (σ.next + 0) (.obj (mtC mZ))).res (σ.next + 0) = some (.obj (mtC mZ)) := St.set_same _ _ _
  have hL : Like σ ((σ.up 2).set (σ.next + 0) (.obj (mtC mZ))) := (Like.refl σ).box (n := 2) (i := 0) _
  have hlo : σ.next ≤ σ.next + 0 := by omega
  have hlt : σ.next + 0 < ((σ.up 2).set (σ.next + 0) (.obj (mtC mZ))).next := by simp
  generalize ((σ.up 2).set (σ.next + 0) (.obj (mtC mZ))) = t at hq hL hlt ⊢
  generalize σ.next + 0 = q at hq hlo hlt ⊢
  refine T.seq_k (fun K_h0 h0 => ?_)
  refine T.regi hm ?_
  simp only [↓reduceIte, namesOf, List.any, I.names, aopsI, astep, setd, List.set, List.length_cons, List.length_nil, then_normal, Bool.or_false, Nat.reduceAdd, eq_self]
  refine h0 _ _ ?_
  try clear h0 K_h0
  try rw [hz]
  have hb : ((t.up 1).set (t.next + 0) (.obj (mtC mZ))).res (t.next + 0) = some (.obj (mtC mZ)) := St.set_same _ _ _
  have hq1 : ((t.up 1).set (t.next + 0) (.obj (mtC mZ))).res q = some (.obj (mtC mZ)) := by rw [St.set_other _ _ (by omega)]; exact hq
  have hL1 : Like σ ((t.up 1).set (t.next + 0) (.obj (mtC mZ))) := hL.box (n := 1) (i := 0) _
  have hlb : σ.next ≤ t.next + 0 := by have := hL.next; omega
  have hqb : q ≠ t.next + 0 := by omega
  generalize ((t.up 1).set (t.next + 0) (.obj (mtC mZ))) = u at hb hq1 hL1 ⊢
  generalize t.next + 0 = b at hb hlb hqb ⊢
  refine T.seq_k (fun K_h1 h1 => ?_)
  refine T.regi hm ?_
  simp only [↓reduceIte, namesOf, List.any, I.names, aopsI, astep, ev, setd, List.set, List.getD, List.getElem?_cons_zero, List.getElem?_cons_succ, then_normal, Option.getD_some, Bool.or_false, Bool.false_eq_true, up_zero, List.map_cons, List.map_nil]
  refine (mOpenG_ok (g := g) hx hb).mono ?_
  rintro v w ⟨rfl, m, rfl, hmg⟩
  try simp only [↓reduceIte, namesOf, List.any, I.names, aops, aopsI, aopsT, qstep, CPt, qget, Tbl.get, astep, ev, setd, List.set, List.getD, List.getElem?_cons_zero, List.getElem?_cons_succ, List.getElem?_nil, List.cons_append, List.nil_append, List.length_cons, List.length_nil, List.replicate, then_normal, inBlock_normal, Option.getD_some, Option.getD_none, Bool.or_false, Bool.or_true, Bool.true_or, Bool.false_or, Bool.false_eq_true, if_false, if_true, up_zero, Nat.reduceAdd, Nat.reduceSub, binv, ↓opt_def, AV.isAny, AV.cells, ldc, List.map_cons, List.map_nil, St.set_next, St.set_same, St.up_next, Int.natCast_nonneg, lt_len, le_len, Int.toNat_natCast, true_and, and_true, eq_self, reduceCtorEq, decide_true, List.length_singleton, er_int, er_bool, er_str, srcR, up_zero]
  refine h1 _ _ ?_
  try clear h1 K_h1
  have hq2 : (u.set b (.obj (mtC m))).res q = some (.obj (mtC mZ)) := by rw [St.set_other _ _ hqb]; exact hq1
  have hb2 : (u.set b (.obj (mtC m))).res b = some (.obj (mtC m)) := St.set_same _ _ _
  have hL2 : Like σ (u.set b (.obj (mtC m))) := hL1.set _ hlb
  generalize (u.set b (.obj (mtC m))) = u2 at hq2 hb2 hL2 ⊢
  have fin : ∀ (ρ' : List AV) (s : St) (m' : Mt) (e : AV), Like σ s → s.res q = some (.obj (mtC m')) → ρ'.getD 2 .any = .ptr q 0 → ρ'.getD 3 .any = e → e.nb σ.next → m' = (metaGF x).1 → e = errAV (metaGF x).2 → Fin σ [.cell 2 (some 6), .t 3] (fun v σ' => v = .tup [.agg (mtC (metaGF x).1), errAV (metaGF x).2] ∧ σ' = σ) .ret ρ' s := by
    intro ρ' s m' e hLs hs h2 h3 hn hm' he
    subst hm' he
    have hv : rvals ρ' s [.cell 2 (some 6), .t 3] = some [.agg (mtC (metaGF x).1), errAV (metaGF x).2] := by
      simp only [rvals, rval, h2, h3, hs]
      rfl
    exact Fin.quiet hv ⟨⟨trivial, trivial, trivial, trivial, trivial, trivial, trivial⟩, hn, trivial⟩ (hLs.quiet wf) ⟨rfl, rfl⟩
  refine T.seq_k (fun K_h1 h1 => ?_)
  by_cases h0 : (metaGF x).2 = 0
  · have e0 : errAV (metaGF x).2 = .nili := if_pos h0
    refine T.seq_k (fun K_h0 h0 => ?_)
    refine T.regi hm ?_
    simp only [↓reduceIte, namesOf, List.any, I.names, aopsI, astep, ev, setd, List.set, List.getD, List.getElem?_cons_zero, List.getElem?_cons_succ, then_normal, Option.getD_some, Bool.or_false, Bool.false_eq_true, up_zero, e0, en, bne_self_eq_false]
    refine h0 _ _ ?_
    try clear h0 K_h0
    refine T.cond rfl (fun h => by cases h) (fun _ => T.skip ?_)
    refine h1 _ _ ?_
    try clear h1 K_h1
    refine T.seq_k (fun K_h0 h0 => ?_)
    refine T.regi hm ?_
    simp only [↓reduceIte, namesOf, List.any, I.names, aopsI, astep, ev, setd, List.set, List.getD, List.getElem?_cons_zero, List.getElem?_cons_succ, List.cons_append, List.nil_append, List.length_cons, List.length_nil, then_normal, Option.getD_some, Bool.or_false, Bool.false_eq_true, up_zero, Nat.reduceAdd, ↓opt_def, AV.isAny, AV.cells, ldc, eq_self, decide_true, hb2, hq2, AV.fits, AV.one, List.all_cons, List.all_nil, Nat.reduceBEq, Bool.not_false, Bool.and_self, Nat.zero_add, splice, List.take, List.drop, Nat.reduceLeDiff]
    refine h0 _ _ ?_
    try clear h0 K_h0
    have hm1 := hmg h0
    exact T.ret (fin _ _ m .nili (hL2.set _ hlo) (St.set_same _ _ _) rfl rfl trivial hm1 e0.symm)
  · have e0 : errAV (metaGF x).2 = .iface tCode (.int .i64 (metaGF x).2) := if_neg h0
    have en2 : eqIv true [(tCode, .i64)] (.iface tCode (.int .i64 (metaGF x).2)) .nili = some false := rfl
    have hm1 : (metaGF x).1 = mZ := by
      unfold metaGF at h0 ⊢
      split
      · rfl
      · rename_i ho
        rw [if_neg ho] at h0
        split
        · rename_i hh; rw [if_pos hh] at h0; exact absurd rfl h0
        · rfl
    refine T.seq_k (fun K_h0 h0 => ?_)
    refine T.regi hm ?_
    simp only [↓reduceIte, namesOf, List.any, I.names, aopsI, astep, ev, setd, List.set, List.getD, List.getElem?_cons_zero, List.getElem?_cons_succ, then_normal, Option.getD_some, Bool.or_false, Bool.false_eq_true, up_zero, e0, en2, Bool.false_bne]
    refine h0 _ _ ?_
    try clear h0 K_h0
    refine T.cond rfl (fun _ => ?_) (fun h => by cases h)
    refine T.seq_k (fun K_h0 h0 => ?_)
    refine T.regi hm ?_
    simp only [↓reduceIte, namesOf, List.any, I.names, aopsI, astep, ev, setd, List.set, List.getD, List.getElem?_cons_zero, List.getElem?_cons_succ, List.cons_append, List.nil_append, List.length_cons, List.length_nil, then_normal, Option.getD_some, Bool.or_false, Bool.false_eq_true, up_zero, Nat.reduceAdd, ↓opt_def, AV.isAny, AV.cells, eq_self, decide_true, e0, hq2, fillA, ↓Option.map_some, AV.fits, AV.one, List.all_cons, List.all_nil, Nat.reduceBEq, Bool.not_false, Bool.and_self, Nat.zero_add, splice, List.take, List.drop, Nat.reduceLeDiff]
    refine h0 _ _ ?_
    try clear h0 K_h0
    exact T.ret (fin _ _ mZ (.iface tCode (.int .i64 (metaGF x).2)) (hL2.set _ hlo) (St.set_same _ _ _) rfl rfl trivial hm1.symm e0.symm)

end Go.VL

namespace Go.VL

open Go.Proofs

/-- an owned thing nm, and a row that grows -/
structure RS (σ σ' : St) (nm : Nat) (r : Res) (k : Nat) (v : Ver) : Prop where
  old : ∀ m, m < σ.next → σ'.res m = σ.res m
  lo : σ.next ≤ nm
  hi : nm < σ'.next
  at_ : σ'.res nm = some r
  ver : v = .nil ∨ ∃ g, v = .tip g ∧ g ≠ nm ∧ σ.next ≤ g ∧ g < σ'.next ∧ σ'.res g = some (.tip k)

theorem RS.set {σ σ' : St} {nm k : Nat} {r : Res} {v : Ver} (h : RS σ σ' nm r k v) (r' : Res) : RS σ (σ'.set nm r') nm r' k v where
  old := fun m hm => by rw [St.set_other _ _ (by have := h.lo; omega)]; exact h.old m hm
  lo := h.lo
  hi := h.hi
  at_ := by simp
  ver := h.ver.imp id fun ⟨g, h1, h2, h3, h4, h5⟩ => ⟨g, h1, h2, h3, h4, by rw [St.set_other _ _ h2]; exact h5⟩

theorem RS.up {σ σ' : St} {nm k : Nat} {r : Res} {v : Ver} (h : RS σ σ' nm r k v) (n : Nat) : RS σ (σ'.up n) nm r k v :=
  ⟨h.old, h.lo, Nat.lt_of_lt_of_le h.hi (Nat.le_add_right _ _), h.at_, h.ver.imp id fun ⟨g, h1, h2, h3, h4, h5⟩ => ⟨g, h1, h2, h3, Nat.lt_of_lt_of_le h4 (Nat.le_add_right _ _), h5⟩⟩

theorem RS.nil {σ σ' : St} {nm k g2 : Nat} {r : Res} (h : RS σ σ' nm r k .nil) (h1 : nm < g2) (h2 : g2 < σ'.next) : RS σ (σ'.set g2 (.tip k)) nm r k (.tip g2) where
  old := fun m hm => by rw [St.set_other _ _ (by have := h.lo; omega)]; exact h.old m hm
  lo := h.lo
  hi := h.hi
  at_ := by rw [St.set_other _ _ (by omega)]; exact h.at_
  ver := .inr ⟨g2, rfl, by omega, by have := h.lo; omega, h2, by simp⟩

theorem RS.tip {σ σ' : St} {nm k g g2 : Nat} {r : Res} (h : RS σ σ' nm r k (.tip g)) (h1 : nm < g2) (h2 : g2 < σ'.next) : RS σ ((σ'.del g).set g2 (.tip k)) nm r k (.tip g2) := by
  obtain ⟨g', e, a1, a2, a3, a4⟩ := h.ver.resolve_left (by simp)
  cases e
  refine ⟨fun m hm => ?_, h.lo, h.hi, ?_, .inr ⟨g2, rfl, by omega, by have := h.lo; omega, h2, by simp⟩⟩
  · rw [St.set_other _ _ (by have := h.lo; omega)]
    simp only [St.del]
    rw [if_neg (by omega)]; exact h.old m hm
  · rw [St.set_other _ _ (by omega)]
    simp only [St.del]
    rw [if_neg (fun e => a1 e.symm)]; exact h.at_

theorem RS.quiet {σ σ' : St} {nm k : Nat} {r : Res} {v : Ver} (wf : WF σ) (h : RS σ σ' nm r k v) : ∀ m s, σ.res m = some s → σ'.res m = some s := by
  intro m s hm
  have : m < σ.next := by
    rcases Nat.lt_or_ge m σ.next with h | h
    · exact h
    · rw [wf m h] at hm; cases hm
  rw [h.old m this]; exact hm

end Go.VL

namespace Go.VL

open Go.Proofs

theorem numB_app (a b : List UInt8) : numB (a ++ b) = b.foldl (fun n b => 256 * n + b.toNat) (numB a) := by unfold numB; rw [List.foldl_append]

theorem numB_beB : ∀ (w n : Nat), n < 256 ^ w → numB (beB w n) = n
  | 0, n, h => by simp at h; subst h; rfl
  | w + 1, n, h => by
    have h1 : n / 256 < 256 ^ w := by rw [Nat.pow_succ] at h; omega
    simp only [beB, numB_app, numB_beB w (n / 256) h1, List.foldl_cons, List.foldl_nil]
    rw [UInt8.toNat_ofNat']
    omega

theorem open_seal (b : List UInt8) : openB (sealB b) = (0, b) := by
  unfold openB
  have h1 : (sealB b).take ((sealB b).length - 4) = b := by
    rw [sealB_len, Nat.add_sub_cancel]; unfold sealB; exact List.take_left
  rw [if_neg (by rw [sealB_len]; omega), h1, if_pos rfl]

end Go.VL

namespace Go.VL

open Go.Proofs

theorem bitstep_zero {x : BitVec 32} (h : bitstep x = 0#32) : x = 0#32 := by
  unfold bitstep at h
  have hx : x.getLsbD 0 = decide (x.toNat % 2 = 1) := by rw [BitVec.getLsbD, Nat.testBit_zero]
  have hs : (x >>> 1).toNat = x.toNat / 2 := by rw [BitVec.toNat_ushiftRight, Nat.shiftRight_eq_div_pow]
  have hl := x.isLt
  split at h
  · have h2 : x >>> 1 = 0xEDB88320#32 := by
      have := congrArg (· ^^^ 0xEDB88320#32) h
      simpa [BitVec.xor_assoc] using this
    have h3 := congrArg BitVec.toNat h2
    rw [hs] at h3
    have h4 : (0xEDB88320#32 : BitVec 32).toNat = 3988292384 := rfl
    rw [h4] at h3
    omega
  · rename_i h0
    rw [hx, decide_eq_true_eq] at h0
    have h3 := congrArg BitVec.toNat h
    rw [hs] at h3
    have h4 : (0#32 : BitVec 32).toNat = 0 := rfl
    rw [h4] at h3
    apply BitVec.eq_of_toNat_eq
    rw [h4]; omega

theorem bitstep_inj {a b : BitVec 32} (h : bitstep a = bitstep b) : a = b := by
  have h1 : bitstep (a ^^^ b) = 0#32 := by rw [bitstep_xor, h, BitVec.xor_self]
  have h2 := congrArg (· ^^^ b) (bitstep_zero h1)
  simpa [BitVec.xor_assoc] using h2

theorem stepN_inj : ∀ {n : Nat} {a b : BitVec 32}, stepN n a = stepN n b → a = b
  | 0, _, _, h => h
  | n + 1, _, _, h => bitstep_inj (stepN_inj (n := n) h)

theorem crcRun_inj : ∀ {l : List UInt8} {a b : BitVec 32}, crcRun a l = crcRun b l → a = b
  | [], _, _, h => h
  | c :: r, a, b, h => by
    have h1 := stepN_inj (crcRun_inj (l := r) h)
    have h2 := congrArg (· ^^^ BitVec.ofNat 32 c.toNat) h1
    simpa [BitVec.xor_assoc] using h2

theorem crcRun_app : ∀ {l m : List UInt8} {a : BitVec 32}, crcRun a (l ++ m) = crcRun (crcRun a l) m
  | [], _, _ => rfl
  | c :: r, m, a => by show crcRun _ (r ++ m) = _; rw [crcRun_app]; rfl

theorem crc_byte {p q : List UInt8} {c d : UInt8} (h : crcOf (p ++ c :: q) = crcOf (p ++ d :: q)) : c = d := by
  unfold crcOf at h
  have h1 := BitVec.eq_of_toNat_eq h
  have h2 := congrArg (fun x => ~~~ x) h1
  simp only [BitVec.not_not] at h2
  rw [crcRun_app, crcRun_app] at h2
  have h3 := stepN_inj (crcRun_inj (l := q) h2)
  have h4 := congrArg (crcRun 0xffffffff#32 p ^^^ ·) h3
  simp only [← BitVec.xor_assoc, BitVec.xor_self, BitVec.zero_xor] at h4
  have h5 := congrArg BitVec.toNat h4
  have hc := c.toNat_lt
  have hd := d.toNat_lt
  rw [BitVec.toNat_ofNat, BitVec.toNat_ofNat, Nat.mod_eq_of_lt (by omega), Nat.mod_eq_of_lt (by omega)] at h5
  exact UInt8.toNat_inj.1 h5

/-- one byte another: it isn't sealed -/
theorem open_cut {l : List UInt8} {i : Nat} {c : UInt8} (hi : i < (sealB l).length) (hc : c ≠ (sealB l)[i]) : openB ((sealB l).set i c) = (7, []) := by
  have hlen : (sealB l).length = l.length + 4 := by unfold sealB; rw [List.length_append, beB_len]
  unfold openB
  rw [List.length_set, hlen, if_neg (by omega), Nat.add_sub_cancel, if_neg]
  intro h
  rcases Nat.lt_or_ge i l.length with hil | hil
  · have hs : (sealB l).set i c = l.set i c ++ beB 4 (crcOf l) := by unfold sealB; rw [List.set_append_left _ _ hil]
    rw [hs, List.take_left' (by rw [List.length_set])] at h
    have h2 : beB 4 (crcOf l) = beB 4 (crcOf (l.set i c)) := List.append_cancel_left h
    have h3 := congrArg numB h2
    rw [numB_beB 4 _ (by have := crcOf_lt l; omega), numB_beB 4 _ (by have := crcOf_lt (l.set i c); omega)] at h3
    have e1 : l = l.take i ++ l[i] :: l.drop (i + 1) := by rw [List.getElem_cons_drop, List.take_append_drop]
    have e2 : l.set i c = l.take i ++ c :: l.drop (i + 1) := by rw [List.set_eq_take_append_cons_drop, if_pos hil]
    have e3 : (sealB l)[i] = l[i] := List.getElem_append_left hil
    have hz := crc_byte (p := l.take i) (q := l.drop (i + 1)) (c := l[i]) (d := c) (by rw [← e1, ← e2]; exact h3)
    exact hc (by rw [e3, hz])
  · have ht : ((sealB l).set i c).take l.length = l := by
      rw [List.take_set_of_le hil]; unfold sealB; simp
    rw [ht] at h
    have : ((sealB l).set i c)[i]? = (sealB l)[i]? := congrArg (fun m : List UInt8 => m[i]?) h
    rw [List.getElem?_set_self hi, List.getElem?_eq_getElem hi] at this
    exact hc (Option.some.inj this)

end Go.VL

namespace Go.VL

open Go.Proofs

theorem wWs_len31 (m : Mt) : (wWs (mtW m)).length = 31 := by simp [wWs, mtW, beB_len]

theorem rW_at {l : List UInt8} {a w : Nat} (h : a + w ≤ l.length) : rW l ⟨(a : Int), -1⟩ w = numB ((l.drop a).take w) ∧ rN l ⟨(a : Int), -1⟩ w = ⟨((a + w : Nat) : Int), -1⟩ := by
  have ht : rT l ⟨(a : Int), -1⟩ w = true := by
    unfold rT; rw [decide_eq_true_eq]
    refine ⟨rfl, ?_⟩
    show (w : Int) ≤ (l.length : Int) - (a : Int)
    omega
  unfold rW rN
  rw [if_pos ht, if_pos ht]
  exact ⟨rfl, by simp⟩

theorem metaG_back {m : Mt} (hm0 : mayM m) (hid : m.id < 18446744073709551616) : metaGF (metaB m) = (m, 0) := by
  have ho : openB (metaB m) = (0, wWs (mtW m)) := open_seal _
  obtain ⟨m1, m2, m3, m4, m5, m6, m7, m8, m9, m10⟩ := hm0
  have hl := wWs_len31 m
  have hall : wWs (mtW m) = beB 8 m.id ++ (beB 8 m.st.toNat ++ (beB 8 m.en.toNat ++ (beB 1 m.level.toNat ++ (beB 2 m.pages.toNat ++ beB 4 m.traces.toNat)))) := by
    simp only [wWs, mtW, List.flatMap_cons, List.flatMap_nil, List.append_nil]
  have cut : ∀ (A B C : List UInt8) (a w : Nat), A.length = a → B.length = w → ((A ++ (B ++ C)).drop a).take w = B := fun A B C a w h1 h2 => by
    rw [List.drop_left' h1, List.take_left' h2]
  have c0 : ((wWs (mtW m)).drop 0).take 8 = beB 8 m.id := by rw [hall]; exact cut [] _ _ 0 8 rfl (beB_len _ _)
  have c8 : ((wWs (mtW m)).drop 8).take 8 = beB 8 m.st.toNat := by rw [hall]; exact cut _ _ _ 8 8 (beB_len _ _) (beB_len _ _)
  have c16 : ((wWs (mtW m)).drop 16).take 8 = beB 8 m.en.toNat := by
    rw [hall, ← List.append_assoc]; exact cut _ _ _ 16 8 (by simp [beB_len]) (beB_len _ _)
  have c24 : ((wWs (mtW m)).drop 24).take 1 = beB 1 m.level.toNat := by
    rw [hall, ← List.append_assoc, ← List.append_assoc]; exact cut _ _ _ 24 1 (by simp [beB_len]) (beB_len _ _)
  have c25 : ((wWs (mtW m)).drop 25).take 2 = beB 2 m.pages.toNat := by
    rw [hall, ← List.append_assoc, ← List.append_assoc, ← List.append_assoc]; exact cut _ _ _ 25 2 (by simp [beB_len]) (beB_len _ _)
  have c27 : ((wWs (mtW m)).drop 27).take 4 = beB 4 m.traces.toNat := by
    rw [hall, ← List.append_assoc, ← List.append_assoc, ← List.append_assoc, ← List.append_assoc, List.drop_left' (by simp [beB_len]), List.take_of_length_le (by rw [beB_len]; omega)]
  generalize wWs (mtW m) = l at ho hl c0 c8 c16 c24 c25 c27
  have r1 := rW_at (l := l) (a := 0) (w := 8) (by omega)
  have r2 := rW_at (l := l) (a := 8) (w := 8) (by omega)
  have r3 := rW_at (l := l) (a := 16) (w := 8) (by omega)
  have r4 := rW_at (l := l) (a := 24) (w := 1) (by omega)
  have r5 := rW_at (l := l) (a := 25) (w := 2) (by omega)
  have r6 := rW_at (l := l) (a := 27) (w := 4) (by omega)
  have e1 : rm1 l = ⟨((8 : Nat) : Int), -1⟩ := r1.2
  have e2 : rm2 l = ⟨((16 : Nat) : Int), -1⟩ := by unfold rm2; rw [e1]; exact r2.2
  have e3 : rm3 l = ⟨((24 : Nat) : Int), -1⟩ := by unfold rm3; rw [e2]; exact r3.2
  have e4 : rm4 l = ⟨((25 : Nat) : Int), -1⟩ := by unfold rm4; rw [e3]; exact r4.2
  have e5 : rm5 l = ⟨((27 : Nat) : Int), -1⟩ := by unfold rm5; rw [e4]; exact r5.2
  have nb : ∀ (w n : Nat), n < 256 ^ w → numB (beB w n) = n := fun w n h => numB_beB w n h
  have x1 : rW l r0 8 = m.id := by
    have := r1.1
    rw [c0, nb 8 _ hid] at this; exact this
  have x2 : rW l (rm1 l) 8 = m.st.toNat := by rw [e1, r2.1, c8, nb 8 _ (show m.st.toNat < 18446744073709551616 by omega)]
  have x3 : rW l (rm2 l) 8 = m.en.toNat := by rw [e2, r3.1, c16, nb 8 _ (show m.en.toNat < 18446744073709551616 by omega)]
  have x4 : rW l (rm3 l) 1 = m.level.toNat := by rw [e3, r4.1, c24, nb 1 _ (show m.level.toNat < 256 by omega)]
  have x5 : rW l (rm4 l) 2 = m.pages.toNat := by rw [e4, r5.1, c25, nb 2 _ (show m.pages.toNat < 65536 by omega)]
  have x6 : rW l (rm5 l) 4 = m.traces.toNat := by rw [e5, r6.1, c27, nb 4 _ (show m.traces.toNat < 4294967296 by omega)]
  have wr : ∀ x : Int, 0 ≤ x → x ≤ 1099511627776 → IntKind.i64.wrap ((x.toNat : Nat) : Int) = x := fun x h1 h2 => by rw [toN h1]; exact wrap64 (by omega) (by omega)
  have hR : readM l = m := by
    unfold readM
    rw [x1, x2, x3, x4, x5, x6, wr m.level m2 (by omega), wr m.st m4 (by omega), wr m.en (by omega) (by omega), wr m.pages (by omega) (by omega), wr m.traces (by omega) (by omega)]
  unfold metaGF
  rw [ho]
  simp only [hR]
  rw [if_neg (fun h => h rfl), if_pos ⟨hl, m1, m2, m3, m4, m5, m6, m7, m8, m9, m10⟩]

theorem metaG_cut {m : Mt} {i : Nat} {c : UInt8} (hi : i < (metaB m).length) (hc : c ≠ (metaB m)[i]) : metaGF ((metaB m).set i c) = (mZ, 7) := by
  unfold metaGF
  have : openB ((metaB m).set i c) = (7, []) := open_cut hi hc
  rw [this]
  exact if_pos (by decide)

theorem metaB_len (m : Mt) : (metaB m).length = 35 := by unfold metaB; rw [sealB_len, wWs_len31]

/-- names of unlike things are unlike -/
theorem nmM_inj {a b : Nat} (ha : a < 18446744073709551616) (hb : b < 18446744073709551616) : (nmF a [109] 0 = nmF b [109] 0) ↔ a = b := by
  refine ⟨fun h => ?_, fun h => by rw [h]⟩
  exact (V3.uniq (id := a) (id' := b) (what := [109]) (what' := [109]) (page := 0) (page' := 0) ⟨ha, .inr ⟨.inl rfl, rfl⟩⟩ ⟨hb, .inr ⟨.inl rfl, rfl⟩⟩ h).1

theorem nmMX_ne {a b : Nat} (ha : a < 18446744073709551616) (hb : b < 18446744073709551616) : nmF a [109] 0 ≠ nmF b [120] 0 := fun h => by
  have := (V3.uniq (id := a) (id' := b) (what := [109]) (what' := [120]) (page := 0) (page' := 0) ⟨ha, .inr ⟨.inl rfl, rfl⟩⟩ ⟨hb, .inr ⟨.inr (.inr (.inr rfl)), rfl⟩⟩ h).2.1
  cases this

theorem nmp_mod (a : Nat) (page : Int) : nmF a [112] page = nmF a [112] ((page.toNat % 1000 : Nat) : Int) := by
  unfold nmF
  rw [if_pos rfl, if_pos rfl, Int.toNat_natCast, Nat.mod_mod]

end Go.VL

namespace Go.VL

theorem splice_one {cs : List AV} {i : Nat} (h : i < cs.length) (x : AV) : splice cs i [x] = cs.set i x := by
  unfold splice
  rw [List.set_eq_take_append_cons_drop, if_pos h]
  simp

theorem xor_byte (c d : UInt8) : IntKind.u8.wrap ((BitVec.ofInt IntKind.u8.bits (c.toNat : Int) ^^^ BitVec.ofInt IntKind.u8.bits (d.toNat : Int)).toNat : Int) = ((c ^^^ d).toNat : Int) := by
  show IntKind.u8.wrap ((BitVec.ofInt 8 (c.toNat : Int) ^^^ BitVec.ofInt 8 (d.toNat : Int)).toNat : Int) = _
  have e1 : ∀ c : UInt8, BitVec.ofInt 8 (c.toNat : Int) = c.toBitVec := fun c => by
    apply BitVec.eq_of_toNat_eq
    have := c.toNat_lt
    simp
  rw [e1, e1]
  have : (c.toBitVec ^^^ d.toBitVec) = (c ^^^ d).toBitVec := rfl
  rw [this]
  have h := (c ^^^ d).toNat_lt
  show IntKind.u8.wrap ((c ^^^ d).toNat : Int) = _
  generalize (c ^^^ d).toNat = n at h ⊢
  simp [IntKind.wrap, IntKind.bits, IntKind.signed]
  omega

theorem xor_ne {c d : UInt8} (hd : d ≠ 0) : c ^^^ d ≠ c := by
  intro h
  have h1 := congrArg UInt8.toBitVec h
  have h2 : c.toBitVec ^^^ d.toBitVec = c.toBitVec := h1
  have h3 := congrArg (c.toBitVec ^^^ ·) h2
  simp only [← BitVec.xor_assoc, BitVec.xor_self, BitVec.zero_xor] at h3
  exact hd (by apply UInt8.eq_of_toBitVec_eq; exact h3)

theorem flat_bytes (l : List UInt8) : ∀ x ∈ (bytesAV l).flatMap AV.cells, Flat x := fun x hx => by
  obtain ⟨y, hy, hx⟩ := List.mem_flatMap.1 hx
  obtain ⟨c, _, rfl⟩ := List.mem_map.1 hy
  rw [List.mem_singleton.1 hx]; exact .int _ _

end Go.VL
