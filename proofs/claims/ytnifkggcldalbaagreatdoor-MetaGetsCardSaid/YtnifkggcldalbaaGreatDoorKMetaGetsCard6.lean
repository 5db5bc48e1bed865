/- The card of MetaGets. -/
import Derived.Test.YtnifkggcldalbaaGreatDoorKMetaGetsCard5
import Derived.Test.YtnifkggcldalbaaGreatDoorChecked

set_option linter.unusedSimpArgs false
set_option linter.unusedVariables false

namespace Go.VL

open Go.Proofs

/-- what there is a name of -/
def What (what : List UInt8) : Prop := what = [112] ∨ what = [109] ∨ what = [105] ∨ what = [102] ∨ what = [120]

def V3 (id : Nat) (what : List UInt8) (page : Int) : Prop := id < 18446744073709551616 ∧ ((what = [112] ∧ 0 ≤ page ∧ page < 1000) ∨ ((what = [109] ∨ what = [105] ∨ what = [102] ∨ what = [120]) ∧ page = 0))

theorem V3.what {id : Nat} {what : List UInt8} {page : Int} (h : V3 id what page) : What what := by
  rcases h.2 with h | h
  · exact .inl h.1
  · exact .inr h.1

def tailF (what : List UInt8) (page : Int) : List UInt8 := if what = [112] then 112 :: dg 10 3 (page.toNat % 1000) else what

theorem nm_eq {id : Nat} {what : List UInt8} {page : Int} (h : What what) : nmF id what page = [98] ++ 47 :: (dg 16 16 id ++ 47 :: tailF what page) := by
  unfold nmF tailF nmHead
  by_cases hp : what = [112]
  · rw [if_pos hp, if_pos hp]; simp
  · rw [if_neg hp, if_neg hp, if_pos (h.resolve_left hp)]; simp

theorem tail_free {what : List UInt8} {page : Int} (h : What what) : 47 ∉ tailF what page := by
  unfold tailF
  split
  · intro hm
    rcases List.mem_cons.1 hm with h1 | h1
    · exact absurd h1 (by decide)
    · exact dg_ne (by omega) (by omega) 3 _ _ h1 rfl
  · rename_i hp
    rcases h with h | h | h | h | h
    · exact absurd h hp
    all_goals (subst h; decide)

theorem nm_split {id : Nat} {what : List UInt8} {page : Int} (h : What what) : splitB (nmF id what page) = [[98], dg 16 16 id, tailF what page] := by
  rw [nm_eq h, split_at (by decide), split_at (fun hm => dg_ne (by omega) (by omega) 16 _ _ hm rfl), split_no (tail_free h)]

/-- what the parts of a name are -/
theorem canon_parts {l p0 p1 r : List UInt8} {c : UInt8} (hs : splitB l = [p0, p1, c :: r]) {id : Nat} {what : List UInt8} {page : Int} (hv : V3 id what page) (he : l = nmF id what page) :
    canU 16 p1 id ∧ what = [c] ∧ ((c = 112 ∧ canA r page.toNat ∧ page = (page.toNat : Int)) ∨ (c ≠ 112 ∧ page = 0)) := by
  rw [he, nm_split hv.what] at hs
  injection hs with _ hs
  injection hs with h1 hs
  injection hs with h2 _
  refine ⟨⟨rfl, hv.1, h1.symm⟩, ?_⟩
  unfold tailF at h2
  rcases hv.2 with ⟨rfl, h3, h4⟩ | ⟨hw, h3⟩
  · rw [if_pos rfl] at h2
    injection h2 with h5 h6
    subst h5
    exact ⟨rfl, .inl ⟨rfl, ⟨by omega, by rw [← h6, Nat.mod_eq_of_lt (by omega)]⟩, by omega⟩⟩
  · rw [if_neg (fun h => by subst h; simp at hw)] at h2
    subst h2
    rcases hw with h | h | h | h <;> (injection h with h5 h6; subst h5 h6; exact ⟨rfl, .inr ⟨by decide, h3⟩⟩)

theorem canon_len {l : List UInt8} {id : Nat} {what : List UInt8} {page : Int} (hv : V3 id what page) (he : l = nmF id what page) : (splitB l).length = 3 ∧ ∀ p0 p1 p2, splitB l = [p0, p1, p2] → p2 ≠ [] := by
  rw [he, nm_split hv.what]
  refine ⟨rfl, fun p0 p1 p2 h => ?_⟩
  injection h with _ h
  injection h with _ h
  injection h with h _
  subst h
  unfold tailF
  split
  · simp
  · rename_i hp
    rcases hv.what with h | h | h | h | h
    · exact absurd h hp
    all_goals simp [h]

theorem V3.uniq {id id' : Nat} {what what' : List UInt8} {page page' : Int} (h : V3 id what page) (h' : V3 id' what' page') (he : nmF id what page = nmF id' what' page') : id = id' ∧ what = what' ∧ page = page' := by
  have hs := nm_split (id := id) (page := page) h.what
  obtain ⟨c, r, hcr⟩ : ∃ c r, tailF what page = c :: r := by
    cases ht : tailF what page with
    | nil => exact absurd ht ((canon_len h rfl).2 _ _ _ hs)
    | cons c r => exact ⟨c, r, rfl⟩
  rw [hcr] at hs
  obtain ⟨a1, a2, a3⟩ := canon_parts hs h rfl
  obtain ⟨b1, b2, b3⟩ := canon_parts hs h' he
  refine ⟨?_, a2.trans b2.symm, ?_⟩
  · exact dg_inj (by omega) (by omega) 16 a1.2.1 b1.2.1 (a1.2.2.symm.trans b1.2.2)
  · rcases a3 with ⟨c1, c2, c3⟩ | ⟨c1, c2⟩ <;> rcases b3 with ⟨d1, d2, d3⟩ | ⟨d1, d2⟩
    · have := dg_inj (b := 10) (by omega) (by omega) 3 c2.1 d2.1 (c2.2.symm.trans d2.2)
      omega
    · exact absurd c1 d1
    · exact absurd d1 c1
    · rw [c2, d2]

/-- what a name tells -/
def PRes (l : List UInt8) (v : AV) : Prop :=
  (∃ id what page, V3 id what page ∧ l = nmF id what page ∧ v = .tup [.int .u64 ((id : Nat) : Int), .str ⟨what.toArray⟩, .int .i64 page, .bool true]) ∨
  ((∀ id what page, V3 id what page → l ≠ nmF id what page) ∧ v = .tup [.int .u64 0, .str ⟨#[]⟩, .int .i64 0, .bool false])

theorem PRes.uniq {l : List UInt8} {v w : AV} (h : PRes l v) (k : PRes l w) : v = w := by
  rcases h with ⟨id, what, page, h1, h2, rfl⟩ | ⟨h1, rfl⟩ <;> rcases k with ⟨id', what', page', k1, k2, rfl⟩ | ⟨k1, rfl⟩
  · obtain ⟨rfl, rfl, rfl⟩ := h1.uniq k1 (h2.symm.trans k2); rfl
  · exact absurd h2 (k1 _ _ _ h1)
  · exact absurd k2 (h1 _ _ _ k1)
  · rfl

theorem nb_p0 (m : Nat) : (AV.tup [.int .u64 0, .str ⟨#[]⟩, .int .i64 0, .bool false]).nb m := ⟨trivial, trivial, trivial, trivial, trivial⟩

set_option maxRecDepth 10000 in
set_option maxHeartbeats 1000000 in
theorem mParse_ok {l : List UInt8} {σ : St} (hT : Tabs σ) (hE : Errs σ) (hl : l.length ≤ 1000000) : ACalls Tryz.prog n_mParse [.str ⟨l.toArray⟩] σ (fun v σ' => σ' = σ ∧ PRes l v) := by
  refine s_mParse (fun wf => ?_)
  unfold c_mParse
  refine T.seq_k (fun K_h0 h0 => ?_)
  refine T.regi hm ?_
  simp only [↓reduceIte, namesOf, List.any, I.names, aopsI, astep, ev, setd, List.set, List.cons_append, List.nil_append, List.length_cons, List.length_nil, List.replicate, then_normal, Bool.or_false, Bool.false_eq_true, up_zero, Nat.reduceAdd, Nat.reduceSub]
  refine h0 _ _ ?_
  try clear h0 K_h0
  refine T.seq_k (fun K_h1 h1 => ?_)
  refine T.regi hm ?_
  simp only [↓reduceIte, namesOf, List.any, I.names, aopsI, astep, ev, setd, List.set, List.getD, List.getElem?_cons_zero, List.getElem?_cons_succ, then_normal, Option.getD_some, Bool.or_false, Bool.false_eq_true, up_zero, List.map_cons, List.map_nil]
  refine (split_ok hl).mono ?_
  rintro v σ ⟨rfl, rfl⟩
  try simp only [↓reduceIte, namesOf, List.any, I.names, aops, aopsI, aopsT, qstep, CPt, qget, Tbl.get, astep, ev, setd, List.set, List.getD, List.getElem?_cons_zero, List.getElem?_cons_succ, List.getElem?_nil, List.cons_append, List.nil_append, List.length_cons, List.length_nil, List.replicate, then_normal, inBlock_normal, Option.getD_some, Option.getD_none, Bool.or_false, Bool.or_true, Bool.true_or, Bool.false_or, Bool.false_eq_true, if_false, if_true, up_zero, Nat.reduceAdd, Nat.reduceSub, binv, ↓opt_def, AV.isAny, AV.cells, ldc, List.map_cons, List.map_nil, St.set_next, St.set_same, St.up_next, Int.natCast_nonneg, lt_len, le_len, Int.toNat_natCast, true_and, and_true, eq_self, reduceCtorEq, decide_true, List.length_singleton, er_int, er_bool, er_str, srcR, up_zero]
  refine h1 _ _ ?_
  try clear h1 K_h1
  have hsum := split_sum l
  obtain ⟨ps, hps⟩ : ∃ ps, splitB l = ps := ⟨_, rfl⟩
  rw [hps] at hsum ⊢
  have fin : ∀ ρ', (∀ id what page, V3 id what page → l ≠ nmF id what page) → rvals ρ' σ [.t 2, .t 3, .t 4, .t 5] = some [.int .u64 0, .str ⟨#[]⟩, .int .i64 0, .bool false] → Fin σ [.t 2, .t 3, .t 4, .t 5] (fun v σ' => σ' = σ ∧ PRes l v) .ret ρ' σ := fun ρ' hno hr =>
    Fin.quiet hr (nb_p0 _) (fun _ _ h => h) ⟨rfl, .inr ⟨hno, rfl⟩⟩
  refine T.seq_k (fun K_h1 h1 => ?_)
  by_cases h3 : ps.length = 3
  case neg =>
    have e1 : ((ps.length : Int) != 3) = true := by simp; omega
    refine T.seq_k (fun K_h0 h0 => ?_)
    refine T.regi hm ?_
    simp only [↓reduceIte, namesOf, List.any, I.names, aopsI, astep, ev, setd, List.set, List.getD, List.getElem?_cons_zero, List.getElem?_cons_succ, then_normal, Option.getD_some, Bool.or_false, Bool.false_eq_true, up_zero, binv, ↓opt_def, eq_self, reduceCtorEq, strs_len, e1]
    refine h0 _ _ ?_
    try clear h0 K_h0
    refine T.cond rfl (fun _ => ?_) (fun h => by cases h)
    refine T.seq_k (fun K_h0 h0 => ?_)
    refine T.regi hm ?_
    simp only [↓reduceIte, namesOf, List.any, I.names, aopsI, astep, ev, setd, List.set, then_normal, Bool.or_false, Bool.false_eq_true, up_zero]
    refine h0 _ _ ?_
    try clear h0 K_h0
    exact T.ret (fin _ (fun id what page hv he => h3 (by have := (canon_len hv he).1; rw [hps] at this; exact this)) rfl)
  obtain ⟨p0, p1, p2, rfl⟩ : ∃ p0 p1 p2, ps = [p0, p1, p2] := by
    match ps, h3 with
    | [a, b, c], _ => exact ⟨a, b, c, rfl⟩
  have hlen : ((strsAV [p0, p1, p2]).length : Int) = 3 := rfl
  have e1 : ((3 : Int) != 3) = false := rfl
  have i1 : (1 : Int) < 3 := by decide
  have i2 : (2 : Int) < 3 := by decide
  have z1 : (0 : Int) ≤ 1 := by decide
  have z2 : (0 : Int) ≤ 2 := by decide
  have g1 : (strsAV [p0, p1, p2])[(1 : Int).toNat]? = some (.str ⟨p1.toArray⟩) := rfl
  have g2 : (strsAV [p0, p1, p2])[(2 : Int).toNat]? = some (.str ⟨p2.toArray⟩) := rfl
  have q2 : sbinv .eql ⟨p2.toArray⟩ ⟨#[]⟩ = some (.bool (decide (p2 = []))) := by simp only [sbinv, ba_eq p2 []]
  by_cases hp2 : p2 = []
  · have f1 : decide (p2 = []) = true := decide_eq_true hp2
    rw [f1] at q2
    refine T.seq_k (fun K_h0 h0 => ?_)
    refine T.regi hm ?_
    simp only [↓reduceIte, namesOf, List.any, I.names, aopsI, astep, ev, setd, List.set, List.getD, List.getElem?_cons_zero, List.getElem?_cons_succ, List.length_cons, List.length_nil, then_normal, Option.getD_some, Bool.or_false, Bool.false_eq_true, up_zero, binv, ↓opt_def, AV.cells, ldc, and_true, eq_self, hlen, e1, i2, z2, g2, q2, Nat.zero_add]
    refine h0 _ _ ?_
    try clear h0 K_h0
    refine T.cond rfl (fun _ => ?_) (fun h => by cases h)
    refine T.seq_k (fun K_h0 h0 => ?_)
    refine T.regi hm ?_
    simp only [↓reduceIte, namesOf, List.any, I.names, aopsI, astep, ev, setd, List.set, then_normal, Bool.or_false, Bool.false_eq_true, up_zero]
    refine h0 _ _ ?_
    try clear h0 K_h0
    exact T.ret (fin _ (fun id what page hv he => (canon_len hv he).2 _ _ _ hps hp2) rfl)
  have f1 : decide (p2 = []) = false := decide_eq_false hp2
  rw [f1] at q2
  refine T.seq_k (fun K_h0 h0 => ?_)
  refine T.regi hm ?_
  simp only [↓reduceIte, namesOf, List.any, I.names, aopsI, astep, ev, setd, List.set, List.getD, List.getElem?_cons_zero, List.getElem?_cons_succ, List.length_cons, List.length_nil, then_normal, Option.getD_some, Bool.or_false, Bool.false_eq_true, up_zero, binv, ↓opt_def, AV.cells, ldc, and_true, eq_self, hlen, e1, i2, z2, g2, q2, Nat.zero_add]
  refine h0 _ _ ?_
  try clear h0 K_h0
  refine T.cond rfl (fun h => by cases h) (fun _ => T.skip ?_)
  refine h1 _ _ ?_
  try clear h1 K_h1
  obtain ⟨c, r, rfl⟩ : ∃ c r, p2 = c :: r := by cases p2 with
    | nil => exact absurd rfl hp2
    | cons c r => exact ⟨c, r, rfl⟩
  have hl1 : p1.length ≤ 1000000 := by have := hsum p1 (by simp); omega
  have hlr : r.length ≤ 1000000 := by have := hsum (c :: r) (by simp); simp at this; omega
  have hcan := fun (id : Nat) (what : List UInt8) (page : Int) => canon_parts (id := id) (what := what) (page := page) hps
  clear hsum q2 f1 hp2 h3
  refine T.seq_k (fun K_h1 h1 => ?_)
  refine T.regi hm ?_
  simp only [↓reduceIte, namesOf, List.any, I.names, aopsI, astep, ev, setd, List.set, List.getD, List.getElem?_cons_zero, List.getElem?_cons_succ, List.length_cons, List.length_nil, then_normal, Option.getD_some, Bool.or_false, Bool.false_eq_true, up_zero, ↓opt_def, AV.cells, ldc, List.map_cons, List.map_nil, and_true, eq_self, hlen, i1, z1, g1, Nat.zero_add]
  refine (parU_ok hE (by omega)).mono ?_
  rintro v σ ⟨rfl, (⟨n, hn, rfl, hc⟩ | ⟨n, hn, rfl, hc⟩)⟩
  case inr =>
    have g0 : eqIv true [(tCode, .i64)] (.iface t_nerr .any) .nili = some false := rfl
    try simp only [List.getElem?_cons_zero, List.getElem?_cons_succ]
    refine h1 _ _ ?_
    try clear h1 K_h1
    refine T.seq_k (fun K_h1 h1 => ?_)
    refine T.seq_k (fun K_h0 h0 => ?_)
    refine T.regi hm ?_
    simp only [↓reduceIte, namesOf, List.any, I.names, aopsI, astep, ev, setd, List.set, List.getD, List.getElem?_cons_zero, List.getElem?_cons_succ, then_normal, Option.getD_some, Bool.or_false, Bool.false_eq_true, up_zero, g0, Bool.false_bne]
    refine h0 _ _ ?_
    try clear h0 K_h0
    refine T.cond rfl (fun _ => ?_) (fun h => by cases h)
    refine T.seq_k (fun K_h0 h0 => ?_)
    refine T.regi hm ?_
    simp only [↓reduceIte, namesOf, List.any, I.names, aopsI, astep, ev, setd, List.set, then_normal, Bool.or_false, Bool.false_eq_true, up_zero]
    refine h0 _ _ ?_
    try clear h0 K_h0
    exact T.ret (fin _ (fun id what page hv he => hc id (hcan _ _ _ hv he).1) rfl)
  have g0 : eqIv true [(tCode, .i64)] .nili .nili = some true := rfl
  try simp only [List.getElem?_cons_zero, List.getElem?_cons_succ]
  refine h1 _ _ ?_
  try clear h1 K_h1
  refine T.seq_k (fun K_h1 h1 => ?_)
  refine T.seq_k (fun K_h0 h0 => ?_)
  refine T.regi hm ?_
  simp only [↓reduceIte, namesOf, List.any, I.names, aopsI, astep, ev, setd, List.set, List.getD, List.getElem?_cons_zero, List.getElem?_cons_succ, then_normal, Option.getD_some, Bool.or_false, Bool.false_eq_true, up_zero, g0, bne_self_eq_false]
  refine h0 _ _ ?_
  try clear h0 K_h0
  refine T.cond rfl (fun h => by cases h) (fun _ => T.skip ?_)
  refine h1 _ _ ?_
  try clear h1 K_h1
  have hsz : ((⟨(c :: r).toArray⟩ : ByteArray).size : Int) = ((r.length + 1 : Nat) : Int) := by rw [sz_mk]; rfl
  have hx1 : (⟨(c :: r).toArray⟩ : ByteArray).extract 0 1 = ⟨[c].toArray⟩ := by rw [ba_cut]; simp
  have hx2 : (⟨(c :: r).toArray⟩ : ByteArray).extract 1 (r.length + 1) = ⟨r.toArray⟩ := by rw [ba_cut]; simp
  have h1le : (1 : Int) ≤ ((r.length + 1 : Nat) : Int) := by omega
  have qp : sbinv .eql ⟨[c].toArray⟩ ⟨#[112]⟩ = some (.bool (decide (c = 112))) := by
    simp only [sbinv, ba_eq [c] [112]]
    congr 3
    simp
  refine T.seq_k (fun K_h0 h0 => ?_)
  refine T.regi hm ?_
  simp only [↓reduceIte, namesOf, List.any, I.names, aopsI, astep, ev, setd, List.set, List.getD, List.getElem?_cons_zero, List.getElem?_cons_succ, List.length_cons, List.length_nil, then_normal, Option.getD_some, Bool.or_false, Bool.false_eq_true, up_zero, ↓opt_def, AV.cells, ldc, eq_self, hlen, i2, z2, g2, hsz, idx, h1le, hx1, Int.le_refl, and_self, Int.toNat_zero, Int.toNat_one, z1, Nat.zero_add]
  refine h0 _ _ ?_
  try clear h0 K_h0
  refine T.seq_k (fun K_h1 h1 => ?_)
  have nxt : ∀ (ρ' : List AV) (k : Int), i64r k → ((c = 112 ∧ ∀ m, canA r m → k = (m : Int)) ∨ (c ≠ 112 ∧ k = 0)) →
      keep [0, 7, 9, 10] 0 ρ' = [.str ⟨l.toArray⟩, .any, .any, .any, .any, .any, .any, .int .u64 (n : Int), .any, .str ⟨[c].toArray⟩, .int .i64 k] ++ List.replicate 48 .any → K_h1 ρ' σ := by
    intro ρ' k hk hkc hρ
    refine h1 _ _ ?_
    try clear h1 K_h1
    refine T.gh (Gh.keep [0, 7, 9, 10]) ?_
    rw [hρ]
    clear hρ ρ'
    have qn : sbinv .neq ⟨(nmF n [c] k).toArray⟩ ⟨l.toArray⟩ = some (.bool (!decide (nmF n [c] k = l))) := by simp only [sbinv, ba_eq]
    refine T.seq_k (fun K_h1 h1 => ?_)
    refine T.seq_k (fun K_h2 h2 => ?_)
    refine T.regi hm ?_
    simp only [↓reduceIte, namesOf, List.any, I.names, aopsI, astep, ev, setd, List.set, List.getD, List.getElem?_cons_zero, List.getElem?_cons_succ, List.cons_append, List.nil_append, List.replicate, then_normal, Option.getD_some, Bool.or_false, Bool.false_eq_true, up_zero, ↓opt_def, List.map_cons, List.map_nil]
    refine (mName_ok (what := [c]) hT hn hk (by simp)).mono ?_
    rintro v σ ⟨rfl, rfl⟩
    by_cases hnm : nmF n [c] k = l
    · rw [decide_eq_true hnm] at qn
      try simp only [qn, Bool.not_true]
      refine h2 _ _ ?_
      try clear h2 K_h2
      refine T.cond rfl (fun h => by cases h) (fun _ => T.skip ?_)
      refine h1 _ _ ?_
      try clear h1 K_h1
      refine T.seq_k (fun K_h0 h0 => ?_)
      refine T.regi hm ?_
      simp only [↓reduceIte, namesOf, List.any, I.names, aopsI, astep, ev, setd, List.set, List.getD, List.getElem?_cons_zero, List.getElem?_cons_succ, then_normal, Option.getD_some, Bool.or_false, Bool.false_eq_true, up_zero]
      refine h0 _ _ ?_
      try clear h0 K_h0
      have hw : What [c] := by
        by_cases h0 : What [c]
        · exact h0
        · have : nmF n [c] k = [] := by
            unfold nmF
            rw [if_neg (fun h => h0 (.inl h)), if_neg (fun h => h0 (.inr h))]
          rw [this] at hnm
          rw [← hnm] at hps
          simp [splitB] at hps
      have hparts := nm_split (id := n) (page := k) hw
      rw [hnm, hps] at hparts
      injection hparts with _ hparts
      injection hparts with _ hparts
      injection hparts with hp _
      have hv : V3 n [c] k := by
        refine ⟨hn, ?_⟩
        rcases hkc with ⟨rfl, hm⟩ | ⟨hne, h0⟩
        · unfold tailF at hp
          rw [if_pos rfl] at hp
          injection hp with _ hp
          have h1 : k.toNat % 1000 < 1000 := Nat.mod_lt _ (by omega)
          have := hm (k.toNat % 1000) ⟨h1, hp⟩
          exact .inl ⟨rfl, by omega, by omega⟩
        · exact .inr ⟨hw.resolve_left (fun h => hne (by simpa using h)), h0⟩
      exact T.ret (Fin.quiet rfl ⟨trivial, trivial, trivial, trivial, trivial⟩ (fun _ _ h => h) ⟨rfl, .inl ⟨n, [c], k, hv, hnm.symm, rfl⟩⟩)
    · rw [decide_eq_false hnm] at qn
      try simp only [qn, Bool.not_false]
      refine h2 _ _ ?_
      try clear h2 K_h2
      refine T.cond rfl (fun _ => ?_) (fun h => by cases h)
      refine T.seq_k (fun K_h0 h0 => ?_)
      refine T.regi hm ?_
      simp only [↓reduceIte, namesOf, List.any, I.names, aopsI, astep, ev, setd, List.set, then_normal, Bool.or_false, Bool.false_eq_true, up_zero]
      refine h0 _ _ ?_
      try clear h0 K_h0
      refine T.ret (fin _ (fun id what page hv he => hnm ?_) rfl)
      obtain ⟨a1, a2, a3⟩ := hcan _ _ _ hv he
      have b1 := hc id a1
      have b2 : k = page := by
        rcases hkc with ⟨h0, hm⟩ | ⟨h0, hm⟩ <;> rcases a3 with ⟨d1, d2, d3⟩ | ⟨d1, d2⟩
        · rw [hm _ d2, ← d3]
        · exact absurd h0 d1
        · exact absurd d1 h0
        · rw [hm, d2]
      rw [b1, b2, he, a2]
  by_cases h112 : c = 112
  · rw [decide_eq_true h112] at qp
    refine T.seq_k (fun K_h0 h0 => ?_)
    refine T.regi hm ?_
    simp only [↓reduceIte, namesOf, List.any, I.names, aopsI, astep, ev, setd, List.set, List.getD, List.getElem?_cons_zero, List.getElem?_cons_succ, then_normal, Option.getD_some, Bool.or_false, Bool.false_eq_true, up_zero, ↓opt_def, qp]
    refine h0 _ _ ?_
    try clear h0 K_h0
    refine T.cond rfl (fun _ => ?_) (fun h => by cases h)
    refine T.seq_k (fun K_h2 h2 => ?_)
    refine T.regi hm ?_
    simp only [↓reduceIte, namesOf, List.any, I.names, aopsI, astep, ev, setd, List.set, List.getD, List.getElem?_cons_zero, List.getElem?_cons_succ, List.length_cons, List.length_nil, then_normal, Option.getD_some, Bool.or_false, Bool.false_eq_true, up_zero, ↓opt_def, AV.cells, ldc, List.map_cons, List.map_nil, Int.toNat_natCast, eq_self, hlen, i2, z2, g2, hsz, idx, h1le, hx2, Int.le_refl, and_self, Int.toNat_one, z1, Nat.zero_add]
    refine (atoi_ok hE (by omega)).mono ?_
    rintro v σ ⟨rfl, k, e, hk, rfl, (⟨rfl, hmm⟩ | ⟨⟨cc, _, rfl⟩, hno⟩)⟩
    · try simp only [List.getElem?_cons_zero, List.getElem?_cons_succ]
      refine h2 _ _ ?_
      try clear h2 K_h2
      refine T.seq_k (fun K_h2 h2 => ?_)
      refine T.seq_k (fun K_h0 h0 => ?_)
      refine T.regi hm ?_
      simp only [↓reduceIte, namesOf, List.any, I.names, aopsI, astep, ev, setd, List.set, List.getD, List.getElem?_cons_zero, List.getElem?_cons_succ, then_normal, Option.getD_some, Bool.or_false, Bool.false_eq_true, up_zero, g0, bne_self_eq_false]
      refine h0 _ _ ?_
      try clear h0 K_h0
      refine T.cond rfl (fun h => by cases h) (fun _ => T.skip ?_)
      refine h2 _ _ ?_
      try clear h2 K_h2
      refine T.regi hm ?_
      simp only [↓reduceIte, namesOf, List.any, I.names, aopsI, astep, ev, setd, List.set, List.getD, List.getElem?_cons_zero, List.getElem?_cons_succ, then_normal, Option.getD_some, Bool.or_false, Bool.false_eq_true, up_zero]
      exact nxt _ k hk (.inl ⟨h112, hmm⟩) rfl
    · have g3 : eqIv true [(tCode, .i64)] (.iface t_nerr .any) .nili = some false := rfl
      try simp only [List.getElem?_cons_zero, List.getElem?_cons_succ]
      refine h2 _ _ ?_
      try clear h2 K_h2
      refine T.seq_k (fun K_h2 h2 => ?_)
      refine T.seq_k (fun K_h0 h0 => ?_)
      refine T.regi hm ?_
      simp only [↓reduceIte, namesOf, List.any, I.names, aopsI, astep, ev, setd, List.set, List.getD, List.getElem?_cons_zero, List.getElem?_cons_succ, then_normal, Option.getD_some, Bool.or_false, Bool.false_eq_true, up_zero, g3, Bool.false_bne]
      refine h0 _ _ ?_
      try clear h0 K_h0
      refine T.cond rfl (fun _ => ?_) (fun h => by cases h)
      refine T.seq_k (fun K_h0 h0 => ?_)
      refine T.regi hm ?_
      simp only [↓reduceIte, namesOf, List.any, I.names, aopsI, astep, ev, setd, List.set, then_normal, Bool.or_false, Bool.false_eq_true, up_zero]
      refine h0 _ _ ?_
      try clear h0 K_h0
      refine T.ret (fin _ (fun id what page hv he => ?_) rfl)
      rcases (hcan _ _ _ hv he).2.2 with ⟨_, d2, _⟩ | ⟨d1, _⟩
      · exact hno _ d2
      · exact d1 h112
  · rw [decide_eq_false h112] at qp
    refine T.seq_k (fun K_h0 h0 => ?_)
    refine T.regi hm ?_
    simp only [↓reduceIte, namesOf, List.any, I.names, aopsI, astep, ev, setd, List.set, List.getD, List.getElem?_cons_zero, List.getElem?_cons_succ, then_normal, Option.getD_some, Bool.or_false, Bool.false_eq_true, up_zero, ↓opt_def, qp]
    refine h0 _ _ ?_
    try clear h0 K_h0
    refine T.cond rfl (fun h => by cases h) (fun _ => T.skip ?_)
    exact nxt _ 0 ⟨by omega, by omega⟩ (.inr ⟨h112, rfl⟩) rfl

end Go.VL

namespace Go.VL

open Go.Proofs

theorem nmp_len {id : Nat} {what : List UInt8} {page : Int} (h : What what) : (nmF id what page).length = if what = [112] then 23 else 20 := by
  rw [nm_eq h]
  unfold tailF
  split
  · simp [dg_len]
  · rename_i hp
    rcases h with h | h | h | h | h
    · exact absurd h hp
    all_goals simp [h, dg_len]

end Go.VL

namespace Go.VL

open Go.Proofs

/-! ### Comparing -/

def cmp3 (a b : Int) : Int := if a < b then -1 else if b < a then 1 else 0

/-- the first that is not 0 -/
def orI : List Int → Int
  | [] => 0
  | n :: r => if n = 0 then orI r else n

/-- how two spans stand, by (Start, Id, Trace) -/
def cmpS (s i t s' i' t' : Int) : Int := orI [cmp3 s s', cmp3 i i', cmp3 t t']

def mayI (s e n : Int) : Bool := decide (0 ≤ s ∧ s ≤ e ∧ e ≤ 1099511627776 ∧ n ≤ 64)

def g_scmp : List AV → Option AV
  | [.agg [.int .u64 t, .int .u64 i, .int .i64 s, _, _], .agg [.int .u64 t', .int .u64 i', .int .i64 s', _, _]] => some (.int .i64 (cmpS s i t s' i' t'))
  | _ => none

def g_may : List AV → Option AV
  | [.agg [_, _, .int .i64 s, .int .i64 e, .sl xs _]] => some (.bool (mayI s e xs.length))
  | _ => none

def tS : Tbl := [(n_scmp, g_scmp), (n_may, g_may)]

end Go.VL

namespace Go.VL

open Go.Proofs

def metAV (l : List Nat) : List (AV × AV) := l.map fun n : Nat => (.int .u64 (n : Int), .bool true)

theorem met_put (l : List Nat) (n : Nat) (h : l.contains n = false) : mput (.int .u64 (n : Int)) (.bool true) (metAV l) = metAV (l ++ [n]) := by
  induction l with
  | nil => rfl
  | cons a r ih =>
    unfold metAV at ih ⊢
    simp only [List.contains_cons, Bool.or_eq_false_iff] at h
    have h1 : ((n : Int) == (a : Int)) = false := by have := h.1; simp at this ⊢; omega
    simp only [List.map_cons, mput, keq, if_true, h1, ih h.2, List.cons_append]

structure OneSt (σ σ' : St) (a m : Nat) (t : Tc) (l : List Nat) : Prop where
  a0 : σ.next ≤ a
  m0 : σ.next ≤ m
  a1 : a < σ'.next
  m1 : m < σ'.next
  obj : σ'.res a = some (.obj t.av.cells)
  map : σ'.res m = some (.map (metAV l) (List.range l.length) l.length)
  old : ∀ n r, σ.res n = some r → σ'.res n = some r

theorem OneSt.put {σ σ' : St} {a m : Nat} {t : Tc} {l : List Nat} {n : Nat} (wf : WF σ) (ham : a ≠ m) (h : OneSt σ σ' a m t l) (hn : l.contains n = false) : OneSt σ (σ'.set m (.map (mput (.int .u64 (n : Int)) (.bool true) (metAV l)) (List.range l.length ++ [l.length]) (l.length + 1))) a m t (l ++ [n]) where
  a0 := h.a0
  m0 := h.m0
  a1 := h.a1
  m1 := h.m1
  obj := by rw [St.set_other _ _ ham]; exact h.obj
  map := by rw [St.set_same, met_put l n hn, List.length_append, List.length_singleton, List.range_succ]
  old := fun n r' hr => by
    have hn : n < σ.next := by
      rcases Nat.lt_or_ge n σ.next with h' | h'
      · exact h'
      · rw [wf n h'] at hr; cases hr
    rw [St.set_other _ _ (by have := h.m0; omega)]; exact h.old n r' hr

end Go.VL

namespace Go.VL

open Go.Proofs

/-- a span whose Ids are words -/
def Sp.wd (s : Sp) : Prop := s.tr < 18446744073709551616 ∧ s.id < 18446744073709551616

end Go.VL

namespace Go.VL

/-- does a span stand ahead of another one? -/
def aheadS (a b : Sp) : Bool := if a.st ≠ b.st then decide (a.st < b.st) else if a.id ≠ b.id then decide (a.id < b.id) else decide (a.tr < b.tr)

/-- of two of one Trace and one Id: is the first one the lesser one? -/
def lessS (a b : Sp) : Bool := if a.st ≠ b.st then decide (a.st < b.st) else if a.en ≠ b.en then decide (a.en < b.en) else Op.bytesLess a.da b.da

/-- does a span of l count? -/
def outAt (l : List Sp) (x : Sp) (i k : Nat) : Bool := match l[k]? with
  | some y => decide (y.tr = x.tr) && decide (y.id = x.id) && (lessS y x || (decide (y = x) && decide (k < i)))
  | none => false

def countsB (l : List Sp) (i : Nat) : Bool := match l[i]? with
  | some x => (List.range l.length).all fun k => !outAt l x i k
  | none => false

def lastAt (out : List Sp) (x : Sp) : Nat → Nat
  | 0 => 0
  | k + 1 => match out[k]? with
    | some y => if aheadS y x then k + 1 else lastAt out x k
    | none => lastAt out x k

def insS (out : List Sp) (x : Sp) : List Sp := out.take (lastAt out x out.length) ++ [x] ++ out.drop (lastAt out x out.length)

/-- what is gathered of the first n -/
def gatherN (l : List Sp) : Nat → List Sp
  | 0 => []
  | n + 1 => match l[n]? with
    | some x => if countsB l n then insS (gatherN l n) x else gatherN l n
    | none => gatherN l n

def gatherL (l : List Sp) : List Sp := gatherN l l.length

end Go.VL

namespace Go.VL

open Go.Proofs

/-- an end that is owned, and what was owned ahead of it -/
structure Tp (σ σ' : St) (g k : Nat) : Prop where
  lo : σ.next ≤ g
  hi : g < σ'.next
  at_ : σ'.res g = some (.tip k)
  old : ∀ n x, σ.res n = some x → σ'.res n = some x

theorem Tp.new {σ σ' : St} {k n i : Nat} (wf : WF σ) (hn : σ.next ≤ σ'.next) (ho : ∀ n x, σ.res n = some x → σ'.res n = some x) (hi : i < n) : Tp σ ((σ'.up n).set (σ'.next + i) (.tip k)) (σ'.next + i) k :=
  ⟨by omega, by simp; omega, by simp, set_quiet wf hn ho _ (by omega)⟩

theorem Tp.mv {σ σ' : St} {g g2 k : Nat} (wf : WF σ) (h : Tp σ σ' g k) (hlo : σ.next ≤ g2) (hhi : g2 < σ'.next) : Tp σ ((σ'.del g).set g2 (.tip k)) g2 k :=
  ⟨hlo, by simpa using hhi, by simp, fun n x hr => by
    have hn : n < σ.next := by
      rcases Nat.lt_or_ge n σ.next with h' | h'
      · exact h'
      · rw [wf n h'] at hr; cases hr
    have h1 := h.lo
    rw [St.set_other _ _ (by omega)]
    simp only [St.del]
    rw [if_neg (by omega)]; exact h.old n x hr⟩

theorem Tp.up {σ σ' : St} {g k : Nat} (h : Tp σ σ' g k) (n : Nat) : Tp σ (σ'.up n) g k := ⟨h.lo, Nat.lt_of_lt_of_le h.hi (Nat.le_add_right _ _), h.at_, h.old⟩

end Go.VL

namespace Go.VL

open Go.Proofs

/-- a reader (an owned thing nm), a row that grows, and names that nobody knows -/
structure Rk (σ t : St) (nm : Nat) (r : Res) (k : Nat) (v : Ver) : Prop where
  like : Like σ t
  lo : σ.next ≤ nm
  hi : nm < t.next
  at_ : t.res nm = some r
  ver : v = .nil ∨ ∃ g, v = .tip g ∧ g ≠ nm ∧ σ.next ≤ g ∧ g < t.next ∧ t.res g = some (.tip k)

theorem Rk.set {σ t : St} {nm k : Nat} {r : Res} {v : Ver} (h : Rk σ t nm r k v) (r' : Res) : Rk σ (t.set nm r') nm r' k v :=
  ⟨h.like.set _ h.lo, h.lo, h.hi, by simp, h.ver.imp id fun ⟨g, a1, a2, a3, a4, a5⟩ => ⟨g, a1, a2, a3, a4, by rw [St.set_other _ _ a2]; exact a5⟩⟩

theorem Rk.up {σ t : St} {nm k : Nat} {r : Res} {v : Ver} (h : Rk σ t nm r k v) (n : Nat) : Rk σ (t.up n) nm r k v :=
  ⟨h.like.up n, h.lo, Nat.lt_of_lt_of_le h.hi (Nat.le_add_right _ _), h.at_, h.ver.imp id fun ⟨g, a1, a2, a3, a4, a5⟩ => ⟨g, a1, a2, a3, Nat.lt_of_lt_of_le a4 (Nat.le_add_right _ _), a5⟩⟩

theorem Rk.new {σ t : St} {nm k : Nat} {r : Res} {v : Ver} (h : Rk σ t nm r k v) {a : Nat} (r' : Res) (ha : σ.next ≤ a) (hn : a ≠ nm) (hv : ∀ g, v = .tip g → a ≠ g) : Rk σ (t.set a r') nm r k v :=
  ⟨h.like.set _ ha, h.lo, h.hi, by rw [St.set_other _ _ (Ne.symm hn)]; exact h.at_, h.ver.imp id fun ⟨g, a1, a2, a3, a4, a5⟩ => ⟨g, a1, a2, a3, a4, by rw [St.set_other _ _ (Ne.symm (hv g a1))]; exact a5⟩⟩

theorem Rk.lt {σ t : St} {nm k : Nat} {r : Res} {v : Ver} (h : Rk σ t nm r k v) {g : Nat} (hv : v = .tip g) : g < t.next := by
  rcases h.ver with e | ⟨g', e, _, _, h4, _⟩
  · rw [hv] at e; cases e
  · rw [hv] at e; cases e; exact h4

end Go.VL

namespace Go.VL

open Go.Proofs

open Classical in
noncomputable def gGather (args : List AV) : Option AV := if h : ∃ l : List Sp, args = [.sl (spsAV l) .none] ∧ l.length ≤ 1000000 then some (.sl (spsAV (gatherL h.choose)) .none) else none

open Classical in
noncomputable def gSpans (args : List AV) : Option AV := if h : ∃ p : List Sp × List Sp, args = [.sl (spsAV p.1) .none, .sl (spsAV p.2) .none] ∧ p.1.length ≤ 1000000 then some (.bool (decide (h.choose.1 = h.choose.2))) else none

noncomputable def tI : Tbl := [(n_rgather, gGather), (n_rspans, gSpans)]

end Go.VL

namespace Go.VL

open Go.Proofs

/-- the reader's place in what is left of the bytes -/
def sh (k : Nat) (s : Rs) : Rs := ⟨s.at_ - k, if s.bad = -1 then -1 else s.bad - k⟩

structure SH (k : Nat) (b : List UInt8) (s : Rs) : Prop where
  ok : s.ok b
  len : k ≤ b.length
  lo : (k : Int) ≤ s.at_
  bad : s.bad = -1 ∨ (k : Int) ≤ s.bad

theorem SH.neg {k : Nat} {b : List UInt8} {s : Rs} (h : SH k b s) : (sh k s).bad = -1 ↔ s.bad = -1 := by
  unfold sh; have := h.bad
  split <;> simp_all <;> omega

theorem SH.pos {k : Nat} {b : List UInt8} {s : Rs} (h : SH k b s) : 0 ≤ (sh k s).bad ↔ 0 ≤ s.bad := by
  unfold sh; have := h.bad
  split <;> simp_all <;> omega

theorem SH.rt {k : Nat} {b : List UInt8} {s : Rs} (h : SH k b s) (w : Int) : rT (b.drop k) (sh k s) w = rT b s w := by
  have e := h.neg
  have := h.len
  unfold rT
  rw [Bool.eq_iff_iff, decide_eq_true_eq, decide_eq_true_eq, e, List.length_drop]
  unfold sh
  constructor <;> rintro ⟨h1, h2⟩ <;> refine ⟨h1, ?_⟩ <;> simp only [] at * <;> omega

theorem SH.rw {k : Nat} {b : List UInt8} {s : Rs} (h : SH k b s) (w : Nat) : rW (b.drop k) (sh k s) w = rW b s w := by
  unfold rW
  rw [h.rt]
  have : (b.drop k).drop (sh k s).at_.toNat = b.drop s.at_.toNat := by
    rw [List.drop_drop]; unfold sh; have := h.lo; congr 1; simp only []; omega
  rw [this]

end Go.VL

namespace Go.VL

open Go.Proofs

-- tb05: not of this seat

/-- traces whose numbers are words -/
def Tc.wd (t : Tc) : Prop := t.id < 18446744073709551616 ∧ ∀ s ∈ t.sp, s.wd

end Go.VL

namespace Go.VL

open Go.Proofs

structure Mt where
  id : Nat
  level : Int
  st : Int
  en : Int
  pages : Int
  traces : Int
  deriving DecidableEq

abbrev mtC (m : Mt) : List AV := [.int .u64 (m.id : Int), .int .i64 m.level, .int .i64 m.st, .int .i64 m.en, .int .i64 m.pages, .int .i64 m.traces]

/-- do metas rise by Id? -/
abbrev RisM (l : List Mt) : Prop := l.Pairwise fun x y => x.id < y.id

theorem RisM.bad {l : List Mt} {i : Nat} {x y : Mt} (hi : 0 < i) (hx : l[i - 1]? = some x) (hy : l[i]? = some y) (hlt : ¬ x.id < y.id) : ¬ RisM l := fun h => by
  obtain ⟨hil, rfl⟩ := List.getElem?_eq_some_iff.1 hy
  obtain ⟨hil2, rfl⟩ := List.getElem?_eq_some_iff.1 hx
  exact hlt (List.pairwise_iff_getElem.1 h _ _ hil2 hil (by omega))

end Go.VL

namespace Go.VL

open Go.Proofs

abbrev mayM (m : Mt) : Prop := (m.id : Int) ≥ 1 ∧ m.level ≥ 0 ∧ m.level ≤ 10 ∧ m.st ≥ 0 ∧ m.st ≤ m.en ∧ m.en ≤ 1099511627776 ∧ m.pages ≥ 1 ∧ m.pages ≤ 200 ∧ m.traces ≥ m.pages ∧ m.traces ≤ m.pages * 64

set_option maxRecDepth 10000 in
set_option maxHeartbeats 1000000 in
theorem mMay_ok {m : Mt} {σ : St} : ACalls Tryz.prog n_mMay [.agg [.int .u64 (m.id : Int), .int .i64 m.level, .int .i64 m.st, .int .i64 m.en, .int .i64 m.pages, .int .i64 m.traces]] σ (fun v σ' => v = .bool (decide (mayM m)) ∧ σ' = σ) := by
  refine s_mMay (fun wf => ?_)
  unfold c_mMay
  refine T.seq_k (fun K_h0 h0 => ?_)
  refine T.regi hm ?_
  simp only [↓reduceIte, namesOf, List.any, I.names, aopsI, astep, ev, setd, List.set, List.getD, List.getElem?_cons_zero, List.cons_append, List.nil_append, List.length_cons, List.length_nil, List.replicate, then_normal, Option.getD_some, Bool.or_false, Bool.false_eq_true, Nat.reduceAdd, Nat.reduceSub, AV.isAny, AV.cells, eq_self]
  refine h0 _ _ ?_
  try clear h0 K_h0
  have hb : ((σ.up 2).set (σ.next + 0) (.obj [.int .u64 (m.id : Int), .int .i64 m.level, .int .i64 m.st, .int .i64 m.en, .int .i64 m.pages, .int .i64 m.traces])).res (σ.next + 0) = some (.obj [.int .u64 (m.id : Int), .int .i64 m.level, .int .i64 m.st, .int .i64 m.en, .int .i64 m.pages, .int .i64 m.traces]) := St.set_same _ _ _
  have hL : Like σ ((σ.up 2).set (σ.next + 0) (.obj [.int .u64 (m.id : Int), .int .i64 m.level, .int .i64 m.st, .int .i64 m.en, .int .i64 m.pages, .int .i64 m.traces])) := (Like.refl σ).box (n := 2) (i := 0) _
  generalize ((σ.up 2).set (σ.next + 0) (.obj [.int .u64 (m.id : Int), .int .i64 m.level, .int .i64 m.st, .int .i64 m.en, .int .i64 m.pages, .int .i64 m.traces])) = t at hb hL ⊢
  generalize σ.next + 0 = b at hb ⊢
  by_cases c1 : (m.id : Int) ≥ 1
  case neg =>
    have f1 : decide ((m.id : Int) ≥ 1) = false := decide_eq_false c1
    have hm0 : decide (mayM m) = false := decide_eq_false (fun h => c1 h.1)
    refine T.seq_k (fun K_h0 h0 => ?_)
    refine T.regi hm ?_
    simp only [↓reduceIte, namesOf, List.any, I.names, aopsI, astep, ev, setd, List.set, List.getD, List.getElem?_cons_zero, List.getElem?_cons_succ, then_normal, Option.getD_some, Bool.or_false, Bool.false_eq_true, up_zero, binv, ↓opt_def, ldc, eq_self, hb, Nat.zero_add, f1]
    refine h0 _ _ ?_
    try clear h0 K_h0
    exact T.ret (Fin.quiet rfl trivial (hL.quiet wf) ⟨by rw [hm0]; rfl, rfl⟩)
  have f1 : decide ((m.id : Int) ≥ 1) = true := decide_eq_true c1
  by_cases c2 : m.level ≥ 0
  case neg =>
    have f2 : decide (m.level ≥ 0) = false := decide_eq_false c2
    have hm0 : decide (mayM m) = false := decide_eq_false (fun h => c2 h.2.1)
    refine T.seq_k (fun K_h0 h0 => ?_)
    refine T.regi hm ?_
    simp only [↓reduceIte, namesOf, List.any, I.names, aopsI, astep, ev, setd, List.set, List.getD, List.getElem?_cons_zero, List.getElem?_cons_succ, then_normal, Option.getD_some, Bool.or_false, Bool.false_eq_true, up_zero, binv, ↓opt_def, ldc, eq_self, hb, Nat.zero_add, f1, f2]
    refine h0 _ _ ?_
    try clear h0 K_h0
    exact T.ret (Fin.quiet rfl trivial (hL.quiet wf) ⟨by rw [hm0]; rfl, rfl⟩)
  have f2 : decide (m.level ≥ 0) = true := decide_eq_true c2
  by_cases c3 : m.level ≤ 10
  case neg =>
    have f3 : decide (m.level ≤ 10) = false := decide_eq_false c3
    have hm0 : decide (mayM m) = false := decide_eq_false (fun h => c3 h.2.2.1)
    refine T.seq_k (fun K_h0 h0 => ?_)
    refine T.regi hm ?_
    simp only [↓reduceIte, namesOf, List.any, I.names, aopsI, astep, ev, setd, List.set, List.getD, List.getElem?_cons_zero, List.getElem?_cons_succ, then_normal, Option.getD_some, Bool.or_false, Bool.false_eq_true, up_zero, binv, ↓opt_def, ldc, eq_self, hb, Nat.zero_add, f1, f2, f3]
    refine h0 _ _ ?_
    try clear h0 K_h0
    exact T.ret (Fin.quiet rfl trivial (hL.quiet wf) ⟨by rw [hm0]; rfl, rfl⟩)
  have f3 : decide (m.level ≤ 10) = true := decide_eq_true c3
  by_cases c4 : m.st ≥ 0
  case neg =>
    have f4 : decide (m.st ≥ 0) = false := decide_eq_false c4
    have hm0 : decide (mayM m) = false := decide_eq_false (fun h => c4 h.2.2.2.1)
    refine T.seq_k (fun K_h0 h0 => ?_)
    refine T.regi hm ?_
    simp only [↓reduceIte, namesOf, List.any, I.names, aopsI, astep, ev, setd, List.set, List.getD, List.getElem?_cons_zero, List.getElem?_cons_succ, then_normal, Option.getD_some, Bool.or_false, Bool.false_eq_true, up_zero, binv, ↓opt_def, ldc, eq_self, hb, Nat.zero_add, f1, f2, f3, f4]
    refine h0 _ _ ?_
    try clear h0 K_h0
    exact T.ret (Fin.quiet rfl trivial (hL.quiet wf) ⟨by rw [hm0]; rfl, rfl⟩)
  have f4 : decide (m.st ≥ 0) = true := decide_eq_true c4
  by_cases c5 : m.st ≤ m.en
  case neg =>
    have f5 : decide (m.st ≤ m.en) = false := decide_eq_false c5
    have hm0 : decide (mayM m) = false := decide_eq_false (fun h => c5 h.2.2.2.2.1)
    refine T.seq_k (fun K_h0 h0 => ?_)
    refine T.regi hm ?_
    simp only [↓reduceIte, namesOf, List.any, I.names, aopsI, astep, ev, setd, List.set, List.getD, List.getElem?_cons_zero, List.getElem?_cons_succ, then_normal, Option.getD_some, Bool.or_false, Bool.false_eq_true, up_zero, binv, ↓opt_def, ldc, eq_self, hb, Nat.zero_add, f1, f2, f3, f4, f5]
    refine h0 _ _ ?_
    try clear h0 K_h0
    exact T.ret (Fin.quiet rfl trivial (hL.quiet wf) ⟨by rw [hm0]; rfl, rfl⟩)
  have f5 : decide (m.st ≤ m.en) = true := decide_eq_true c5
  by_cases c6 : m.en ≤ 1099511627776
  case neg =>
    have f6 : decide (m.en ≤ 1099511627776) = false := decide_eq_false c6
    have hm0 : decide (mayM m) = false := decide_eq_false (fun h => c6 h.2.2.2.2.2.1)
    refine T.seq_k (fun K_h0 h0 => ?_)
    refine T.regi hm ?_
    simp only [↓reduceIte, namesOf, List.any, I.names, aopsI, astep, ev, setd, List.set, List.getD, List.getElem?_cons_zero, List.getElem?_cons_succ, then_normal, Option.getD_some, Bool.or_false, Bool.false_eq_true, up_zero, binv, ↓opt_def, ldc, eq_self, hb, Nat.zero_add, f1, f2, f3, f4, f5, f6]
    refine h0 _ _ ?_
    try clear h0 K_h0
    exact T.ret (Fin.quiet rfl trivial (hL.quiet wf) ⟨by rw [hm0]; rfl, rfl⟩)
  have f6 : decide (m.en ≤ 1099511627776) = true := decide_eq_true c6
  by_cases c7 : m.pages ≥ 1
  case neg =>
    have f7 : decide (m.pages ≥ 1) = false := decide_eq_false c7
    have hm0 : decide (mayM m) = false := decide_eq_false (fun h => c7 h.2.2.2.2.2.2.1)
    refine T.seq_k (fun K_h0 h0 => ?_)
    refine T.regi hm ?_
    simp only [↓reduceIte, namesOf, List.any, I.names, aopsI, astep, ev, setd, List.set, List.getD, List.getElem?_cons_zero, List.getElem?_cons_succ, then_normal, Option.getD_some, Bool.or_false, Bool.false_eq_true, up_zero, binv, ↓opt_def, ldc, eq_self, hb, Nat.zero_add, f1, f2, f3, f4, f5, f6, f7]
    refine h0 _ _ ?_
    try clear h0 K_h0
    exact T.ret (Fin.quiet rfl trivial (hL.quiet wf) ⟨by rw [hm0]; rfl, rfl⟩)
  have f7 : decide (m.pages ≥ 1) = true := decide_eq_true c7
  by_cases c8 : m.pages ≤ 200
  case neg =>
    have f8 : decide (m.pages ≤ 200) = false := decide_eq_false c8
    have hm0 : decide (mayM m) = false := decide_eq_false (fun h => c8 h.2.2.2.2.2.2.2.1)
    refine T.seq_k (fun K_h0 h0 => ?_)
    refine T.regi hm ?_
    simp only [↓reduceIte, namesOf, List.any, I.names, aopsI, astep, ev, setd, List.set, List.getD, List.getElem?_cons_zero, List.getElem?_cons_succ, then_normal, Option.getD_some, Bool.or_false, Bool.false_eq_true, up_zero, binv, ↓opt_def, ldc, eq_self, hb, Nat.zero_add, f1, f2, f3, f4, f5, f6, f7, f8]
    refine h0 _ _ ?_
    try clear h0 K_h0
    exact T.ret (Fin.quiet rfl trivial (hL.quiet wf) ⟨by rw [hm0]; rfl, rfl⟩)
  have f8 : decide (m.pages ≤ 200) = true := decide_eq_true c8
  by_cases c9 : m.traces ≥ m.pages
  case neg =>
    have f9 : decide (m.traces ≥ m.pages) = false := decide_eq_false c9
    have hm0 : decide (mayM m) = false := decide_eq_false (fun h => c9 h.2.2.2.2.2.2.2.2.1)
    refine T.seq_k (fun K_h0 h0 => ?_)
    refine T.regi hm ?_
    simp only [↓reduceIte, namesOf, List.any, I.names, aopsI, astep, ev, setd, List.set, List.getD, List.getElem?_cons_zero, List.getElem?_cons_succ, then_normal, Option.getD_some, Bool.or_false, Bool.false_eq_true, up_zero, binv, ↓opt_def, ldc, eq_self, hb, Nat.zero_add, f1, f2, f3, f4, f5, f6, f7, f8, f9]
    refine h0 _ _ ?_
    try clear h0 K_h0
    exact T.ret (Fin.quiet rfl trivial (hL.quiet wf) ⟨by rw [hm0]; rfl, rfl⟩)
  have f9 : decide (m.traces ≥ m.pages) = true := decide_eq_true c9
  have hw : IntKind.i64.wrap (m.pages * 64) = m.pages * 64 := wrap64 (by omega) (by omega)
  by_cases c10 : m.traces ≤ m.pages * 64
  case neg =>
    have f10 : decide (m.traces ≤ m.pages * 64) = false := decide_eq_false c10
    have hm0 : decide (mayM m) = false := decide_eq_false (fun h => c10 h.2.2.2.2.2.2.2.2.2)
    refine T.seq_k (fun K_h0 h0 => ?_)
    refine T.regi hm ?_
    simp only [↓reduceIte, namesOf, List.any, I.names, aopsI, astep, ev, setd, List.set, List.getD, List.getElem?_cons_zero, List.getElem?_cons_succ, then_normal, Option.getD_some, Bool.or_false, Bool.false_eq_true, up_zero, binv, ↓opt_def, ldc, eq_self, hb, Nat.zero_add, f1, f2, f3, f4, f5, f6, f7, f8, f9, f10, hw]
    refine h0 _ _ ?_
    try clear h0 K_h0
    exact T.ret (Fin.quiet rfl trivial (hL.quiet wf) ⟨by rw [hm0]; rfl, rfl⟩)
  have f10 : decide (m.traces ≤ m.pages * 64) = true := decide_eq_true c10
  have hm0 : decide (mayM m) = true := decide_eq_true ⟨c1, c2, c3, c4, c5, c6, c7, c8, c9, c10⟩
  refine T.seq_k (fun K_h0 h0 => ?_)
  refine T.regi hm ?_
  simp only [↓reduceIte, namesOf, List.any, I.names, aopsI, astep, ev, setd, List.set, List.getD, List.getElem?_cons_zero, List.getElem?_cons_succ, then_normal, Option.getD_some, Bool.or_false, Bool.false_eq_true, up_zero, binv, ↓opt_def, ldc, eq_self, hb, Nat.zero_add, f1, f2, f3, f4, f5, f6, f7, f8, f9, f10, hw]
  refine h0 _ _ ?_
  try clear h0 K_h0
  exact T.ret (Fin.quiet rfl trivial (hL.quiet wf) ⟨by rw [hm0]; rfl, rfl⟩)

structure Mk where
  id : Nat
  at_ : Int
  by_ : Nat

abbrev fairM (k : Mk) : Prop := (k.id : Int) ≥ 1 ∧ k.at_ ≥ 0 ∧ k.at_ ≤ 1099511627776 ∧ k.by_ ≠ k.id

abbrev mkC (k : Mk) : List AV := [.int .u64 (k.id : Int), .int .i64 k.at_, .int .u64 (k.by_ : Int)]

set_option maxRecDepth 10000 in
theorem mFair_ok {k : Mk} {σ : St} : ACalls Tryz.prog n_mFair [.agg [.int .u64 (k.id : Int), .int .i64 k.at_, .int .u64 (k.by_ : Int)]] σ (fun v σ' => v = .bool (decide (fairM k)) ∧ σ' = σ) := by
  refine s_mFair (fun wf => ?_)
  unfold c_mFair
  refine T.seq_k (fun K_h0 h0 => ?_)
  refine T.regi hm ?_
  simp only [↓reduceIte, namesOf, List.any, I.names, aopsI, astep, ev, setd, List.set, List.getD, List.getElem?_cons_zero, List.cons_append, List.nil_append, List.length_cons, List.length_nil, List.replicate, then_normal, Option.getD_some, Bool.or_false, Bool.false_eq_true, Nat.reduceAdd, Nat.reduceSub, AV.isAny, AV.cells, eq_self]
  refine h0 _ _ ?_
  try clear h0 K_h0
  have hb : ((σ.up 2).set (σ.next + 0) (.obj [.int .u64 (k.id : Int), .int .i64 k.at_, .int .u64 (k.by_ : Int)])).res (σ.next + 0) = some (.obj [.int .u64 (k.id : Int), .int .i64 k.at_, .int .u64 (k.by_ : Int)]) := St.set_same _ _ _
  have hL : Like σ ((σ.up 2).set (σ.next + 0) (.obj [.int .u64 (k.id : Int), .int .i64 k.at_, .int .u64 (k.by_ : Int)])) := (Like.refl σ).box (n := 2) (i := 0) _
  generalize ((σ.up 2).set (σ.next + 0) (.obj [.int .u64 (k.id : Int), .int .i64 k.at_, .int .u64 (k.by_ : Int)])) = t at hb hL ⊢
  generalize σ.next + 0 = b at hb ⊢
  by_cases c1 : (k.id : Int) ≥ 1
  case neg =>
    have f1 : decide ((k.id : Int) ≥ 1) = false := decide_eq_false c1
    have hm0 : decide (fairM k) = false := decide_eq_false (fun h => c1 (by have := h.1; omega))
    refine T.seq_k (fun K_h0 h0 => ?_)
    refine T.regi hm ?_
    simp only [↓reduceIte, namesOf, List.any, I.names, aopsI, astep, ev, setd, List.set, List.getD, List.getElem?_cons_zero, List.getElem?_cons_succ, then_normal, Option.getD_some, Bool.or_false, Bool.false_eq_true, up_zero, binv, ↓opt_def, ldc, eq_self, hb, Nat.zero_add, f1]
    refine h0 _ _ ?_
    try clear h0 K_h0
    exact T.ret (Fin.quiet rfl trivial (hL.quiet wf) ⟨by rw [hm0]; rfl, rfl⟩)
  have f1 : decide ((k.id : Int) ≥ 1) = true := decide_eq_true c1
  by_cases c2 : k.at_ ≥ 0
  case neg =>
    have f2 : decide (k.at_ ≥ 0) = false := decide_eq_false c2
    have hm0 : decide (fairM k) = false := decide_eq_false (fun h => c2 (by have := h.2.1; omega))
    refine T.seq_k (fun K_h0 h0 => ?_)
    refine T.regi hm ?_
    simp only [↓reduceIte, namesOf, List.any, I.names, aopsI, astep, ev, setd, List.set, List.getD, List.getElem?_cons_zero, List.getElem?_cons_succ, then_normal, Option.getD_some, Bool.or_false, Bool.false_eq_true, up_zero, binv, ↓opt_def, ldc, eq_self, hb, Nat.zero_add, f1, f2]
    refine h0 _ _ ?_
    try clear h0 K_h0
    exact T.ret (Fin.quiet rfl trivial (hL.quiet wf) ⟨by rw [hm0]; rfl, rfl⟩)
  have f2 : decide (k.at_ ≥ 0) = true := decide_eq_true c2
  by_cases c3 : k.at_ ≤ 1099511627776
  case neg =>
    have f3 : decide (k.at_ ≤ 1099511627776) = false := decide_eq_false c3
    have hm0 : decide (fairM k) = false := decide_eq_false (fun h => c3 (by have := h.2.2.1; omega))
    refine T.seq_k (fun K_h0 h0 => ?_)
    refine T.regi hm ?_
    simp only [↓reduceIte, namesOf, List.any, I.names, aopsI, astep, ev, setd, List.set, List.getD, List.getElem?_cons_zero, List.getElem?_cons_succ, then_normal, Option.getD_some, Bool.or_false, Bool.false_eq_true, up_zero, binv, ↓opt_def, ldc, eq_self, hb, Nat.zero_add, f1, f2, f3]
    refine h0 _ _ ?_
    try clear h0 K_h0
    exact T.ret (Fin.quiet rfl trivial (hL.quiet wf) ⟨by rw [hm0]; rfl, rfl⟩)
  have f3 : decide (k.at_ ≤ 1099511627776) = true := decide_eq_true c3
  have hm0 : decide (fairM k) = ((k.by_ : Int) != (k.id : Int)) := by
    by_cases h : k.by_ = k.id
    · rw [decide_eq_false (fun hf => hf.2.2.2 h), h]; simp
    · rw [decide_eq_true ⟨by omega, c2, c3, h⟩]; symm; simp; omega
  refine T.seq_k (fun K_h0 h0 => ?_)
  refine T.regi hm ?_
  simp only [↓reduceIte, namesOf, List.any, I.names, aopsI, astep, ev, setd, List.set, List.getD, List.getElem?_cons_zero, List.getElem?_cons_succ, then_normal, Option.getD_some, Bool.or_false, Bool.false_eq_true, up_zero, binv, ↓opt_def, ldc, eq_self, hb, Nat.zero_add, f1, f2, f3]
  refine h0 _ _ ?_
  try clear h0 K_h0
  exact T.ret (Fin.quiet rfl trivial (hL.quiet wf) ⟨by rw [hm0]; rfl, rfl⟩)

set_option maxRecDepth 10000 in
theorem rFair_ok {k : Mk} {σ : St} : ACalls Tryz.prog n_rFair [.agg [.int .u64 (k.id : Int), .int .i64 k.at_, .int .u64 (k.by_ : Int)]] σ (fun v σ' => v = .bool (decide (fairM k)) ∧ σ' = σ) := by
  refine s_rFair (fun wf => ?_)
  unfold c_rFair
  refine T.seq_k (fun K_h0 h0 => ?_)
  refine T.regi hm ?_
  simp only [↓reduceIte, namesOf, List.any, I.names, aopsI, astep, ev, setd, List.set, List.getD, List.getElem?_cons_zero, List.cons_append, List.nil_append, List.length_cons, List.length_nil, List.replicate, then_normal, Option.getD_some, Bool.or_false, Bool.false_eq_true, Nat.reduceAdd, Nat.reduceSub, AV.isAny, AV.cells, eq_self]
  refine h0 _ _ ?_
  try clear h0 K_h0
  have hb : ((σ.up 2).set (σ.next + 0) (.obj [.int .u64 (k.id : Int), .int .i64 k.at_, .int .u64 (k.by_ : Int)])).res (σ.next + 0) = some (.obj [.int .u64 (k.id : Int), .int .i64 k.at_, .int .u64 (k.by_ : Int)]) := St.set_same _ _ _
  have hL : Like σ ((σ.up 2).set (σ.next + 0) (.obj [.int .u64 (k.id : Int), .int .i64 k.at_, .int .u64 (k.by_ : Int)])) := (Like.refl σ).box (n := 2) (i := 0) _
  generalize ((σ.up 2).set (σ.next + 0) (.obj [.int .u64 (k.id : Int), .int .i64 k.at_, .int .u64 (k.by_ : Int)])) = t at hb hL ⊢
  generalize σ.next + 0 = b at hb ⊢
  by_cases c1 : (k.id : Int) > 0
  case neg =>
    have f1 : decide ((k.id : Int) > 0) = false := decide_eq_false c1
    have hm0 : decide (fairM k) = false := decide_eq_false (fun h => c1 (by have := h.1; omega))
    refine T.seq_k (fun K_h0 h0 => ?_)
    refine T.regi hm ?_
    simp only [↓reduceIte, namesOf, List.any, I.names, aopsI, astep, ev, setd, List.set, List.getD, List.getElem?_cons_zero, List.getElem?_cons_succ, then_normal, Option.getD_some, Bool.or_false, Bool.false_eq_true, up_zero, binv, ↓opt_def, ldc, eq_self, hb, Nat.zero_add, f1]
    refine h0 _ _ ?_
    try clear h0 K_h0
    exact T.ret (Fin.quiet rfl trivial (hL.quiet wf) ⟨by rw [hm0]; rfl, rfl⟩)
  have f1 : decide ((k.id : Int) > 0) = true := decide_eq_true c1
  by_cases c2 : k.at_ ≥ 0
  case neg =>
    have f2 : decide (k.at_ ≥ 0) = false := decide_eq_false c2
    have hm0 : decide (fairM k) = false := decide_eq_false (fun h => c2 (by have := h.2.1; omega))
    refine T.seq_k (fun K_h0 h0 => ?_)
    refine T.regi hm ?_
    simp only [↓reduceIte, namesOf, List.any, I.names, aopsI, astep, ev, setd, List.set, List.getD, List.getElem?_cons_zero, List.getElem?_cons_succ, then_normal, Option.getD_some, Bool.or_false, Bool.false_eq_true, up_zero, binv, ↓opt_def, ldc, eq_self, hb, Nat.zero_add, f1, f2]
    refine h0 _ _ ?_
    try clear h0 K_h0
    exact T.ret (Fin.quiet rfl trivial (hL.quiet wf) ⟨by rw [hm0]; rfl, rfl⟩)
  have f2 : decide (k.at_ ≥ 0) = true := decide_eq_true c2
  by_cases c3 : k.at_ ≤ 1099511627776
  case neg =>
    have f3 : decide (k.at_ ≤ 1099511627776) = false := decide_eq_false c3
    have hm0 : decide (fairM k) = false := decide_eq_false (fun h => c3 (by have := h.2.2.1; omega))
    refine T.seq_k (fun K_h0 h0 => ?_)
    refine T.regi hm ?_
    simp only [↓reduceIte, namesOf, List.any, I.names, aopsI, astep, ev, setd, List.set, List.getD, List.getElem?_cons_zero, List.getElem?_cons_succ, then_normal, Option.getD_some, Bool.or_false, Bool.false_eq_true, up_zero, binv, ↓opt_def, ldc, eq_self, hb, Nat.zero_add, f1, f2, f3]
    refine h0 _ _ ?_
    try clear h0 K_h0
    exact T.ret (Fin.quiet rfl trivial (hL.quiet wf) ⟨by rw [hm0]; rfl, rfl⟩)
  have f3 : decide (k.at_ ≤ 1099511627776) = true := decide_eq_true c3
  have hm0 : decide (fairM k) = ((k.by_ : Int) != (k.id : Int)) := by
    by_cases h : k.by_ = k.id
    · rw [decide_eq_false (fun hf => hf.2.2.2 h), h]; simp
    · rw [decide_eq_true ⟨by omega, c2, c3, h⟩]; symm; simp; omega
  refine T.seq_k (fun K_h0 h0 => ?_)
  refine T.regi hm ?_
  simp only [↓reduceIte, namesOf, List.any, I.names, aopsI, astep, ev, setd, List.set, List.getD, List.getElem?_cons_zero, List.getElem?_cons_succ, then_normal, Option.getD_some, Bool.or_false, Bool.false_eq_true, up_zero, binv, ↓opt_def, ldc, eq_self, hb, Nat.zero_add, f1, f2, f3]
  refine h0 _ _ ?_
  try clear h0 K_h0
  exact T.ret (Fin.quiet rfl trivial (hL.quiet wf) ⟨by rw [hm0]; rfl, rfl⟩)

end Go.VL

namespace Go.VL

open Go.Proofs

theorem mPut_no {m : Mt} {σ : St} (hm0 : ¬ mayM m) : ACalls Tryz.prog n_mPut [.agg (mtC m)] σ (fun v σ' => v = .tup [.sl [] .nil, .iface tCode (.int .i64 1)] ∧ σ' = σ) := by
  refine s_mPut (fun wf => ?_)
  unfold c_mPut
  refine T.seq_k (fun K_h0 h0 => ?_)
  refine T.regi hm ?_
  simp only [↓reduceIte, namesOf, List.any, I.names, aopsI, astep, ev, setd, List.set, List.getD, List.getElem?_cons_zero, List.cons_append, List.nil_append, List.length_cons, List.length_nil, List.replicate, then_normal, Option.getD_some, Bool.or_false, Bool.false_eq_true, Nat.reduceAdd, Nat.reduceSub, AV.isAny, AV.cells, eq_self]
  refine h0 _ _ ?_
  try clear h0 K_h0
  have hb : ((σ.up 3).set (σ.next + 0) (.obj (mtC m))).res (σ.next + 0) = some (.obj (mtC m)) := St.set_same _ _ _
  have hL : Like σ ((σ.up 3).set (σ.next + 0) (.obj (mtC m))) := (Like.refl σ).box (n := 3) (i := 0) _
  generalize ((σ.up 3).set (σ.next + 0) (.obj (mtC m))) = t at hb hL ⊢
  generalize σ.next + 0 = b at hb ⊢
  refine T.seq_k (fun K_h1 h1 => ?_)
  refine T.seq_k (fun K_h2 h2 => ?_)
  refine T.regi hm ?_
  simp only [↓reduceIte, namesOf, List.any, I.names, aopsI, astep, ev, setd, List.set, List.getD, List.getElem?_cons_zero, List.getElem?_cons_succ, List.length_cons, List.length_nil, then_normal, Option.getD_some, Bool.or_false, Bool.false_eq_true, up_zero, Nat.reduceAdd, ↓opt_def, ldc, List.map_cons, List.map_nil, hb, Nat.zero_add, Nat.zero_add, List.take, List.drop, Nat.reduceLeDiff]
  refine mMay_ok.mono ?_
  rintro v σ1 ⟨rfl, rfl⟩
  try simp only [decide_eq_false hm0, Bool.not_false]
  refine h2 _ _ ?_
  try clear h2 K_h2
  refine T.cond rfl (fun _ => ?_) (fun h => by cases h)
  refine T.seq_k (fun K_h0 h0 => ?_)
  refine T.regi hm ?_
  simp only [↓reduceIte, namesOf, List.any, I.names, aopsI, astep, ev, setd, List.set, List.getD, List.getElem?_cons_zero, List.getElem?_cons_succ, then_normal, Option.getD_some, Bool.or_false, Bool.false_eq_true, up_zero]
  refine h0 _ _ ?_
  try clear h0 K_h0
  exact T.ret (Fin.quiet rfl ⟨⟨trivial, trivial⟩, trivial, trivial⟩ (hL.quiet wf) ⟨rfl, rfl⟩)

end Go.VL

namespace Go.VL

open Go.Proofs

set_option maxRecDepth 10000 in
theorem up13_ok {σ : St} (hT : Tabs σ) (hE : Errs σ) : ACalls Tryz.prog n_up13 [] σ (fun v σ' => v = .bool true ∧ σ' = σ) := by
  refine s_up13 (fun wf => ?_)
  unfold c_up13
  have hl : (⟨#[98, 47, 48, 48, 48, 48, 48, 48, 48, 48, 48, 48, 48, 48, 48, 48, 102, 102, 47, 109]⟩ : ByteArray) = ⟨(nmF 255 [109] 0).toArray⟩ := by decide +kernel
  have hV : V3 255 [109] 0 := ⟨by omega, .inr ⟨.inl rfl, rfl⟩⟩
  refine T.seq_k (fun K_h0 h0 => ?_)
  refine T.regi hm ?_
  simp only [↓reduceIte, namesOf, List.any, I.names, aopsI, astep, ev, setd, List.set, List.nil_append, List.length_nil, List.replicate, then_normal, Bool.or_false, Bool.false_eq_true, up_zero, Nat.reduceSub]
  refine h0 _ _ ?_
  try clear h0 K_h0
  refine T.seq_k (fun K_h1 h1 => ?_)
  refine T.regi hm ?_
  simp only [↓reduceIte, namesOf, List.any, I.names, aopsI, astep, ev, setd, List.set, List.getD, List.getElem?_cons_zero, List.getElem?_cons_succ, then_normal, Option.getD_some, Bool.or_false, Bool.false_eq_true, up_zero, ↓opt_def, List.map_cons, List.map_nil]
  rw [hl]
  refine (mParse_ok hT hE (by rw [nmp_len (.inr (.inl rfl))]; decide)).mono ?_
  rintro v σ1 ⟨rfl, hv⟩
  obtain rfl := hv.uniq (.inl ⟨255, [109], 0, hV, rfl, rfl⟩)
  try simp only [List.getElem?_cons_zero, List.getElem?_cons_succ]
  refine h1 _ _ ?_
  try clear h1 K_h1
  have hz : [AV.int .u64 0, .int .i64 0, .int .i64 0, .int .i64 0, .int .i64 0, .int .i64 0] = mtC ⟨0, 0, 0, 0, 0, 0⟩ := rfl
  have hno : ¬ mayM ⟨0, 0, 0, 0, 0, 0⟩ := by decide
  have ee : eqIv false [(tCode, .i64)] (.iface tCode (.int .i64 1)) (.iface tCode (.int .i64 1)) = some true := rfl
  have q1 : ∀ s : ByteArray, sbinv .eql s s = some (.bool true) := fun s => by simp [sbinv]
  have e255 : (((255 : Nat) : Int) == 255) = true := rfl
  refine T.seq_k (fun K_h1 h1 => ?_)
  refine T.regi hm ?_
  simp only [↓reduceIte, namesOf, List.any, I.names, aopsI, astep, ev, setd, List.set, List.getD, List.getElem?_cons_zero, List.getElem?_cons_succ, then_normal, Option.getD_some, Bool.or_false, Bool.false_eq_true, up_zero, ↓opt_def, List.map_cons, List.map_nil, fillA, ↓Option.map_some, hz]
  refine (mPut_no hno).mono ?_
  rintro v σ ⟨rfl, rfl⟩
  try simp only [List.getElem?_cons_zero, List.getElem?_cons_succ]
  refine h1 _ _ ?_
  try clear h1 K_h1
  have hnm := mName_ok (id := 255) (what := [109]) (page := 0) (σ := σ) hT (by omega) (by omega) (by simp)
  refine T.seq_k (fun K_h1 h1 => ?_)
  refine T.regt hm (tbl := []) Tbl.ok_nil ?_
  refine aopsT_cut 1 (fun K_c h_c => ?_)
  try simp only [↓reduceIte, namesOf, List.any, I.names, aopsT, qstep, CPt, Tbl.get, astep, ev, setd, List.set, Bool.or_false, Bool.false_eq_true, up_zero, List.map_cons, List.map_nil, List.take_succ_cons, List.take_zero, up_zero]
  refine (hnm).mono ?_
  rintro _ _ ⟨rfl, rfl⟩
  refine h_c _ _ ?_
  clear h_c K_c
  simp only [List.drop_succ_cons, List.drop_zero, Nat.zero_add]
  try simp only [↓reduceIte, namesOf, List.any, I.names, aops, aopsI, aopsT, qstep, CPt, qget, Tbl.get, astep, ev, setd, List.set, List.getD, List.getElem?_cons_zero, List.getElem?_cons_succ, List.getElem?_nil, List.cons_append, List.nil_append, List.length_cons, List.length_nil, List.replicate, then_normal, inBlock_normal, Option.getD_some, Option.getD_none, Bool.or_false, Bool.or_true, Bool.true_or, Bool.false_or, Bool.false_eq_true, if_false, if_true, up_zero, Nat.reduceAdd, Nat.reduceSub, binv, ↓opt_def, AV.isAny, AV.cells, ldc, List.map_cons, List.map_nil, St.set_next, St.set_same, St.up_next, Int.natCast_nonneg, lt_len, le_len, Int.toNat_natCast, true_and, and_true, eq_self, reduceCtorEq, decide_true, List.length_singleton, er_int, er_bool, er_str, srcR, up_zero, q1, ee, e255, bne_self_eq_false, Bool.bne_false]
  refine h1 _ _ ?_
  try clear h1 K_h1
  exact T.ret (Fin.ret rfl ⟨rfl, rfl⟩)

end Go.VL

namespace Go.VL

open Go.Proofs

/-- a slice that began as nil, and was appended to: nothing yet, or a named end; what was there ahead of it is as it was -/
def AccG (σ t : St) (k : Nat) (xs : List AV) (x : AV) : Option Nat → Prop
  | none => x = .sl [] .nil ∧ xs = [] ∧ Like σ t
  | some g => x = .sl xs (.tip g) ∧ Tq σ t g k

section

variable {σ t u : St} {k : Nat} {xs : List AV} {x : AV} {G : Option Nat}

theorem AccG.like (h : AccG σ t k xs x G) : Like σ t := by
  cases G with
  | none => exact h.2.2
  | some g => exact h.2.like

theorem AccG.nil (h : Like σ t) : AccG σ t k [] (.sl [] .nil) none := ⟨rfl, rfl, h⟩

theorem AccG.ex (h : AccG σ t k xs x G) : ∃ v, x = .sl xs v := by
  cases G with
  | none => obtain ⟨h1, h2, _⟩ := h; subst h2; exact ⟨_, h1⟩
  | some g => exact ⟨_, h.1⟩

theorem AccG.up (h : AccG σ t k xs x G) (n : Nat) : AccG σ (t.up n) k xs x G := by
  cases G with
  | none => exact ⟨h.1, h.2.1, h.2.2.up n⟩
  | some g => exact ⟨h.1, h.2.up n⟩

theorem AccG.lt (h : AccG σ t k xs x G) : ∀ g, G = some g → σ.next ≤ g ∧ g < t.next := by
  rintro g rfl
  exact ⟨h.2.lo, h.2.hi⟩

theorem AccG.keep (h : AccG σ t k xs x G) (hn : t.next ≤ u.next) (hs : ∀ m, m < σ.next → u.res m = t.res m) (hg : ∀ g, G = some g → u.res g = t.res g) : AccG σ u k xs x G := by
  have hl : Like σ u := ⟨Nat.le_trans h.like.next hn, fun m hm => (hs m hm).trans (h.like.same m hm)⟩
  cases G with
  | none => exact ⟨h.1, h.2.1, hl⟩
  | some g => exact ⟨h.1, hl, by rw [hg g rfl]; exact h.2.at_, h.2.lo, Nat.lt_of_lt_of_le h.2.hi hn⟩

theorem AccG.set (h : AccG σ t k xs x G) {a : Nat} (r : Res) (ha : σ.next ≤ a) (hg : ∀ g, G = some g → a ≠ g) : AccG σ (t.set a r) k xs x G :=
  h.keep (Nat.le_refl _) (fun m hm => St.set_other _ _ (by omega)) (fun g e => St.set_other _ _ (Ne.symm (hg g e)))

theorem AccG.box (h : AccG σ t k xs x G) {n i : Nat} (hi : i < n) (r : Res) : AccG σ ((t.up n).set (t.next + i) r) k xs x G :=
  (h.up n).set r (by have := h.like.next; omega) (fun g e => by have := (h.lt g e).2; omega)

theorem AccG.quiet (wf : WF σ) (h : AccG σ t k xs x G) : ∀ n r, σ.res n = some r → t.res n = some r := h.like.quiet wf

theorem AccG.wk (h : AccG σ t k xs x G) : Wk x (.sl xs .none) := by
  obtain ⟨v, rfl⟩ := h.ex
  exact .sl _ _

end

end Go.VL

namespace Go.VL

open Go.Proofs

/-- what a store holds: names, and bytes -/
abbrev Objs := List (ByteArray × List UInt8)

def objsAV (L : Objs) : List (AV × AV) := L.map fun e => (.str e.1, .sl (bytesAV e.2) .none)

/-- a store stands at p, its map at m -/
structure StS (σ : St) (p m : Nat) (room left calls : Int) (L : Objs) : Prop where
  obj : σ.res p = some (.obj [.int .i64 room, .map m, .int .i64 left, .int .i64 calls])
  map : ∃ ts clk, σ.res m = some (.map (objsAV L) ts clk) ∧ ts.length = L.length ∧ ts.Nodup ∧ ∀ t ∈ ts, t < clk
  ne : p ≠ m

theorem StS.mono {σ σ' : St} {p m : Nat} {room left calls : Int} {L : Objs} (h : StS σ p m room left calls L) (ho : ∀ n x, σ.res n = some x → σ'.res n = some x) : StS σ' p m room left calls L := by
  obtain ⟨ts, clk, h1, h2⟩ := h.map
  exact ⟨ho _ _ h.obj, ⟨ts, clk, ho _ _ h1, h2⟩, h.ne⟩

end Go.VL

namespace Go.VL

open Go.Proofs

/-- an owned row that comes back, told to be a value -/
theorem Gv.freeze {σ0 σ : St} {n off len k : Nat} {cs xs : List AV} (hr : σ.res n = some (.obj cs)) (hlen : xs.length = len) (hk : ∀ x ∈ xs, x.cells.length = k)
    (hx : xs.flatMap AV.cells = (cs.drop off).take (len * k)) : Gv σ0 (.ref n off len) σ (.sl xs .none) (σ.del n) := by
  intro κ0 w0 B0 F0 F κ w v h0 hR he hd hn hv
  obtain ⟨hdm, us, rest, ty, fz, h1, h2, h3, h4, _⟩ := hR.own n _ hr
  have e : Ext κ w { κ with I := fun b o => κ.I b o ∨ (b = κ.φ n ∧ o < us.length) } w := ⟨fun _ _ x => .inl x, fun _ _ => rfl, fun _ _ => rfl, fun _ _ => rfl, fun _ _ => rfl, fun _ x => x, fun _ _ _ => rfl⟩
  have hlt := hR.lt hr
  have hR' : R w0.heap.size F { κ with I := fun b o => κ.I b o ∨ (b = κ.φ n ∧ o < us.length) } w (σ.del n) := by
    refine hR.step e (fun m hm => hR.dom m hm) (fun b o hi => ?_) (fun m r hm => ?_)
    · rcases hi with hi | ⟨rfl, _⟩
      · exact hR.imm b o hi
      · exact hlt
    · have hmn : m ≠ n := by intro e; subst e; simp [St.del] at hm
      have hm' : σ.res m = some r := by simpa [St.del, hmn] using hm
      refine .inl ⟨hm', rfl, fun o hi => ?_⟩
      rcases hi with hi | ⟨hx, _⟩
      · exact hi
      · exact absurd (hR.apart _ _ _ _ hm' hr hx) hmn
  obtain ⟨cap, rfl, hcap, _⟩ := hv.ref_inv
  refine ⟨_, hR', he.trans e, hd, hn, ?_⟩
  rw [← hlen]
  refine .sl _ _ cap k xs hk (by rw [hlen]; exact hcap) ?_
  rw [hx]
  refine Vs.mk (us := (us.drop off).take (len * k)) (((h3.mono e).drop off).take _) (fun i u hu => ?_)
  have hu2 : us[off + i]? = some u := by
    rw [List.getElem?_take] at hu
    split at hu
    · simpa using hu
    · cases hu
  have hil : off + i < us.length := (List.getElem?_eq_some_iff.1 hu2).1
  exact ⟨.inr ⟨rfl, hil⟩, by rw [cell_of h1, List.getElem?_append_left hil]; exact hu2⟩

/-- all else is as it was -/
structure Nx (σ σ' : St) (p m : Nat) : Prop where
  next : σ.next ≤ σ'.next
  old : ∀ n x, n ≠ p → n ≠ m → σ.res n = some x → σ'.res n = some x

theorem Nx.refl (σ : St) (p m : Nat) : Nx σ σ p m := ⟨Nat.le_refl _, fun _ _ _ _ h => h⟩

theorem Nx.trans {σ σ1 σ2 : St} {p m : Nat} (h : Nx σ σ1 p m) (k : Nx σ1 σ2 p m) : Nx σ σ2 p m := ⟨Nat.le_trans h.next k.next, fun n x h1 h2 h3 => k.old n x h1 h2 (h.old n x h1 h2 h3)⟩

theorem Nx.set {σ : St} {p m : Nat} (r : Res) : Nx σ (σ.set p r) p m := ⟨Nat.le_refl _, fun n x h1 _ h3 => by rw [St.set_other _ _ h1]; exact h3⟩

end Go.VL

namespace Go.VL

open Go.Proofs

/-- a deed -/
structure Dd where
  what : Int
  name : ByteArray
  n : Int
  x : Int
  b : List UInt8

def Dd.av (d : Dd) : AV := .agg [.int .i64 d.what, .str d.name, .int .i64 d.n, .int .u8 d.x, .sl (bytesAV d.b) .none]

def Dd.ok (d : Dd) : Prop := (-9223372036854775808 ≤ d.what ∧ d.what ≤ 9223372036854775807) ∧ (-9223372036854775808 ≤ d.n ∧ d.n ≤ 9223372036854775807) ∧ (0 ≤ d.x ∧ d.x ≤ 255) ∧ d.name.size ≤ 9223372036854775807 ∧ d.b.length ≤ 9223372036854775807

end Go.VL

namespace Go.VL

open Go.Proofs

set_option maxRecDepth 10000 in
set_option maxHeartbeats 1000000 in
theorem rMay_ok {m : Mt} {σ : St} : ACalls Tryz.prog n_rMay [.agg [.int .u64 (m.id : Int), .int .i64 m.level, .int .i64 m.st, .int .i64 m.en, .int .i64 m.pages, .int .i64 m.traces]] σ (fun v σ' => v = .bool (decide (mayM m)) ∧ σ' = σ) := by
  refine s_rMay (fun wf => ?_)
  unfold c_rMay
  refine T.seq_k (fun K_h0 h0 => ?_)
  refine T.regi hm ?_
  simp only [↓reduceIte, namesOf, List.any, I.names, aopsI, astep, ev, setd, List.set, List.getD, List.getElem?_cons_zero, List.cons_append, List.nil_append, List.length_cons, List.length_nil, List.replicate, then_normal, Option.getD_some, Bool.or_false, Bool.false_eq_true, Nat.reduceAdd, Nat.reduceSub, AV.isAny, AV.cells, eq_self]
  refine h0 _ _ ?_
  try clear h0 K_h0
  have hb : ((σ.up 2).set (σ.next + 0) (.obj [.int .u64 (m.id : Int), .int .i64 m.level, .int .i64 m.st, .int .i64 m.en, .int .i64 m.pages, .int .i64 m.traces])).res (σ.next + 0) = some (.obj [.int .u64 (m.id : Int), .int .i64 m.level, .int .i64 m.st, .int .i64 m.en, .int .i64 m.pages, .int .i64 m.traces]) := St.set_same _ _ _
  have hL : Like σ ((σ.up 2).set (σ.next + 0) (.obj [.int .u64 (m.id : Int), .int .i64 m.level, .int .i64 m.st, .int .i64 m.en, .int .i64 m.pages, .int .i64 m.traces])) := (Like.refl σ).box (n := 2) (i := 0) _
  generalize ((σ.up 2).set (σ.next + 0) (.obj [.int .u64 (m.id : Int), .int .i64 m.level, .int .i64 m.st, .int .i64 m.en, .int .i64 m.pages, .int .i64 m.traces])) = t at hb hL ⊢
  generalize σ.next + 0 = b at hb ⊢
  by_cases c1 : (m.id : Int) > 0
  case neg =>
    have f1 : decide ((m.id : Int) > 0) = false := decide_eq_false c1
    have hm0 : decide (mayM m) = false := decide_eq_false (fun h => c1 (by have := h.1; omega))
    refine T.seq_k (fun K_h0 h0 => ?_)
    refine T.regi hm ?_
    simp only [↓reduceIte, namesOf, List.any, I.names, aopsI, astep, ev, setd, List.set, List.getD, List.getElem?_cons_zero, List.getElem?_cons_succ, then_normal, Option.getD_some, Bool.or_false, Bool.false_eq_true, up_zero, binv, ↓opt_def, ldc, eq_self, hb, Nat.zero_add, f1]
    refine h0 _ _ ?_
    try clear h0 K_h0
    exact T.ret (Fin.quiet rfl trivial (hL.quiet wf) ⟨by rw [hm0]; rfl, rfl⟩)
  have f1 : decide ((m.id : Int) > 0) = true := decide_eq_true c1
  by_cases c2 : m.level ≥ 0
  case neg =>
    have f2 : decide (m.level ≥ 0) = false := decide_eq_false c2
    have hm0 : decide (mayM m) = false := decide_eq_false (fun h => c2 h.2.1)
    refine T.seq_k (fun K_h0 h0 => ?_)
    refine T.regi hm ?_
    simp only [↓reduceIte, namesOf, List.any, I.names, aopsI, astep, ev, setd, List.set, List.getD, List.getElem?_cons_zero, List.getElem?_cons_succ, then_normal, Option.getD_some, Bool.or_false, Bool.false_eq_true, up_zero, binv, ↓opt_def, ldc, eq_self, hb, Nat.zero_add, f1, f2]
    refine h0 _ _ ?_
    try clear h0 K_h0
    exact T.ret (Fin.quiet rfl trivial (hL.quiet wf) ⟨by rw [hm0]; rfl, rfl⟩)
  have f2 : decide (m.level ≥ 0) = true := decide_eq_true c2
  by_cases c3 : m.level ≤ 10
  case neg =>
    have f3 : decide (m.level ≤ 10) = false := decide_eq_false c3
    have hm0 : decide (mayM m) = false := decide_eq_false (fun h => c3 h.2.2.1)
    refine T.seq_k (fun K_h0 h0 => ?_)
    refine T.regi hm ?_
    simp only [↓reduceIte, namesOf, List.any, I.names, aopsI, astep, ev, setd, List.set, List.getD, List.getElem?_cons_zero, List.getElem?_cons_succ, then_normal, Option.getD_some, Bool.or_false, Bool.false_eq_true, up_zero, binv, ↓opt_def, ldc, eq_self, hb, Nat.zero_add, f1, f2, f3]
    refine h0 _ _ ?_
    try clear h0 K_h0
    exact T.ret (Fin.quiet rfl trivial (hL.quiet wf) ⟨by rw [hm0]; rfl, rfl⟩)
  have f3 : decide (m.level ≤ 10) = true := decide_eq_true c3
  by_cases c4 : m.st ≥ 0
  case neg =>
    have f4 : decide (m.st ≥ 0) = false := decide_eq_false c4
    have hm0 : decide (mayM m) = false := decide_eq_false (fun h => c4 h.2.2.2.1)
    refine T.seq_k (fun K_h0 h0 => ?_)
    refine T.regi hm ?_
    simp only [↓reduceIte, namesOf, List.any, I.names, aopsI, astep, ev, setd, List.set, List.getD, List.getElem?_cons_zero, List.getElem?_cons_succ, then_normal, Option.getD_some, Bool.or_false, Bool.false_eq_true, up_zero, binv, ↓opt_def, ldc, eq_self, hb, Nat.zero_add, f1, f2, f3, f4]
    refine h0 _ _ ?_
    try clear h0 K_h0
    exact T.ret (Fin.quiet rfl trivial (hL.quiet wf) ⟨by rw [hm0]; rfl, rfl⟩)
  have f4 : decide (m.st ≥ 0) = true := decide_eq_true c4
  by_cases c5 : m.st ≤ m.en
  case neg =>
    have f5 : decide (m.st ≤ m.en) = false := decide_eq_false c5
    have hm0 : decide (mayM m) = false := decide_eq_false (fun h => c5 h.2.2.2.2.1)
    refine T.seq_k (fun K_h0 h0 => ?_)
    refine T.regi hm ?_
    simp only [↓reduceIte, namesOf, List.any, I.names, aopsI, astep, ev, setd, List.set, List.getD, List.getElem?_cons_zero, List.getElem?_cons_succ, then_normal, Option.getD_some, Bool.or_false, Bool.false_eq_true, up_zero, binv, ↓opt_def, ldc, eq_self, hb, Nat.zero_add, f1, f2, f3, f4, f5]
    refine h0 _ _ ?_
    try clear h0 K_h0
    exact T.ret (Fin.quiet rfl trivial (hL.quiet wf) ⟨by rw [hm0]; rfl, rfl⟩)
  have f5 : decide (m.st ≤ m.en) = true := decide_eq_true c5
  by_cases c6 : m.en ≤ 1099511627776
  case neg =>
    have f6 : decide (m.en ≤ 1099511627776) = false := decide_eq_false c6
    have hm0 : decide (mayM m) = false := decide_eq_false (fun h => c6 h.2.2.2.2.2.1)
    refine T.seq_k (fun K_h0 h0 => ?_)
    refine T.regi hm ?_
    simp only [↓reduceIte, namesOf, List.any, I.names, aopsI, astep, ev, setd, List.set, List.getD, List.getElem?_cons_zero, List.getElem?_cons_succ, then_normal, Option.getD_some, Bool.or_false, Bool.false_eq_true, up_zero, binv, ↓opt_def, ldc, eq_self, hb, Nat.zero_add, f1, f2, f3, f4, f5, f6]
    refine h0 _ _ ?_
    try clear h0 K_h0
    exact T.ret (Fin.quiet rfl trivial (hL.quiet wf) ⟨by rw [hm0]; rfl, rfl⟩)
  have f6 : decide (m.en ≤ 1099511627776) = true := decide_eq_true c6
  by_cases c7 : m.pages ≥ 1
  case neg =>
    have f7 : decide (m.pages ≥ 1) = false := decide_eq_false c7
    have hm0 : decide (mayM m) = false := decide_eq_false (fun h => c7 h.2.2.2.2.2.2.1)
    refine T.seq_k (fun K_h0 h0 => ?_)
    refine T.regi hm ?_
    simp only [↓reduceIte, namesOf, List.any, I.names, aopsI, astep, ev, setd, List.set, List.getD, List.getElem?_cons_zero, List.getElem?_cons_succ, then_normal, Option.getD_some, Bool.or_false, Bool.false_eq_true, up_zero, binv, ↓opt_def, ldc, eq_self, hb, Nat.zero_add, f1, f2, f3, f4, f5, f6, f7]
    refine h0 _ _ ?_
    try clear h0 K_h0
    exact T.ret (Fin.quiet rfl trivial (hL.quiet wf) ⟨by rw [hm0]; rfl, rfl⟩)
  have f7 : decide (m.pages ≥ 1) = true := decide_eq_true c7
  by_cases c8 : m.pages ≤ 200
  case neg =>
    have f8 : decide (m.pages ≤ 200) = false := decide_eq_false c8
    have hm0 : decide (mayM m) = false := decide_eq_false (fun h => c8 h.2.2.2.2.2.2.2.1)
    refine T.seq_k (fun K_h0 h0 => ?_)
    refine T.regi hm ?_
    simp only [↓reduceIte, namesOf, List.any, I.names, aopsI, astep, ev, setd, List.set, List.getD, List.getElem?_cons_zero, List.getElem?_cons_succ, then_normal, Option.getD_some, Bool.or_false, Bool.false_eq_true, up_zero, binv, ↓opt_def, ldc, eq_self, hb, Nat.zero_add, f1, f2, f3, f4, f5, f6, f7, f8]
    refine h0 _ _ ?_
    try clear h0 K_h0
    exact T.ret (Fin.quiet rfl trivial (hL.quiet wf) ⟨by rw [hm0]; rfl, rfl⟩)
  have f8 : decide (m.pages ≤ 200) = true := decide_eq_true c8
  by_cases c9 : m.traces ≥ m.pages
  case neg =>
    have f9 : decide (m.traces ≥ m.pages) = false := decide_eq_false c9
    have hm0 : decide (mayM m) = false := decide_eq_false (fun h => c9 h.2.2.2.2.2.2.2.2.1)
    refine T.seq_k (fun K_h0 h0 => ?_)
    refine T.regi hm ?_
    simp only [↓reduceIte, namesOf, List.any, I.names, aopsI, astep, ev, setd, List.set, List.getD, List.getElem?_cons_zero, List.getElem?_cons_succ, then_normal, Option.getD_some, Bool.or_false, Bool.false_eq_true, up_zero, binv, ↓opt_def, ldc, eq_self, hb, Nat.zero_add, f1, f2, f3, f4, f5, f6, f7, f8, f9]
    refine h0 _ _ ?_
    try clear h0 K_h0
    exact T.ret (Fin.quiet rfl trivial (hL.quiet wf) ⟨by rw [hm0]; rfl, rfl⟩)
  have f9 : decide (m.traces ≥ m.pages) = true := decide_eq_true c9
  have hw : IntKind.i64.wrap (64 * m.pages) = 64 * m.pages := wrap64 (by omega) (by omega)
  by_cases c10 : m.traces ≤ 64 * m.pages
  case neg =>
    have f10 : decide (m.traces ≤ 64 * m.pages) = false := decide_eq_false c10
    have hm0 : decide (mayM m) = false := decide_eq_false (fun h => c10 (by have := h.2.2.2.2.2.2.2.2.2; omega))
    refine T.seq_k (fun K_h0 h0 => ?_)
    refine T.regi hm ?_
    simp only [↓reduceIte, namesOf, List.any, I.names, aopsI, astep, ev, setd, List.set, List.getD, List.getElem?_cons_zero, List.getElem?_cons_succ, then_normal, Option.getD_some, Bool.or_false, Bool.false_eq_true, up_zero, binv, ↓opt_def, ldc, eq_self, hb, Nat.zero_add, f1, f2, f3, f4, f5, f6, f7, f8, f9, f10, hw]
    refine h0 _ _ ?_
    try clear h0 K_h0
    exact T.ret (Fin.quiet rfl trivial (hL.quiet wf) ⟨by rw [hm0]; rfl, rfl⟩)
  have f10 : decide (m.traces ≤ 64 * m.pages) = true := decide_eq_true c10
  have hm0 : decide (mayM m) = true := decide_eq_true ⟨by omega, c2, c3, c4, c5, c6, c7, c8, c9, by omega⟩
  refine T.seq_k (fun K_h0 h0 => ?_)
  refine T.regi hm ?_
  simp only [↓reduceIte, namesOf, List.any, I.names, aopsI, astep, ev, setd, List.set, List.getD, List.getElem?_cons_zero, List.getElem?_cons_succ, then_normal, Option.getD_some, Bool.or_false, Bool.false_eq_true, up_zero, binv, ↓opt_def, ldc, eq_self, hb, Nat.zero_add, f1, f2, f3, f4, f5, f6, f7, f8, f9, f10, hw]
  refine h0 _ _ ?_
  try clear h0 K_h0
  exact T.ret (Fin.quiet rfl trivial (hL.quiet wf) ⟨by rw [hm0]; rfl, rfl⟩)

end Go.VL

namespace Go.VL

open Go.Proofs

/-- all but two things is as it was -/
structure Two (σ t : St) (p q : Nat) : Prop where
  next : t.next = σ.next
  same : ∀ n, n ≠ p → n ≠ q → t.res n = σ.res n

theorem Two.refl (σ : St) (p q : Nat) : Two σ σ p q := ⟨rfl, fun _ _ _ => rfl⟩

theorem Two.step {σ t : St} {p q : Nat} (h : Two σ t p q) (hne : p ≠ q) (a b : Res) : Two σ ((t.set p a).set q b) p q ∧ ((t.set p a).set q b).res p = some a ∧ ((t.set p a).set q b).res q = some b :=
  ⟨⟨h.next, fun n h1 h2 => by rw [St.set_other _ _ h2, St.set_other _ _ h1]; exact h.same n h1 h2⟩, by rw [St.set_other _ _ hne]; exact St.set_same _ _ _, St.set_same _ _ _⟩

def rm1 (l : List UInt8) : Rs := rN l r0 8

def rm2 (l : List UInt8) : Rs := rN l (rm1 l) 8

def rm3 (l : List UInt8) : Rs := rN l (rm2 l) 8

def rm4 (l : List UInt8) : Rs := rN l (rm3 l) 1

def rm5 (l : List UInt8) : Rs := rN l (rm4 l) 2

def rm6 (l : List UInt8) : Rs := rN l (rm5 l) 4

/-- the meta that bytes tell, whatever they are -/
def readM (l : List UInt8) : Mt := ⟨rW l r0 8, IntKind.i64.wrap (rW l (rm3 l) 1 : Nat), IntKind.i64.wrap (rW l (rm1 l) 8 : Nat), IntKind.i64.wrap (rW l (rm2 l) 8 : Nat), IntKind.i64.wrap (rW l (rm4 l) 2 : Nat), IntKind.i64.wrap (rW l (rm5 l) 4 : Nat)⟩

abbrev mZ : Mt := ⟨0, 0, 0, 0, 0, 0⟩

theorem rN_go {l : List UInt8} (s : Rs) (w : Nat) : (s.bad = -1 → s.at_ + w ≤ l.length → rN l s w = ⟨s.at_ + w, -1⟩) ∧ ((0 ≤ s.bad ∨ (s.bad = -1 ∧ 0 ≤ s.at_ ∧ (l.length : Int) < s.at_ + w)) → 0 ≤ (rN l s w).bad) := by
  refine ⟨fun h1 h2 => ?_, fun h => ?_⟩
  · unfold rN; rw [if_pos (by unfold rT; rw [decide_eq_true_eq]; exact ⟨h1, by omega⟩), h1]
  · unfold rN
    rw [if_neg (by unfold rT; rw [decide_eq_true_eq]; omega)]
    simp only [rF]
    split <;> omega

theorem rN_st {l : List UInt8} (s : Rs) (w : Nat) (e : Int) (hs : 0 ≤ s.bad ∨ s = ⟨e, -1⟩) (he : 0 ≤ e) : (0 ≤ (rN l s w).bad ∨ rN l s w = ⟨e + w, -1⟩) ∧ ((l.length : Int) < e + w → 0 ≤ (rN l s w).bad) := by
  rcases hs with hs | rfl
  · exact ⟨.inl ((rN_go s w).2 (.inl hs)), fun _ => (rN_go s w).2 (.inl hs)⟩
  · refine ⟨?_, fun hl => (rN_go _ w).2 (.inr ⟨rfl, he, hl⟩)⟩
    by_cases hl : e + w ≤ (l.length : Int)
    · exact .inr ((rN_go ⟨e, -1⟩ w).1 rfl hl)
    · exact .inl ((rN_go ⟨e, -1⟩ w).2 (.inr ⟨rfl, he, by simp only; omega⟩))

theorem rm_end {l : List UInt8} : (31 ≤ l.length → rm6 l = ⟨31, -1⟩) ∧ (l.length < 31 → 0 ≤ (rm6 l).bad) := by
  constructor
  · intro h
    have a1 : rm1 l = ⟨8, -1⟩ := (rN_go r0 8).1 rfl (by simp [r0]; omega)
    have a2 : rm2 l = ⟨16, -1⟩ := by unfold rm2; rw [a1]; exact (rN_go _ 8).1 rfl (by simp; omega)
    have a3 : rm3 l = ⟨24, -1⟩ := by unfold rm3; rw [a2]; exact (rN_go _ 8).1 rfl (by simp; omega)
    have a4 : rm4 l = ⟨25, -1⟩ := by unfold rm4; rw [a3]; exact (rN_go _ 1).1 rfl (by simp; omega)
    have a5 : rm5 l = ⟨27, -1⟩ := by unfold rm5; rw [a4]; exact (rN_go _ 2).1 rfl (by simp; omega)
    unfold rm6; rw [a5]; exact (rN_go _ 4).1 rfl (by simp; omega)
  · intro h
    have a1 := (rN_st (l := l) r0 8 0 (.inr rfl) (by omega)).1
    have a2 := (rN_st (l := l) _ 8 _ a1 (by omega)).1
    have a3 := (rN_st (l := l) _ 8 _ a2 (by omega)).1
    have a4 := (rN_st (l := l) _ 1 _ a3 (by omega)).1
    have a5 := (rN_st (l := l) _ 2 _ a4 (by omega)).1
    exact (rN_st (l := l) _ 4 _ a5 (by omega)).2 (by omega)

/-- the meta of bytes, and an error's number -/
def metaGF (x : List UInt8) : Mt × Int :=
  if (openB x).1 ≠ 0 then (mZ, (openB x).1) else if (openB x).2.length = 31 ∧ mayM (readM (openB x).2) then (readM (openB x).2, 0) else (mZ, 2)

set_option maxRecDepth 10000 in
set_option maxHeartbeats 1000000 in
theorem mGet1_ok {l : List UInt8} {p q : Nat} {σ : St} (hl : l.length ≤ 1099511627776) (hne : p ≠ q) (hp : σ.res p = some (rdS l .none r0)) (hq : σ.res q = some (.obj (mtC mZ))) :
    ACalls Tryz.prog n_mGet1 [.ptr p 0, .ptr q 0] σ (fun v σ' => v = .bool (decide (mayM (readM l))) ∧ Two σ σ' p q ∧ σ'.res p = some (rdS l .none (rm6 l)) ∧ σ'.res q = some (.obj (mtC (readM l)))) := by
  refine s_mGet1 (fun wf => ?_)
  unfold c_mGet1
  have o0 := Rs.ok_r0 hl
  have o1 : (rm1 l).ok l := rN_ok o0
  have o2 : (rm2 l).ok l := rN_ok o1
  have o3 : (rm3 l).ok l := rN_ok o2
  have o4 : (rm4 l).ok l := rN_ok o3
  have o5 : (rm5 l).ok l := rN_ok o4
  have T0 := Two.refl σ p q
  have ho : ∀ (t : St) (r : Res), (t.set p r).res q = t.res q := fun t r => St.set_other _ _ (Ne.symm hne)
  generalize hσ : σ = t at hp hq T0
  have hT0 : Two σ t p q := by rw [hσ]; exact Two.refl _ _ _
  clear T0
  have e1 : rN l r0 8 = rm1 l := rfl
  have e2 : rN l (rm1 l) 8 = rm2 l := rfl
  have e3 : rN l (rm2 l) 8 = rm3 l := rfl
  have e4 : rN l (rm3 l) 1 = rm4 l := rfl
  have e5 : rN l (rm4 l) 2 = rm5 l := rfl
  have e6 : rN l (rm5 l) 4 = rm6 l := rfl
  have hrM : readM l = ⟨rW l r0 8, IntKind.i64.wrap (rW l (rm3 l) 1 : Nat), IntKind.i64.wrap (rW l (rm1 l) 8 : Nat), IntKind.i64.wrap (rW l (rm2 l) 8 : Nat), IntKind.i64.wrap (rW l (rm4 l) 2 : Nat), IntKind.i64.wrap (rW l (rm5 l) 4 : Nat)⟩ := rfl
  refine T.seq_k (fun K_h0 h0 => ?_)
  refine T.regi hm ?_
  simp only [↓reduceIte, namesOf, List.any, I.names, aopsI, astep, ev, setd, List.set, List.cons_append, List.nil_append, List.length_cons, List.length_nil, List.replicate, then_normal, Bool.or_false, Bool.false_eq_true, up_zero, Nat.reduceAdd, Nat.reduceSub]
  refine h0 _ _ ?_
  try clear h0 K_h0
  -- Id
  refine T.seq_k (fun K_h1 h1 => ?_)
  refine T.regi hm ?_
  simp only [↓reduceIte, namesOf, List.any, I.names, aopsI, astep, ev, setd, List.set, List.getD, List.getElem?_cons_zero, List.getElem?_cons_succ, then_normal, Option.getD_some, Bool.or_false, Bool.false_eq_true, up_zero, Nat.reduceAdd, AV.cells, List.map_cons, List.map_nil]
  refine (wwordF (w := 8) o0 rfl hp).mono ?_
  rintro v σ1 ⟨rfl, rfl⟩
  rw [e1]
  try simp only [↓reduceIte, List.cons_append, List.nil_append, List.length_cons, List.length_nil, Nat.reduceAdd, AV.isAny, AV.cells, eq_self, decide_true, ho, hq, AV.fits, AV.one, List.all_cons, List.all_nil, Nat.reduceBEq, Bool.not_false, Bool.and_self, Nat.zero_add, splice, List.take, List.drop, Nat.reduceLeDiff]
  generalize rW l r0 8 = x1 at hrM ⊢
  obtain ⟨T1, hp1, hq1⟩ := hT0.step hne (rdS l .none (rm1 l)) (.obj [.int .u64 (x1 : Int), .int .i64 0, .int .i64 0, .int .i64 0, .int .i64 0, .int .i64 0])
  generalize ((t.set p (rdS l .none (rm1 l))).set q (.obj [.int .u64 (x1 : Int), .int .i64 0, .int .i64 0, .int .i64 0, .int .i64 0, .int .i64 0])) = t1 at T1 hp1 hq1 ⊢
  clear hp hq hT0
  refine h1 _ _ ?_
  try clear h1 K_h1
  -- Start
  refine T.seq_k (fun K_h1 h1 => ?_)
  refine T.regi hm ?_
  simp only [↓reduceIte, namesOf, List.any, I.names, aopsI, astep, ev, setd, List.set, List.getD, List.getElem?_cons_zero, List.getElem?_cons_succ, then_normal, Option.getD_some, Bool.or_false, Bool.false_eq_true, up_zero, Nat.reduceAdd, AV.cells, List.map_cons, List.map_nil]
  refine (wwordF (w := 8) o1 rfl hp1).mono ?_
  rintro v σ1 ⟨rfl, rfl⟩
  rw [e2]
  generalize hy : IntKind.i64.wrap (rW l (rm1 l) 8 : Nat) = x2 at hrM
  try simp only [↓reduceIte, List.cons_append, List.nil_append, List.length_cons, List.length_nil, Nat.reduceAdd, AV.isAny, AV.cells, eq_self, decide_true, ho, hq1, hy, AV.fits, AV.one, List.all_cons, List.all_nil, Nat.reduceBEq, Bool.not_false, Bool.and_self, Nat.zero_add, splice, List.take, List.drop, Nat.reduceLeDiff]
  clear hy
  obtain ⟨T2, hp2, hq2⟩ := T1.step hne (rdS l .none (rm2 l)) (.obj [.int .u64 (x1 : Int), .int .i64 0, .int .i64 x2, .int .i64 0, .int .i64 0, .int .i64 0])
  generalize ((t1.set p (rdS l .none (rm2 l))).set q (.obj [.int .u64 (x1 : Int), .int .i64 0, .int .i64 x2, .int .i64 0, .int .i64 0, .int .i64 0])) = t2 at T2 hp2 hq2 ⊢
  clear T1 hp1 hq1
  refine h1 _ _ ?_
  try clear h1 K_h1
  -- End
  refine T.seq_k (fun K_h1 h1 => ?_)
  refine T.regi hm ?_
  simp only [↓reduceIte, namesOf, List.any, I.names, aopsI, astep, ev, setd, List.set, List.getD, List.getElem?_cons_zero, List.getElem?_cons_succ, then_normal, Option.getD_some, Bool.or_false, Bool.false_eq_true, up_zero, Nat.reduceAdd, AV.cells, List.map_cons, List.map_nil]
  refine (wwordF (w := 8) o2 rfl hp2).mono ?_
  rintro v σ1 ⟨rfl, rfl⟩
  rw [e3]
  generalize hy : IntKind.i64.wrap (rW l (rm2 l) 8 : Nat) = x3 at hrM
  try simp only [↓reduceIte, List.cons_append, List.nil_append, List.length_cons, List.length_nil, Nat.reduceAdd, AV.isAny, AV.cells, eq_self, decide_true, ho, hq2, hy, AV.fits, AV.one, List.all_cons, List.all_nil, Nat.reduceBEq, Bool.not_false, Bool.and_self, Nat.zero_add, splice, List.take, List.drop, Nat.reduceLeDiff]
  clear hy
  obtain ⟨T3, hp3, hq3⟩ := T2.step hne (rdS l .none (rm3 l)) (.obj [.int .u64 (x1 : Int), .int .i64 0, .int .i64 x2, .int .i64 x3, .int .i64 0, .int .i64 0])
  generalize ((t2.set p (rdS l .none (rm3 l))).set q (.obj [.int .u64 (x1 : Int), .int .i64 0, .int .i64 x2, .int .i64 x3, .int .i64 0, .int .i64 0])) = t3 at T3 hp3 hq3 ⊢
  clear T2 hp2 hq2
  refine h1 _ _ ?_
  try clear h1 K_h1
  -- Level
  refine T.seq_k (fun K_h1 h1 => ?_)
  refine T.regi hm ?_
  simp only [↓reduceIte, namesOf, List.any, I.names, aopsI, astep, ev, setd, List.set, List.getD, List.getElem?_cons_zero, List.getElem?_cons_succ, then_normal, Option.getD_some, Bool.or_false, Bool.false_eq_true, up_zero, Nat.reduceAdd, AV.cells, List.map_cons, List.map_nil]
  refine (wwordF (w := 1) o3 rfl hp3).mono ?_
  rintro v σ1 ⟨rfl, rfl⟩
  rw [e4]
  generalize hy : IntKind.i64.wrap (rW l (rm3 l) 1 : Nat) = x4 at hrM
  try simp only [↓reduceIte, List.cons_append, List.nil_append, List.length_cons, List.length_nil, Nat.reduceAdd, AV.isAny, AV.cells, eq_self, decide_true, ho, hq3, hy, AV.fits, AV.one, List.all_cons, List.all_nil, Nat.reduceBEq, Bool.not_false, Bool.and_self, Nat.zero_add, splice, List.take, List.drop, Nat.reduceLeDiff]
  clear hy
  obtain ⟨T4, hp4, hq4⟩ := T3.step hne (rdS l .none (rm4 l)) (.obj [.int .u64 (x1 : Int), .int .i64 x4, .int .i64 x2, .int .i64 x3, .int .i64 0, .int .i64 0])
  generalize ((t3.set p (rdS l .none (rm4 l))).set q (.obj [.int .u64 (x1 : Int), .int .i64 x4, .int .i64 x2, .int .i64 x3, .int .i64 0, .int .i64 0])) = t4 at T4 hp4 hq4 ⊢
  clear T3 hp3 hq3
  refine h1 _ _ ?_
  try clear h1 K_h1
  -- Pages
  refine T.seq_k (fun K_h1 h1 => ?_)
  refine T.regi hm ?_
  simp only [↓reduceIte, namesOf, List.any, I.names, aopsI, astep, ev, setd, List.set, List.getD, List.getElem?_cons_zero, List.getElem?_cons_succ, then_normal, Option.getD_some, Bool.or_false, Bool.false_eq_true, up_zero, Nat.reduceAdd, AV.cells, List.map_cons, List.map_nil]
  refine (wwordF (w := 2) o4 rfl hp4).mono ?_
  rintro v σ1 ⟨rfl, rfl⟩
  rw [e5]
  generalize hy : IntKind.i64.wrap (rW l (rm4 l) 2 : Nat) = x5 at hrM
  try simp only [↓reduceIte, List.cons_append, List.nil_append, List.length_cons, List.length_nil, Nat.reduceAdd, AV.isAny, AV.cells, eq_self, decide_true, ho, hq4, hy, AV.fits, AV.one, List.all_cons, List.all_nil, Nat.reduceBEq, Bool.not_false, Bool.and_self, Nat.zero_add, splice, List.take, List.drop, Nat.reduceLeDiff]
  clear hy
  obtain ⟨T5, hp5, hq5⟩ := T4.step hne (rdS l .none (rm5 l)) (.obj [.int .u64 (x1 : Int), .int .i64 x4, .int .i64 x2, .int .i64 x3, .int .i64 x5, .int .i64 0])
  generalize ((t4.set p (rdS l .none (rm5 l))).set q (.obj [.int .u64 (x1 : Int), .int .i64 x4, .int .i64 x2, .int .i64 x3, .int .i64 x5, .int .i64 0])) = t5 at T5 hp5 hq5 ⊢
  clear T4 hp4 hq4
  refine h1 _ _ ?_
  try clear h1 K_h1
  -- Traces
  refine T.seq_k (fun K_h1 h1 => ?_)
  refine T.regi hm ?_
  simp only [↓reduceIte, namesOf, List.any, I.names, aopsI, astep, ev, setd, List.set, List.getD, List.getElem?_cons_zero, List.getElem?_cons_succ, then_normal, Option.getD_some, Bool.or_false, Bool.false_eq_true, up_zero, Nat.reduceAdd, AV.cells, List.map_cons, List.map_nil]
  refine (wwordF (w := 4) o5 rfl hp5).mono ?_
  rintro v σ1 ⟨rfl, rfl⟩
  rw [e6]
  generalize hy : IntKind.i64.wrap (rW l (rm5 l) 4 : Nat) = x6 at hrM
  try simp only [↓reduceIte, List.cons_append, List.nil_append, List.length_cons, List.length_nil, Nat.reduceAdd, AV.isAny, AV.cells, eq_self, decide_true, ho, hq5, hy, AV.fits, AV.one, List.all_cons, List.all_nil, Nat.reduceBEq, Bool.not_false, Bool.and_self, Nat.zero_add, splice, List.take, List.drop, Nat.reduceLeDiff]
  clear hy
  obtain ⟨T6, hp6, hq6⟩ := T5.step hne (rdS l .none (rm6 l)) (.obj (mtC ⟨x1, x4, x2, x3, x5, x6⟩))
  have hs : ((t5.set p (rdS l .none (rm6 l))).set q (.obj [.int .u64 (x1 : Int), .int .i64 x4, .int .i64 x2, .int .i64 x3, .int .i64 x5, .int .i64 x6])) = ((t5.set p (rdS l .none (rm6 l))).set q (.obj (mtC ⟨x1, x4, x2, x3, x5, x6⟩))) := rfl
  rw [hs]
  rw [← hrM] at T6 hp6 hq6 ⊢
  generalize ((t5.set p (rdS l .none (rm6 l))).set q (.obj (mtC (readM l)))) = t6 at T6 hp6 hq6 ⊢
  clear T5 hp5 hq5
  refine h1 _ _ ?_
  try clear h1 K_h1
  refine T.seq_k (fun K_h1 h1 => ?_)
  refine T.regi hm ?_
  simp only [↓reduceIte, namesOf, List.any, I.names, aopsI, astep, ev, setd, List.set, List.getD, List.getElem?_cons_zero, List.getElem?_cons_succ, List.length_cons, List.length_nil, then_normal, Option.getD_some, Bool.or_false, Bool.false_eq_true, up_zero, Nat.reduceAdd, ↓opt_def, ldc, List.map_cons, List.map_nil, hq6, Nat.zero_add, List.take, List.drop, Nat.reduceLeDiff]
  refine (mMay_ok (m := readM l)).mono ?_
  rintro v t6 ⟨rfl, rfl⟩
  try simp only [↓reduceIte, namesOf, List.any, I.names, aops, aopsI, aopsT, qstep, CPt, qget, Tbl.get, astep, ev, setd, List.set, List.getD, List.getElem?_cons_zero, List.getElem?_cons_succ, List.getElem?_nil, List.cons_append, List.nil_append, List.length_cons, List.length_nil, List.replicate, then_normal, inBlock_normal, Option.getD_some, Option.getD_none, Bool.or_false, Bool.or_true, Bool.true_or, Bool.false_or, Bool.false_eq_true, if_false, if_true, up_zero, Nat.reduceAdd, Nat.reduceSub, binv, ↓opt_def, AV.isAny, AV.cells, ldc, List.map_cons, List.map_nil, St.set_next, St.set_same, St.up_next, Int.natCast_nonneg, lt_len, le_len, Int.toNat_natCast, true_and, and_true, eq_self, reduceCtorEq, decide_true, List.length_singleton, er_int, er_bool, er_str, srcR, up_zero]
  refine h1 _ _ ?_
  try clear h1 K_h1
  subst hσ
  exact T.ret (Fin.ret rfl ⟨rfl, T6, hp6, hq6⟩)

set_option maxRecDepth 10000 in
theorem mOpenG_ok {x : List UInt8} {g : Ver} {q : Nat} {σ : St} (hx : x.length ≤ 1099511627776) (hq : σ.res q = some (.obj (mtC mZ))) :
    ACalls Tryz.prog n_mOpen [.sl (bytesAV x) g, .func n_mGet1 [] [.ptr q 0]] σ (fun v σ' => v = errAV (metaGF x).2 ∧ ∃ m, σ' = σ.set q (.obj (mtC m)) ∧ ((metaGF x).2 = 0 → m = (metaGF x).1)) := by
  refine s_mOpen (fun wf => ?_)
  unfold c_mOpen
  have hql : q < σ.next := wf.lt hq
  have en : eqIv true [(tCode, .i64)] .nili .nili = some true := rfl
  refine T.seq_k (fun K_h0 h0 => ?_)
  refine T.regi hm ?_
  simp only [↓reduceIte, namesOf, List.any, I.names, aopsI, astep, ev, setd, List.set, List.cons_append, List.nil_append, List.length_cons, List.length_nil, List.replicate, then_normal, Bool.or_false, Bool.false_eq_true, up_zero, Nat.reduceAdd, Nat.reduceSub]
  refine h0 _ _ ?_
  try clear h0 K_h0
  refine T.seq_k (fun K_h1 h1 => ?_)
  refine T.regi hm ?_
  simp only [↓reduceIte, namesOf, List.any, I.names, aopsI, astep, ev, setd, List.set, List.getD, List.getElem?_cons_zero, List.getElem?_cons_succ, then_normal, Option.getD_some, Bool.or_false, Bool.false_eq_true, up_zero, ↓opt_def, List.map_cons, List.map_nil]
  refine (copen_ok hx).mono ?_
  rintro v σ ⟨rfl, rfl⟩
  try simp only [List.getElem?_cons_zero, List.getElem?_cons_succ]
  refine h1 _ _ ?_
  try clear h1 K_h1
  refine T.seq_k (fun K_h1 h1 => ?_)
  by_cases ho : (openB x).1 = 0
  case neg =>
    have eo : errAV (openB x).1 = .iface tCode (.int .i64 (openB x).1) := if_neg ho
    have en2 : eqIv true [(tCode, .i64)] (.iface tCode (.int .i64 (openB x).1)) .nili = some false := rfl
    have hm2 : (metaGF x).2 = (openB x).1 := by unfold metaGF; rw [if_pos ho]
    rw [eo]
    refine T.seq_k (fun K_h0 h0 => ?_)
    refine T.regi hm ?_
    simp only [↓reduceIte, namesOf, List.any, I.names, aopsI, astep, ev, setd, List.set, List.getD, List.getElem?_cons_zero, List.getElem?_cons_succ, then_normal, Option.getD_some, Bool.or_false, Bool.false_eq_true, up_zero, en2, Bool.false_bne]
    refine h0 _ _ ?_
    try clear h0 K_h0
    refine T.cond rfl (fun _ => ?_) (fun h => by cases h)
    refine T.seq_k (fun K_h0 h0 => ?_)
    refine T.regi hm ?_
    simp only [↓reduceIte, namesOf, List.any, I.names, aopsI, astep, ev, setd, List.set, List.getD, List.getElem?_cons_zero, List.getElem?_cons_succ, then_normal, Option.getD_some, Bool.or_false, Bool.false_eq_true, up_zero]
    refine h0 _ _ ?_
    try clear h0 K_h0
    refine T.ret (Fin.quiet rfl trivial (fun _ _ h => h) ⟨by rw [hm2, eo]; rfl, mZ, (St.set_self hq).symm, fun h => absurd (hm2.symm.trans h) ho⟩)
  have eo : errAV (openB x).1 = .nili := if_pos ho
  rw [eo]
  refine T.seq_k (fun K_h0 h0 => ?_)
  refine T.regi hm ?_
  simp only [↓reduceIte, namesOf, List.any, I.names, aopsI, astep, ev, setd, List.set, List.getD, List.getElem?_cons_zero, List.getElem?_cons_succ, then_normal, Option.getD_some, Bool.or_false, Bool.false_eq_true, up_zero, en, bne_self_eq_false]
  refine h0 _ _ ?_
  try clear h0 K_h0
  refine T.cond rfl (fun h => by cases h) (fun _ => T.skip ?_)
  refine h1 _ _ ?_
  try clear h1 K_h1
  have hlen := openB_le x
  have hGF : metaGF x = if (openB x).2.length = 31 ∧ mayM (readM (openB x).2) then (readM (openB x).2, 0) else (mZ, 2) := by
    unfold metaGF; rw [if_neg (fun h => h ho)]
  generalize (openB x).2 = l at hlen hGF ⊢
  have hll : l.length ≤ 1099511627776 := by omega
  refine T.seq_k (fun K_h1 h1 => ?_)
  refine T.regi hm ?_
  simp only [↓reduceIte, namesOf, List.any, I.names, aopsI, astep, ev, setd, List.set, List.getD, List.getElem?_cons_zero, List.getElem?_cons_succ, then_normal, Option.getD_some, Bool.or_false, Bool.false_eq_true, up_zero, List.map_cons, List.map_nil]
  refine (wreadF (l := l)).mono ?_
  rintro v t ⟨p, rfl, hp, hlo, hhi, hsame⟩
  try simp only [↓reduceIte, namesOf, List.any, I.names, aops, aopsI, aopsT, qstep, CPt, qget, Tbl.get, astep, ev, setd, List.set, List.getD, List.getElem?_cons_zero, List.getElem?_cons_succ, List.getElem?_nil, List.cons_append, List.nil_append, List.length_cons, List.length_nil, List.replicate, then_normal, inBlock_normal, Option.getD_some, Option.getD_none, Bool.or_false, Bool.or_true, Bool.true_or, Bool.false_or, Bool.false_eq_true, if_false, if_true, up_zero, Nat.reduceAdd, Nat.reduceSub, binv, ↓opt_def, AV.isAny, AV.cells, ldc, List.map_cons, List.map_nil, St.set_next, St.set_same, St.up_next, Int.natCast_nonneg, lt_len, le_len, Int.toNat_natCast, true_and, and_true, eq_self, reduceCtorEq, decide_true, List.length_singleton, er_int, er_bool, er_str, srcR, up_zero]
  refine h1 _ _ ?_
  try clear h1 K_h1
  have hne : p ≠ q := by omega
  have hqt : t.res q = some (.obj (mtC mZ)) := by rw [hsame q hql]; exact hq
  refine T.seq_k (fun K_h1 h1 => ?_)
  refine T.seq_k (fun K_h2 h2 => ?_)
  refine T.regi hm ?_
  simp only [↓reduceIte, namesOf, List.any, I.names, aopsI, astep, ev, setd, List.set, List.getD, List.getElem?_cons_zero, List.getElem?_cons_succ, List.cons_append, List.nil_append, then_normal, Option.getD_some, Bool.or_false, Bool.false_eq_true, up_zero, List.map_cons, List.map_nil]
  refine (mGet1_ok hll hne hp hqt).mono ?_
  rintro v u ⟨rfl, T2, hpu, hqu⟩
  try simp only [↓reduceIte, namesOf, List.any, I.names, aops, aopsI, aopsT, qstep, CPt, qget, Tbl.get, astep, ev, setd, List.set, List.getD, List.getElem?_cons_zero, List.getElem?_cons_succ, List.getElem?_nil, List.cons_append, List.nil_append, List.length_cons, List.length_nil, List.replicate, then_normal, inBlock_normal, Option.getD_some, Option.getD_none, Bool.or_false, Bool.or_true, Bool.true_or, Bool.false_or, Bool.false_eq_true, if_false, if_true, up_zero, Nat.reduceAdd, Nat.reduceSub, binv, ↓opt_def, AV.isAny, AV.cells, ldc, List.map_cons, List.map_nil, St.set_next, St.set_same, St.up_next, Int.natCast_nonneg, lt_len, le_len, Int.toNat_natCast, true_and, and_true, eq_self, reduceCtorEq, decide_true, List.length_singleton, er_int, er_bool, er_str, srcR, up_zero]
  refine h2 _ _ ?_
  try clear h2 K_h2
  obtain ⟨re1, re2⟩ := rm_end (l := l)
  have okr : (rm6 l).ok l := rN_ok (rN_ok (rN_ok (rN_ok (rN_ok (rN_ok (Rs.ok_r0 hll))))))
  have hL : Like (σ.set q (.obj (mtC (readM l)))) u := ⟨by rw [T2.next]; simp; omega, fun n hn => by
    simp at hn
    by_cases e : n = q
    · subst e; rw [hqu, St.set_same]
    · rw [T2.same n (by omega) e, St.set_other _ _ e]; exact hsame n hn⟩
  have fin : ∀ (ρ' : List AV) (e : AV), rvals ρ' u [.t 4] = some [e] → e = errAV (metaGF x).2 → ((metaGF x).2 = 0 → readM l = (metaGF x).1) → e.nb σ.next → Fin σ [.t 4] (fun v σ' => v = errAV (metaGF x).2 ∧ ∃ m, σ' = σ.set q (.obj (mtC m)) ∧ ((metaGF x).2 = 0 → m = (metaGF x).1)) .ret ρ' u := fun ρ' e h1 h2 h3 h4 =>
    Fin.likeset wf h1 (.refl _) hL hq h4 ⟨trivial, trivial, trivial, trivial, trivial, trivial, trivial⟩ ⟨h2, _, rfl, h3⟩
  have hbad : ∀ ρ', (¬ (l.length = 31 ∧ mayM (readM l))) → rvals ρ' u [.t 4] = some [.iface tCode (.int .i64 2)] → Fin σ [.t 4] (fun v σ' => v = errAV (metaGF x).2 ∧ ∃ m, σ' = σ.set q (.obj (mtC m)) ∧ ((metaGF x).2 = 0 → m = (metaGF x).1)) .ret ρ' u := fun ρ' hno hr =>
    fin ρ' _ hr (by rw [hGF, if_neg hno]; rfl) (fun h => by rw [hGF, if_neg hno] at h; cases h) trivial
  have hru : ∀ k, (u.up k).res p = some (rd l .none (rm6 l).at_ (rm6 l).bad) := fun _ => hpu
  have hb1 := wbad_ok (σ := u) hpu
  by_cases hmm : mayM (readM l)
  case neg =>
    have f1 : decide (mayM (readM l)) = false := decide_eq_false hmm
    refine T.seq_k (fun K_h0 h0 => ?_)
    refine T.regi hm ?_
    simp only [↓reduceIte, namesOf, List.any, I.names, aopsI, astep, ev, setd, List.set, List.getD, List.getElem?_cons_zero, List.getElem?_cons_succ, then_normal, Option.getD_some, Bool.or_false, Bool.false_eq_true, up_zero, eq_self, reduceCtorEq, f1, Bool.not_false]
    refine h0 _ _ ?_
    try clear h0 K_h0
    refine T.cond rfl (fun _ => ?_) (fun h => by cases h)
    refine T.seq_k (fun K_h0 h0 => ?_)
    refine T.regi hm ?_
    simp only [↓reduceIte, namesOf, List.any, I.names, aopsI, astep, ev, setd, List.set, List.getD, List.getElem?_cons_zero, List.getElem?_cons_succ, then_normal, Option.getD_some, Bool.or_false, Bool.false_eq_true, up_zero]
    refine h0 _ _ ?_
    try clear h0 K_h0
    exact T.ret (hbad _ (fun h => hmm h.2) rfl)
  have f1 : decide (mayM (readM l)) = true := decide_eq_true hmm
  by_cases h31 : 31 ≤ l.length
  case neg =>
    have hb0 := re2 (by omega)
    have f2 : decide ((rm6 l).bad ≥ 0) = true := decide_eq_true hb0
    refine T.seq_k (fun K_h2 h2 => ?_)
    refine T.regi hm ?_
    simp only [↓reduceIte, namesOf, List.any, I.names, aopsI, astep, ev, setd, List.set, List.getD, List.getElem?_cons_zero, List.getElem?_cons_succ, then_normal, Option.getD_some, Bool.or_false, Bool.false_eq_true, up_zero, binv, ↓opt_def, List.map_cons, List.map_nil, eq_self, f1, Bool.not_true]
    refine hb1.mono ?_
    rintro v u ⟨rfl, rfl⟩
    try simp only [↓reduceIte, eq_self, reduceCtorEq, f2]
    refine h2 _ _ ?_
    try clear h2 K_h2
    refine T.cond rfl (fun _ => ?_) (fun h => by cases h)
    refine T.seq_k (fun K_h0 h0 => ?_)
    refine T.regi hm ?_
    simp only [↓reduceIte, namesOf, List.any, I.names, aopsI, astep, ev, setd, List.set, List.getD, List.getElem?_cons_zero, List.getElem?_cons_succ, then_normal, Option.getD_some, Bool.or_false, Bool.false_eq_true, up_zero]
    refine h0 _ _ ?_
    try clear h0 K_h0
    exact T.ret (hbad _ (fun h => by omega) rfl)
  have hend := re1 h31
  obtain ⟨⟨_, k2, k3⟩, _⟩ := okr
  have hl1 := wleft_ok (σ := u) hll k2 k3 hpu
  rw [hend] at hb1 hl1
  have f2 : decide ((-1 : Int) ≥ 0) = false := rfl
  by_cases he : l.length = 31
  · have f3 : decide ((l.length : Int) - 31 > 0) = false := decide_eq_false (by omega)
    refine T.seq_k (fun K_h2 h2 => ?_)
    refine T.regi hm ?_
    simp only [↓reduceIte, namesOf, List.any, I.names, aopsI, astep, ev, setd, List.set, List.getD, List.getElem?_cons_zero, List.getElem?_cons_succ, then_normal, Option.getD_some, Bool.or_false, Bool.false_eq_true, up_zero, binv, ↓opt_def, List.map_cons, List.map_nil, eq_self, f1, Bool.not_true]
    refine hb1.mono ?_
    rintro v u ⟨rfl, rfl⟩
    try simp only [↓reduceIte, Bool.false_eq_true, eq_self, f2]
    refine hl1.mono ?_
    rintro v u ⟨rfl, rfl⟩
    try simp only [↓reduceIte, eq_self, f3]
    refine h2 _ _ ?_
    try clear h2 K_h2
    refine T.cond rfl (fun h => by cases h) (fun _ => T.skip ?_)
    refine h1 _ _ ?_
    try clear h1 K_h1
    refine T.seq_k (fun K_h0 h0 => ?_)
    refine T.regi hm ?_
    simp only [↓reduceIte, namesOf, List.any, I.names, aopsI, astep, ev, setd, List.set, then_normal, Bool.or_false, Bool.false_eq_true, up_zero]
    refine h0 _ _ ?_
    try clear h0 K_h0
    exact T.ret (fin _ _ rfl (by rw [hGF, if_pos ⟨he, hmm⟩]; rfl) (fun _ => by rw [hGF, if_pos ⟨he, hmm⟩]) trivial)
  · have f3 : decide ((l.length : Int) - 31 > 0) = true := decide_eq_true (by omega)
    refine T.seq_k (fun K_h2 h2 => ?_)
    refine T.regi hm ?_
    simp only [↓reduceIte, namesOf, List.any, I.names, aopsI, astep, ev, setd, List.set, List.getD, List.getElem?_cons_zero, List.getElem?_cons_succ, then_normal, Option.getD_some, Bool.or_false, Bool.false_eq_true, up_zero, binv, ↓opt_def, List.map_cons, List.map_nil, eq_self, f1, Bool.not_true]
    refine hb1.mono ?_
    rintro v u ⟨rfl, rfl⟩
    try simp only [↓reduceIte, Bool.false_eq_true, eq_self, f2]
    refine hl1.mono ?_
    rintro v u ⟨rfl, rfl⟩
    try simp only [↓reduceIte, eq_self, f3]
    refine h2 _ _ ?_
    try clear h2 K_h2
    refine T.cond rfl (fun _ => ?_) (fun h => by cases h)
    refine T.seq_k (fun K_h0 h0 => ?_)
    refine T.regi hm ?_
    simp only [↓reduceIte, namesOf, List.any, I.names, aopsI, astep, ev, setd, List.set, List.getD, List.getElem?_cons_zero, List.getElem?_cons_succ, then_normal, Option.getD_some, Bool.or_false, Bool.false_eq_true, up_zero]
    refine h0 _ _ ?_
    try clear h0 K_h0
    exact T.ret (hbad _ (fun h => he h.1) rfl)

set_option maxRecDepth 10000 in
theorem mGet_ok {x : List UInt8} {g : Ver} {σ : St} (hx : x.length ≤ 1099511627776) : ACalls Tryz.prog n_mGet [.sl (bytesAV x) g] σ
    (fun v σ' => v = .tup [.agg (mtC (metaGF x).1), errAV (metaGF x).2] ∧ σ' = σ) := by
  refine s_mGet (fun wf => ?_)
  unfold c_mGet
  have hz : [AV.int .u64 0, .int .i64 0, .int .i64 0, .int .i64 0, .int .i64 0, .int .i64 0] = mtC mZ := rfl
  have en : eqIv true [(tCode, .i64)] .nili .nili = some true := rfl
  refine T.seq_k (fun K_h0 h0 => ?_)
  refine T.regi hm ?_
  simp only [↓reduceIte, namesOf, List.any, I.names, aopsI, astep, ev, setd, List.set, List.cons_append, List.nil_append, List.length_cons, List.length_nil, List.replicate, then_normal, Bool.or_false, Nat.reduceAdd, Nat.reduceSub, eq_self]
  refine h0 _ _ ?_
  try clear h0 K_h0
  rw [hz]
  have hq : ((σ.up 2).set (σ.next + 0) (.obj (mtC mZ))).res (σ.next + 0) = some (.obj (mtC mZ)) := St.set_same _ _ _
  have hL : Like σ ((σ.up 2).set (σ.next + 0) (.obj (mtC mZ))) := (Like.refl σ).box (n := 2) (i := 0) _
  have hlo : σ.next ≤ σ.next + 0 := by omega
  have hlt : σ.next + 0 < ((σ.up 2).set (σ.next + 0) (.obj (mtC mZ))).next := by simp
  generalize ((σ.up 2).set (σ.next + 0) (.obj (mtC mZ))) = t at hq hL hlt ⊢
  generalize σ.next + 0 = q at hq hlo hlt ⊢
  refine T.seq_k (fun K_h0 h0 => ?_)
  refine T.regi hm ?_
  simp only [↓reduceIte, namesOf, List.any, I.names, aopsI, astep, setd, List.set, List.length_cons, List.length_nil, then_normal, Bool.or_false, Nat.reduceAdd, eq_self]
  refine h0 _ _ ?_
  try clear h0 K_h0
  try rw [hz]
  have hb : ((t.up 1).set (t.next + 0) (.obj (mtC mZ))).res (t.next + 0) = some (.obj (mtC mZ)) := St.set_same _ _ _
  have hq1 : ((t.up 1).set (t.next + 0) (.obj (mtC mZ))).res q = some (.obj (mtC mZ)) := by rw [St.set_other _ _ (by omega)]; exact hq
  have hL1 : Like σ ((t.up 1).set (t.next + 0) (.obj (mtC mZ))) := hL.box (n := 1) (i := 0) _
  have hlb : σ.next ≤ t.next + 0 := by have := hL.next; omega
  have hqb : q ≠ t.next + 0 := by omega
  generalize ((t.up 1).set (t.next + 0) (.obj (mtC mZ))) = u at hb hq1 hL1 ⊢
  generalize t.next + 0 = b at hb hlb hqb ⊢
  refine T.seq_k (fun K_h1 h1 => ?_)
  refine T.regi hm ?_
  simp only [↓reduceIte, namesOf, List.any, I.names, aopsI, astep, ev, setd, List.set, List.getD, List.getElem?_cons_zero, List.getElem?_cons_succ, then_normal, Option.getD_some, Bool.or_false, Bool.false_eq_true, up_zero, List.map_cons, List.map_nil]
  refine (mOpenG_ok (g := g) hx hb).mono ?_
  rintro v w ⟨rfl, m, rfl, hmg⟩
  try simp only [↓reduceIte, namesOf, List.any, I.names, aops, aopsI, aopsT, qstep, CPt, qget, Tbl.get, astep, ev, setd, List.set, List.getD, List.getElem?_cons_zero, List.getElem?_cons_succ, List.getElem?_nil, List.cons_append, List.nil_append, List.length_cons, List.length_nil, List.replicate, then_normal, inBlock_normal, Option.getD_some, Option.getD_none, Bool.or_false, Bool.or_true, Bool.true_or, Bool.false_or, Bool.false_eq_true, if_false, if_true, up_zero, Nat.reduceAdd, Nat.reduceSub, binv, ↓opt_def, AV.isAny, AV.cells, ldc, List.map_cons, List.map_nil, St.set_next, St.set_same, St.up_next, Int.natCast_nonneg, lt_len, le_len, Int.toNat_natCast, true_and, and_true, eq_self, reduceCtorEq, decide_true, List.length_singleton, er_int, er_bool, er_str, srcR, up_zero]
  refine h1 _ _ ?_
  try clear h1 K_h1
  have hq2 : (u.set b (.obj (mtC m))).res q = some (.obj (mtC mZ)) := by rw [St.set_other _ _ hqb]; exact hq1
  have hb2 : (u.set b (.obj (mtC m))).res b = some (.obj (mtC m)) := St.set_same _ _ _
  have hL2 : Like σ (u.set b (.obj (mtC m))) := hL1.set _ hlb
  generalize (u.set b (.obj (mtC m))) = u2 at hq2 hb2 hL2 ⊢
  have fin : ∀ (ρ' : List AV) (s : St) (m' : Mt) (e : AV), Like σ s → s.res q = some (.obj (mtC m')) → ρ'.getD 2 .any = .ptr q 0 → ρ'.getD 3 .any = e → e.nb σ.next → m' = (metaGF x).1 → e = errAV (metaGF x).2 → Fin σ [.cell 2 (some 6), .t 3] (fun v σ' => v = .tup [.agg (mtC (metaGF x).1), errAV (metaGF x).2] ∧ σ' = σ) .ret ρ' s := by
    intro ρ' s m' e hLs hs h2 h3 hn hm' he
    subst hm' he
    have hv : rvals ρ' s [.cell 2 (some 6), .t 3] = some [.agg (mtC (metaGF x).1), errAV (metaGF x).2] := by
      simp only [rvals, rval, h2, h3, hs]
      rfl
    exact Fin.quiet hv ⟨⟨trivial, trivial, trivial, trivial, trivial, trivial, trivial⟩, hn, trivial⟩ (hLs.quiet wf) ⟨rfl, rfl⟩
  refine T.seq_k (fun K_h1 h1 => ?_)
  by_cases h0 : (metaGF x).2 = 0
  · have e0 : errAV (metaGF x).2 = .nili := if_pos h0
    refine T.seq_k (fun K_h0 h0 => ?_)
    refine T.regi hm ?_
    simp only [↓reduceIte, namesOf, List.any, I.names, aopsI, astep, ev, setd, List.set, List.getD, List.getElem?_cons_zero, List.getElem?_cons_succ, then_normal, Option.getD_some, Bool.or_false, Bool.false_eq_true, up_zero, e0, en, bne_self_eq_false]
    refine h0 _ _ ?_
    try clear h0 K_h0
    refine T.cond rfl (fun h => by cases h) (fun _ => T.skip ?_)
    refine h1 _ _ ?_
    try clear h1 K_h1
    refine T.seq_k (fun K_h0 h0 => ?_)
    refine T.regi hm ?_
    simp only [↓reduceIte, namesOf, List.any, I.names, aopsI, astep, ev, setd, List.set, List.getD, List.getElem?_cons_zero, List.getElem?_cons_succ, List.cons_append, List.nil_append, List.length_cons, List.length_nil, then_normal, Option.getD_some, Bool.or_false, Bool.false_eq_true, up_zero, Nat.reduceAdd, ↓opt_def, AV.isAny, AV.cells, ldc, eq_self, decide_true, hb2, hq2, AV.fits, AV.one, List.all_cons, List.all_nil, Nat.reduceBEq, Bool.not_false, Bool.and_self, Nat.zero_add, splice, List.take, List.drop, Nat.reduceLeDiff]
    refine h0 _ _ ?_
    try clear h0 K_h0
    have hm1 := hmg h0
    exact T.ret (fin _ _ m .nili (hL2.set _ hlo) (St.set_same _ _ _) rfl rfl trivial hm1 e0.symm)
  · have e0 : errAV (metaGF x).2 = .iface tCode (.int .i64 (metaGF x).2) := if_neg h0
    have en2 : eqIv true [(tCode, .i64)] (.iface tCode (.int .i64 (metaGF x).2)) .nili = some false := rfl
    have hm1 : (metaGF x).1 = mZ := by
      unfold metaGF at h0 ⊢
      split
      · rfl
      · rename_i ho
        rw [if_neg ho] at h0
        split
        · rename_i hh; rw [if_pos hh] at h0; exact absurd rfl h0
        · rfl
    refine T.seq_k (fun K_h0 h0 => ?_)
    refine T.regi hm ?_
    simp only [↓reduceIte, namesOf, List.any, I.names, aopsI, astep, ev, setd, List.set, List.getD, List.getElem?_cons_zero, List.getElem?_cons_succ, then_normal, Option.getD_some, Bool.or_false, Bool.false_eq_true, up_zero, e0, en2, Bool.false_bne]
    refine h0 _ _ ?_
    try clear h0 K_h0
    refine T.cond rfl (fun _ => ?_) (fun h => by cases h)
    refine T.seq_k (fun K_h0 h0 => ?_)
    refine T.regi hm ?_
    simp only [↓reduceIte, namesOf, List.any, I.names, aopsI, astep, ev, setd, List.set, List.getD, List.getElem?_cons_zero, List.getElem?_cons_succ, List.cons_append, List.nil_append, List.length_cons, List.length_nil, then_normal, Option.getD_some, Bool.or_false, Bool.false_eq_true, up_zero, Nat.reduceAdd, ↓opt_def, AV.isAny, AV.cells, eq_self, decide_true, e0, hq2, fillA, ↓Option.map_some, AV.fits, AV.one, List.all_cons, List.all_nil, Nat.reduceBEq, Bool.not_false, Bool.and_self, Nat.zero_add, splice, List.take, List.drop, Nat.reduceLeDiff]
    refine h0 _ _ ?_
    try clear h0 K_h0
    exact T.ret (fin _ _ mZ (.iface tCode (.int .i64 (metaGF x).2)) (hL2.set _ hlo) (St.set_same _ _ _) rfl rfl trivial hm1.symm e0.symm)

end Go.VL

namespace Go.VL

open Go.Proofs

/-- an owned thing nm, and a row that grows -/
structure RS (σ σ' : St) (nm : Nat) (r : Res) (k : Nat) (v : Ver) : Prop where
  old : ∀ m, m < σ.next → σ'.res m = σ.res m
  lo : σ.next ≤ nm
  hi : nm < σ'.next
  at_ : σ'.res nm = some r
  ver : v = .nil ∨ ∃ g, v = .tip g ∧ g ≠ nm ∧ σ.next ≤ g ∧ g < σ'.next ∧ σ'.res g = some (.tip k)

theorem RS.set {σ σ' : St} {nm k : Nat} {r : Res} {v : Ver} (h : RS σ σ' nm r k v) (r' : Res) : RS σ (σ'.set nm r') nm r' k v where
  old := fun m hm => by rw [St.set_other _ _ (by have := h.lo; omega)]; exact h.old m hm
  lo := h.lo
  hi := h.hi
  at_ := by simp
  ver := h.ver.imp id fun ⟨g, h1, h2, h3, h4, h5⟩ => ⟨g, h1, h2, h3, h4, by rw [St.set_other _ _ h2]; exact h5⟩

theorem RS.up {σ σ' : St} {nm k : Nat} {r : Res} {v : Ver} (h : RS σ σ' nm r k v) (n : Nat) : RS σ (σ'.up n) nm r k v :=
  ⟨h.old, h.lo, Nat.lt_of_lt_of_le h.hi (Nat.le_add_right _ _), h.at_, h.ver.imp id fun ⟨g, h1, h2, h3, h4, h5⟩ => ⟨g, h1, h2, h3, Nat.lt_of_lt_of_le h4 (Nat.le_add_right _ _), h5⟩⟩

theorem RS.nil {σ σ' : St} {nm k g2 : Nat} {r : Res} (h : RS σ σ' nm r k .nil) (h1 : nm < g2) (h2 : g2 < σ'.next) : RS σ (σ'.set g2 (.tip k)) nm r k (.tip g2) where
  old := fun m hm => by rw [St.set_other _ _ (by have := h.lo; omega)]; exact h.old m hm
  lo := h.lo
  hi := h.hi
  at_ := by rw [St.set_other _ _ (by omega)]; exact h.at_
  ver := .inr ⟨g2, rfl, by omega, by have := h.lo; omega, h2, by simp⟩

theorem RS.tip {σ σ' : St} {nm k g g2 : Nat} {r : Res} (h : RS σ σ' nm r k (.tip g)) (h1 : nm < g2) (h2 : g2 < σ'.next) : RS σ ((σ'.del g).set g2 (.tip k)) nm r k (.tip g2) := by
  obtain ⟨g', e, a1, a2, a3, a4⟩ := h.ver.resolve_left (by simp)
  cases e
  refine ⟨fun m hm => ?_, h.lo, h.hi, ?_, .inr ⟨g2, rfl, by omega, by have := h.lo; omega, h2, by simp⟩⟩
  · rw [St.set_other _ _ (by have := h.lo; omega)]
    simp only [St.del]
    rw [if_neg (by omega)]; exact h.old m hm
  · rw [St.set_other _ _ (by omega)]
    simp only [St.del]
    rw [if_neg (fun e => a1 e.symm)]; exact h.at_

theorem RS.quiet {σ σ' : St} {nm k : Nat} {r : Res} {v : Ver} (wf : WF σ) (h : RS σ σ' nm r k v) : ∀ m s, σ.res m = some s → σ'.res m = some s := by
  intro m s hm
  have : m < σ.next := by
    rcases Nat.lt_or_ge m σ.next with h | h
    · exact h
    · rw [wf m h] at hm; cases hm
  rw [h.old m this]; exact hm

end Go.VL

namespace Go.VL

open Go.Proofs

def mkZ : Mk := ⟨0, 0, 0⟩

/-- the marker of bytes without a sum -/
def stoodF (b : List UInt8) : Mk × Bool :=
  if b.length = 24 then
    (⟨numB (b.take 8), IntKind.i64.wrap (numB ((b.drop 8).take 8) : Int), numB ((b.drop 16).take 8)⟩,
      decide (fairM ⟨numB (b.take 8), IntKind.i64.wrap (numB ((b.drop 8).take 8) : Int), numB ((b.drop 16).take 8)⟩))
  else (mkZ, false)

def markerF (x : List UInt8) : Mk × Int :=
  if (openB x).1 ≠ 0 then (mkZ, (openB x).1) else if (stoodF (openB x).2).2 then ((stoodF (openB x).2).1, 0) else (mkZ, 2)

set_option maxRecDepth 10000 in
set_option maxHeartbeats 1000000 in
theorem rStood_ok {b : List UInt8} {g : Ver} {σ : St} (hb : b.length ≤ 1099511627776) : ACalls Tryz.prog n_rStood [.sl (bytesAV b) g] σ
    (fun v σ' => v = .tup [.agg (mkC (stoodF b).1), .bool (stoodF b).2] ∧ σ' = σ) := by
  refine s_rStood (fun wf => ?_)
  unfold c_rStood
  refine T.seq_k (fun K_h0 h0 => ?_)
  refine T.regi hm ?_
  simp only [↓reduceIte, namesOf, List.any, I.names, aopsI, astep, ev, setd, List.set, List.cons_append, List.nil_append, List.length_cons, List.length_nil, List.replicate, then_normal, Bool.or_false, Nat.reduceAdd, Nat.reduceSub, eq_self]
  refine h0 _ _ ?_
  try clear h0 K_h0
  have hq : ((σ.up 2).set (σ.next + 0) (.obj [.int .u64 0, .int .i64 0, .int .u64 0])).res (σ.next + 0) = some (.obj [.int .u64 0, .int .i64 0, .int .u64 0]) := St.set_same _ _ _
  have hL : Like σ ((σ.up 2).set (σ.next + 0) (.obj [.int .u64 0, .int .i64 0, .int .u64 0])) := (Like.refl σ).box (n := 2) (i := 0) _
  have hlo : σ.next ≤ σ.next + 0 := by omega
  have hlt : σ.next + 0 < ((σ.up 2).set (σ.next + 0) (.obj [.int .u64 0, .int .i64 0, .int .u64 0])).next := by simp
  generalize ((σ.up 2).set (σ.next + 0) (.obj [.int .u64 0, .int .i64 0, .int .u64 0])) = t at hq hL hlt ⊢
  generalize σ.next + 0 = q at hq hlo hlt ⊢
  refine T.seq_k (fun K_h1 h1 => ?_)
  by_cases h24 : b.length = 24
  case neg =>
    have e1 : ((b.length : Int) != 24) = true := by simp; omega
    have hst : stoodF b = (mkZ, false) := if_neg h24
    refine T.seq_k (fun K_h0 h0 => ?_)
    refine T.regi hm ?_
    simp only [↓reduceIte, namesOf, List.any, I.names, aopsI, astep, ev, setd, List.set, List.getD, List.getElem?_cons_zero, List.getElem?_cons_succ, then_normal, Option.getD_some, Bool.or_false, Bool.false_eq_true, up_zero, binv, ↓opt_def, eq_self, bytesAV_len, e1]
    refine h0 _ _ ?_
    try clear h0 K_h0
    refine T.cond rfl (fun _ => ?_) (fun h => by cases h)
    refine T.seq_k (fun K_h0 h0 => ?_)
    refine T.regi hm ?_
    simp only [↓reduceIte, namesOf, List.any, I.names, aopsI, astep, ev, setd, List.set, List.getD, List.getElem?_cons_zero, List.getElem?_cons_succ, List.cons_append, List.nil_append, List.length_cons, List.length_nil, then_normal, Option.getD_some, Bool.or_false, Bool.false_eq_true, up_zero, Nat.reduceAdd, ↓opt_def, AV.isAny, AV.cells, eq_self, decide_true, fillA, ↓Option.map_some, hq, AV.fits, AV.one, List.all_cons, List.all_nil, Nat.reduceBEq, Bool.not_false, Bool.and_self, Nat.zero_add, splice, List.take, List.drop, Nat.reduceLeDiff]
    refine h0 _ _ ?_
    try clear h0 K_h0
    have hq2 : (t.set q (.obj [.int .u64 0, .int .i64 0, .int .u64 0])).res q = some (.obj [.int .u64 0, .int .i64 0, .int .u64 0]) := St.set_same _ _ _
    have hL9 : Like σ (t.set q (.obj [.int .u64 0, .int .i64 0, .int .u64 0])) := hL.set _ hlo
    generalize (t.set q (.obj [.int .u64 0, .int .i64 0, .int .u64 0])) = t9 at hq2 hL9 ⊢
    exact T.ret (Fin.quiet (xs := [.agg (mkC mkZ), .bool false]) (by simp [rvals, rval, hq2, ldc, mkZ]) ⟨⟨trivial, trivial, trivial, trivial⟩, trivial, trivial⟩ (hL9.quiet wf) ⟨by rw [hst]; rfl, rfl⟩)
  have e1 : ((b.length : Int) != 24) = false := by simp; omega
  refine T.seq_k (fun K_h0 h0 => ?_)
  refine T.regi hm ?_
  simp only [↓reduceIte, namesOf, List.any, I.names, aopsI, astep, ev, setd, List.set, List.getD, List.getElem?_cons_zero, List.getElem?_cons_succ, then_normal, Option.getD_some, Bool.or_false, Bool.false_eq_true, up_zero, binv, ↓opt_def, eq_self, bytesAV_len, e1]
  refine h0 _ _ ?_
  try clear h0 K_h0
  refine T.cond rfl (fun h => by cases h) (fun _ => T.skip ?_)
  refine h1 _ _ ?_
  try clear h1 K_h1
  refine T.seq_k (fun K_h0 h0 => ?_)
  refine T.regi hm ?_
  simp only [↓reduceIte, namesOf, List.any, I.names, aopsI, astep, ev, setd, List.set, List.getD, List.getElem?_cons_zero, List.getElem?_cons_succ, List.cons_append, List.nil_append, List.length_cons, List.length_nil, then_normal, Option.getD_some, Bool.or_false, Bool.or_true, Bool.false_eq_true, Nat.reduceAdd, ↓opt_def, AV.isAny, AV.cells, and_true, eq_self, fillA, ↓Option.map_some, AV.fits, AV.one, List.all_cons, List.all_nil, Nat.reduceBEq, Bool.not_false, Bool.and_self, Nat.zero_add, splice, List.take, List.drop, Nat.reduceLeDiff]
  refine h0 _ _ ?_
  try clear h0 K_h0
  have hr0 : ((t.up 4).set (t.next + 2) (.obj [.sl (bytesAV b) g, .int .i64 0, .int .i64 (-1)])).res (t.next + 2) = some (rd b g 0 (-1)) := St.set_same _ _ _
  have hq1 : ((t.up 4).set (t.next + 2) (.obj [.sl (bytesAV b) g, .int .i64 0, .int .i64 (-1)])).res q = some (.obj [.int .u64 0, .int .i64 0, .int .u64 0]) := by rw [St.set_other _ _ (by omega)]; exact hq
  have hL1 : Like σ ((t.up 4).set (t.next + 2) (.obj [.sl (bytesAV b) g, .int .i64 0, .int .i64 (-1)])) := hL.box (n := 4) (i := 2) _
  have hpq : t.next + 2 ≠ q := by omega
  have hpl : σ.next ≤ t.next + 2 := by have := hL.next; omega
  have hlt1 : q < ((t.up 4).set (t.next + 2) (.obj [.sl (bytesAV b) g, .int .i64 0, .int .i64 (-1)])).next := by simp; omega
  generalize ((t.up 4).set (t.next + 2) (.obj [.sl (bytesAV b) g, .int .i64 0, .int .i64 (-1)])) = u at hr0 hq1 hL1 hlt1 ⊢
  generalize t.next + 2 = p at hr0 hpq hpl ⊢
  clear hq hL hlt
  have rdk : ∀ a : Int, 0 ≤ a → a ≤ 24 → Rd b a (-1) := fun a h1 h2 => ⟨by omega, by omega, by omega⟩
  refine T.seq_k (fun K_h1 h1 => ?_)
  refine T.regi hm ?_
  simp only [↓reduceIte, namesOf, List.any, I.names, aopsI, astep, ev, setd, List.set, List.getD, List.getElem?_cons_zero, List.getElem?_cons_succ, then_normal, Option.getD_some, Bool.or_false, Bool.false_eq_true, up_zero, List.map_cons, List.map_nil]
  refine (rword_ok (l := b) (g := g) (at_ := 0) (bad := -1) (w := 8) (rdk 0 (by omega) (by omega)) (.inl rfl) rfl hr0).mono ?_
  rintro v σ1 (⟨_, rfl, rfl⟩ | ⟨hn, _, _⟩)
  case inr => exact absurd ⟨rfl, by omega⟩ hn
  try simp only [↓reduceIte, namesOf, List.any, I.names, aops, aopsI, aopsT, qstep, CPt, qget, Tbl.get, astep, ev, setd, List.set, List.getD, List.getElem?_cons_zero, List.getElem?_cons_succ, List.getElem?_nil, List.cons_append, List.nil_append, List.length_cons, List.length_nil, List.replicate, then_normal, inBlock_normal, Option.getD_some, Option.getD_none, Bool.or_false, Bool.or_true, Bool.true_or, Bool.false_or, Bool.false_eq_true, if_false, if_true, up_zero, Nat.reduceAdd, Nat.reduceSub, binv, ↓opt_def, AV.isAny, AV.cells, ldc, List.map_cons, List.map_nil, St.set_next, St.set_same, St.up_next, Int.natCast_nonneg, lt_len, le_len, Int.toNat_natCast, true_and, and_true, eq_self, reduceCtorEq, decide_true, List.length_singleton, er_int, er_bool, er_str, srcR, up_zero]
  refine h1 _ _ ?_
  try clear h1 K_h1
  have hr1 : (u.set p (rd b g (0 + ((8 : Nat) : Int)) (-1))).res p = some (rd b g 8 (-1)) := St.set_same _ _ _
  refine T.seq_k (fun K_h1 h1 => ?_)
  refine T.regi hm ?_
  simp only [↓reduceIte, namesOf, List.any, I.names, aopsI, astep, ev, setd, List.set, List.getD, List.getElem?_cons_zero, List.getElem?_cons_succ, then_normal, Option.getD_some, Bool.or_false, Bool.false_eq_true, up_zero, List.map_cons, List.map_nil]
  refine (rword_ok (l := b) (g := g) (at_ := 8) (bad := -1) (w := 8) (rdk 8 (by omega) (by omega)) (.inl rfl) rfl hr1).mono ?_
  rintro v σ1 (⟨_, rfl, rfl⟩ | ⟨hn, _, _⟩)
  case inr => exact absurd ⟨rfl, by omega⟩ hn
  try simp only [St.set_set]
  refine h1 _ _ ?_
  try clear h1 K_h1
  have hr2 : (u.set p (rd b g (8 + ((8 : Nat) : Int)) (-1))).res p = some (rd b g 16 (-1)) := St.set_same _ _ _
  refine T.seq_k (fun K_h1 h1 => ?_)
  refine T.regi hm ?_
  simp only [↓reduceIte, namesOf, List.any, I.names, aopsI, astep, ev, setd, List.set, List.getD, List.getElem?_cons_zero, List.getElem?_cons_succ, then_normal, Option.getD_some, Bool.or_false, Bool.false_eq_true, up_zero, List.map_cons, List.map_nil]
  refine (rword_ok (l := b) (g := g) (at_ := 16) (bad := -1) (w := 8) (rdk 16 (by omega) (by omega)) (.inl rfl) rfl hr2).mono ?_
  rintro v σ1 (⟨_, rfl, rfl⟩ | ⟨hn, _, _⟩)
  case inr => exact absurd ⟨rfl, by omega⟩ hn
  try simp only [St.set_set]
  refine h1 _ _ ?_
  try clear h1 K_h1
  have hL2 : Like σ (u.set p (rd b g (16 + ((8 : Nat) : Int)) (-1))) := hL1.set _ hpl
  have hq2 : (u.set p (rd b g (16 + ((8 : Nat) : Int)) (-1))).res q = some (.obj [.int .u64 0, .int .i64 0, .int .u64 0]) := by rw [St.set_other _ _ hpq.symm]; exact hq1
  have hlt2 : q < (u.set p (rd b g (16 + ((8 : Nat) : Int)) (-1))).next := hlt1
  generalize (u.set p (rd b g (16 + ((8 : Nat) : Int)) (-1))) = u2 at hL2 hq2 hlt2 ⊢
  have hst : stoodF b = (⟨numB (b.take 8), IntKind.i64.wrap (numB ((b.drop 8).take 8) : Int), numB ((b.drop 16).take 8)⟩, decide (fairM ⟨numB (b.take 8), IntKind.i64.wrap (numB ((b.drop 8).take 8) : Int), numB ((b.drop 16).take 8)⟩)) := if_pos h24
  have n0 : (b.drop (0 : Int).toNat).take 8 = b.take 8 := rfl
  have n8 : (b.drop (8 : Int).toNat).take 8 = (b.drop 8).take 8 := rfl
  have n16 : (b.drop (16 : Int).toNat).take 8 = (b.drop 16).take 8 := rfl
  rw [n0, n8, n16]
  generalize numB (b.take 8) = x1 at hst ⊢
  generalize numB ((b.drop 8).take 8) = x2 at hst ⊢
  generalize numB ((b.drop 16).take 8) = x3 at hst ⊢
  generalize hx2 : IntKind.i64.wrap (x2 : Int) = y2 at hst
  refine T.seq_k (fun K_h0 h0 => ?_)
  refine T.regi hm ?_
  simp only [↓reduceIte, namesOf, List.any, I.names, aopsI, astep, ev, setd, List.set, List.getD, List.getElem?_cons_zero, List.getElem?_cons_succ, List.cons_append, List.nil_append, List.length_cons, List.length_nil, then_normal, Option.getD_some, Bool.or_false, Bool.or_true, Nat.reduceAdd, ↓opt_def, AV.isAny, AV.cells, St.set_same, and_true, eq_self, decide_true, hx2, fillA, ↓Option.map_some, AV.fits, AV.one, List.all_cons, List.all_nil, Nat.reduceBEq, Bool.not_false, Bool.and_self, Nat.zero_add, splice, List.take, List.drop, Nat.reduceLeDiff, St.set_set]
  refine h0 _ _ ?_
  try clear h0 K_h0
  have hb3 : ((u2.up 7).set (u2.next + 5) (.obj (mkC ⟨x1, y2, x3⟩))).res (u2.next + 5) = some (.obj (mkC ⟨x1, y2, x3⟩)) := St.set_same _ _ _
  have hq3 : ((u2.up 7).set (u2.next + 5) (.obj (mkC ⟨x1, y2, x3⟩))).res q = some (.obj [.int .u64 0, .int .i64 0, .int .u64 0]) := by rw [St.set_other _ _ (by omega)]; exact hq2
  have hL3 : Like σ ((u2.up 7).set (u2.next + 5) (.obj (mkC ⟨x1, y2, x3⟩))) := hL2.box (n := 7) (i := 5) _
  generalize ((u2.up 7).set (u2.next + 5) (.obj (mkC ⟨x1, y2, x3⟩))) = u3 at hb3 hq3 hL3 ⊢
  generalize u2.next + 5 = b3 at hb3 ⊢
  refine T.seq_k (fun K_h1 h1 => ?_)
  refine T.regi hm ?_
  simp only [↓reduceIte, namesOf, List.any, I.names, aopsI, astep, ev, setd, List.set, List.getD, List.getElem?_cons_zero, List.getElem?_cons_succ, List.length_cons, List.length_nil, then_normal, Option.getD_some, Bool.or_false, Bool.false_eq_true, up_zero, Nat.reduceAdd, ↓opt_def, ldc, List.map_cons, List.map_nil, hb3, Nat.zero_add, List.take, List.drop, Nat.reduceLeDiff]
  refine (rFair_ok (k := ⟨x1, y2, x3⟩)).mono ?_
  rintro v σ1 ⟨rfl, rfl⟩
  try simp only [↓reduceIte, namesOf, List.any, I.names, aops, aopsI, aopsT, qstep, CPt, qget, Tbl.get, astep, ev, setd, List.set, List.getD, List.getElem?_cons_zero, List.getElem?_cons_succ, List.getElem?_nil, List.cons_append, List.nil_append, List.length_cons, List.length_nil, List.replicate, then_normal, inBlock_normal, Option.getD_some, Option.getD_none, Bool.or_false, Bool.or_true, Bool.true_or, Bool.false_or, Bool.false_eq_true, if_false, if_true, up_zero, Nat.reduceAdd, Nat.reduceSub, binv, ↓opt_def, AV.isAny, AV.cells, ldc, List.map_cons, List.map_nil, St.set_next, St.set_same, St.up_next, Int.natCast_nonneg, lt_len, le_len, Int.toNat_natCast, true_and, and_true, eq_self, reduceCtorEq, decide_true, List.length_singleton, er_int, er_bool, er_str, srcR, up_zero]
  refine h1 _ _ ?_
  try clear h1 K_h1
  refine T.seq_k (fun K_h0 h0 => ?_)
  refine T.regi hm ?_
  simp only [↓reduceIte, namesOf, List.any, I.names, aopsI, astep, ev, setd, List.set, List.getD, List.getElem?_cons_zero, List.getElem?_cons_succ, List.cons_append, List.nil_append, List.length_cons, List.length_nil, then_normal, Option.getD_some, Bool.or_false, Bool.false_eq_true, up_zero, Nat.reduceAdd, ↓opt_def, AV.isAny, AV.cells, ldc, eq_self, decide_true, hb3, hq3, AV.fits, AV.one, List.all_cons, List.all_nil, Nat.reduceBEq, Bool.not_false, Bool.and_self, Nat.zero_add, splice, List.take, List.drop, Nat.reduceLeDiff]
  refine h0 _ _ ?_
  try clear h0 K_h0
  have hq4 : (σ1.set q (.obj (mkC ⟨x1, y2, x3⟩))).res q = some (.obj (mkC ⟨x1, y2, x3⟩)) := St.set_same _ _ _
  have hL4 : Like σ (σ1.set q (.obj (mkC ⟨x1, y2, x3⟩))) := hL3.set _ hlo
  generalize (σ1.set q (.obj (mkC ⟨x1, y2, x3⟩))) = u4 at hq4 hL4 ⊢
  exact T.ret (Fin.quiet (xs := [.agg (mkC ⟨x1, y2, x3⟩), .bool (decide (fairM ⟨x1, y2, x3⟩))]) (by simp [rvals, rval, hq4, ldc]) ⟨⟨trivial, trivial, trivial, trivial⟩, trivial, trivial⟩ (hL4.quiet wf) ⟨by rw [hst]; rfl, rfl⟩)

set_option maxRecDepth 10000 in
theorem rMarker_ok {x : List UInt8} {g : Ver} {σ : St} (hx : x.length ≤ 1099511627776) : ACalls Tryz.prog n_rMarker [.sl (bytesAV x) g] σ
    (fun v σ' => v = .tup [.agg (mkC (markerF x).1), .int .i64 (markerF x).2] ∧ σ' = σ) := by
  refine s_rMarker (fun wf => ?_)
  unfold c_rMarker
  refine T.seq_k (fun K_h0 h0 => ?_)
  refine T.regi hm ?_
  simp only [↓reduceIte, namesOf, List.any, I.names, aopsI, astep, ev, setd, List.set, List.cons_append, List.nil_append, List.length_cons, List.length_nil, List.replicate, then_normal, Bool.or_false, Nat.reduceAdd, Nat.reduceSub, eq_self]
  refine h0 _ _ ?_
  try clear h0 K_h0
  have hq : ((σ.up 2).set (σ.next + 0) (.obj [.int .u64 0, .int .i64 0, .int .u64 0])).res (σ.next + 0) = some (.obj [.int .u64 0, .int .i64 0, .int .u64 0]) := St.set_same _ _ _
  have hL : Like σ ((σ.up 2).set (σ.next + 0) (.obj [.int .u64 0, .int .i64 0, .int .u64 0])) := (Like.refl σ).box (n := 2) (i := 0) _
  have hlo : σ.next ≤ σ.next + 0 := by omega
  have hlt : σ.next + 0 < ((σ.up 2).set (σ.next + 0) (.obj [.int .u64 0, .int .i64 0, .int .u64 0])).next := by simp
  generalize ((σ.up 2).set (σ.next + 0) (.obj [.int .u64 0, .int .i64 0, .int .u64 0])) = t at hq hL hlt ⊢
  generalize σ.next + 0 = q at hq hlo hlt ⊢
  have hq9 : (t.set q (.obj [.int .u64 0, .int .i64 0, .int .u64 0])).res q = some (.obj [.int .u64 0, .int .i64 0, .int .u64 0]) := St.set_same _ _ _
  have hL9 : Like σ (t.set q (.obj [.int .u64 0, .int .i64 0, .int .u64 0])) := hL.set _ hlo
  have hol : (openB x).2.length ≤ 1099511627776 := by
    unfold openB; split
    · simp
    · split
      · rw [List.length_take]; omega
      · simp
  refine T.seq_k (fun K_h1 h1 => ?_)
  refine T.regi hm ?_
  simp only [↓reduceIte, namesOf, List.any, I.names, aopsI, astep, ev, setd, List.set, List.getD, List.getElem?_cons_zero, List.getElem?_cons_succ, then_normal, Option.getD_some, Bool.or_false, Bool.false_eq_true, up_zero, ↓opt_def, List.map_cons, List.map_nil]
  refine (ropen_ok hx).mono ?_
  rintro v σ1 ⟨rfl, rfl⟩
  generalize hob : openB x = ob at hol
  obtain ⟨oc, ol⟩ := ob
  try simp only [List.getElem?_cons_zero, List.getElem?_cons_succ]
  refine h1 _ _ ?_
  try clear h1 K_h1
  refine T.seq_k (fun K_h1 h1 => ?_)
  by_cases hc : oc = 0
  case neg =>
    have e1 : (oc != 0) = true := by simpa using hc
    have hmk : markerF x = (mkZ, oc) := by unfold markerF; rw [hob]; exact if_pos hc
    refine T.seq_k (fun K_h0 h0 => ?_)
    refine T.regi hm ?_
    simp only [↓reduceIte, namesOf, List.any, I.names, aopsI, astep, ev, setd, List.set, List.getD, List.getElem?_cons_zero, List.getElem?_cons_succ, then_normal, Option.getD_some, Bool.or_false, Bool.false_eq_true, up_zero, binv, ↓opt_def, eq_self, e1]
    refine h0 _ _ ?_
    try clear h0 K_h0
    refine T.cond rfl (fun _ => ?_) (fun h => by cases h)
    refine T.seq_k (fun K_h0 h0 => ?_)
    refine T.regi hm ?_
    simp only [↓reduceIte, namesOf, List.any, I.names, aopsI, astep, ev, setd, List.set, List.getD, List.getElem?_cons_zero, List.getElem?_cons_succ, List.cons_append, List.nil_append, List.length_cons, List.length_nil, then_normal, Option.getD_some, Bool.or_false, Bool.false_eq_true, up_zero, Nat.reduceAdd, ↓opt_def, AV.isAny, AV.cells, eq_self, decide_true, fillA, ↓Option.map_some, hq, AV.fits, AV.one, List.all_cons, List.all_nil, Nat.reduceBEq, Bool.not_false, Bool.and_self, Nat.zero_add, splice, List.take, List.drop, Nat.reduceLeDiff]
    refine h0 _ _ ?_
    try clear h0 K_h0
    generalize (σ1.set q (.obj [.int .u64 0, .int .i64 0, .int .u64 0])) = t9 at hq9 hL9 ⊢
    exact T.ret (Fin.quiet (xs := [.agg (mkC mkZ), .int .i64 oc]) (by simp [rvals, rval, hq9, ldc, mkZ]) ⟨⟨trivial, trivial, trivial, trivial⟩, trivial, trivial⟩ (hL9.quiet wf) ⟨by rw [hmk]; rfl, rfl⟩)
  subst hc
  have e1 : ((0 : Int) != 0) = false := rfl
  refine T.seq_k (fun K_h0 h0 => ?_)
  refine T.regi hm ?_
  simp only [↓reduceIte, namesOf, List.any, I.names, aopsI, astep, ev, setd, List.set, List.getD, List.getElem?_cons_zero, List.getElem?_cons_succ, then_normal, Option.getD_some, Bool.or_false, Bool.false_eq_true, up_zero, binv, ↓opt_def, eq_self, e1]
  refine h0 _ _ ?_
  try clear h0 K_h0
  refine T.cond rfl (fun h => by cases h) (fun _ => T.skip ?_)
  refine h1 _ _ ?_
  try clear h1 K_h1
  have hmk : markerF x = if (stoodF ol).2 then ((stoodF ol).1, 0) else (mkZ, 2) := by unfold markerF; rw [hob]; exact if_neg (by simp)
  obtain ⟨k, ok, hso⟩ : ∃ k ok, stoodF ol = (k, ok) := ⟨_, _, rfl⟩
  rw [hso] at hmk
  refine T.seq_k (fun K_h1 h1 => ?_)
  refine T.regi hm ?_
  simp only [↓reduceIte, namesOf, List.any, I.names, aopsI, astep, ev, setd, List.set, List.getD, List.getElem?_cons_zero, List.getElem?_cons_succ, List.length_cons, List.length_nil, then_normal, Option.getD_some, Bool.or_false, Bool.or_true, Nat.reduceAdd, ↓opt_def, AV.cells, List.map_cons, List.map_nil, St.set_same, eq_self]
  refine (rStood_ok hol).mono ?_
  rintro v σ2 ⟨rfl, rfl⟩
  rw [hso]
  try simp only [↓reduceIte, List.getElem?_cons_zero, List.getElem?_cons_succ, List.cons_append, List.nil_append, List.length_cons, List.length_nil, Nat.reduceAdd, AV.isAny, AV.cells, eq_self, decide_true, AV.fits, AV.one, List.all_cons, List.all_nil, Nat.reduceBEq, Bool.not_false, Bool.and_self, Nat.zero_add, splice, List.take, List.drop, Nat.reduceLeDiff, St.set_set]
  refine h1 _ _ ?_
  try clear h1 K_h1
  have hb3 : ((σ1.up 8).set (σ1.next + 5) (.obj (mkC k))).res (σ1.next + 5) = some (.obj (mkC k)) := St.set_same _ _ _
  have hq3 : ((σ1.up 8).set (σ1.next + 5) (.obj (mkC k))).res q = some (.obj [.int .u64 0, .int .i64 0, .int .u64 0]) := by rw [St.set_other _ _ (by omega)]; exact hq
  have hL3 : Like σ ((σ1.up 8).set (σ1.next + 5) (.obj (mkC k))) := hL.box (n := 8) (i := 5) _
  generalize ((σ1.up 8).set (σ1.next + 5) (.obj (mkC k))) = u at hb3 hq3 hL3 ⊢
  generalize σ1.next + 5 = b3 at hb3 ⊢
  refine T.seq_k (fun K_h1 h1 => ?_)
  cases ok with
  | false =>
    have hmk : markerF x = (mkZ, 2) := by rw [hmk]; rfl
    refine T.seq_k (fun K_h0 h0 => ?_)
    refine T.regi hm ?_
    simp only [↓reduceIte, namesOf, List.any, I.names, aopsI, astep, ev, setd, List.set, List.getD, List.getElem?_cons_zero, List.getElem?_cons_succ, then_normal, Option.getD_some, Bool.or_false, Bool.false_eq_true, up_zero, Bool.not_false]
    refine h0 _ _ ?_
    try clear h0 K_h0
    refine T.cond rfl (fun _ => ?_) (fun h => by cases h)
    refine T.seq_k (fun K_h0 h0 => ?_)
    refine T.regi hm ?_
    simp only [↓reduceIte, namesOf, List.any, I.names, aopsI, astep, ev, setd, List.set, List.getD, List.getElem?_cons_zero, List.getElem?_cons_succ, List.cons_append, List.nil_append, List.length_cons, List.length_nil, then_normal, Option.getD_some, Bool.or_false, Bool.false_eq_true, up_zero, Nat.reduceAdd, ↓opt_def, AV.isAny, AV.cells, eq_self, decide_true, fillA, ↓Option.map_some, hq3, AV.fits, AV.one, List.all_cons, List.all_nil, Nat.reduceBEq, Bool.not_false, Bool.and_self, Nat.zero_add, splice, List.take, List.drop, Nat.reduceLeDiff]
    refine h0 _ _ ?_
    try clear h0 K_h0
    have hq4 : (u.set q (.obj [.int .u64 0, .int .i64 0, .int .u64 0])).res q = some (.obj [.int .u64 0, .int .i64 0, .int .u64 0]) := St.set_same _ _ _
    have hL4 : Like σ (u.set q (.obj [.int .u64 0, .int .i64 0, .int .u64 0])) := hL3.set _ hlo
    generalize (u.set q (.obj [.int .u64 0, .int .i64 0, .int .u64 0])) = t9 at hq4 hL4 ⊢
    exact T.ret (Fin.quiet (xs := [.agg (mkC mkZ), .int .i64 2]) (by simp [rvals, rval, hq4, ldc, mkZ]) ⟨⟨trivial, trivial, trivial, trivial⟩, trivial, trivial⟩ (hL4.quiet wf) ⟨by rw [hmk]; rfl, rfl⟩)
  | true =>
    have hmk : markerF x = (k, 0) := by rw [hmk]; rfl
    refine T.seq_k (fun K_h0 h0 => ?_)
    refine T.regi hm ?_
    simp only [↓reduceIte, namesOf, List.any, I.names, aopsI, astep, ev, setd, List.set, List.getD, List.getElem?_cons_zero, List.getElem?_cons_succ, then_normal, Option.getD_some, Bool.or_false, Bool.false_eq_true, up_zero, Bool.not_true]
    refine h0 _ _ ?_
    try clear h0 K_h0
    refine T.cond rfl (fun h => by cases h) (fun _ => T.skip ?_)
    refine h1 _ _ ?_
    try clear h1 K_h1
    refine T.seq_k (fun K_h0 h0 => ?_)
    refine T.regi hm ?_
    simp only [↓reduceIte, namesOf, List.any, I.names, aopsI, astep, ev, setd, List.set, List.getD, List.getElem?_cons_zero, List.getElem?_cons_succ, List.cons_append, List.nil_append, List.length_cons, List.length_nil, then_normal, Option.getD_some, Bool.or_false, Bool.false_eq_true, up_zero, Nat.reduceAdd, ↓opt_def, AV.isAny, AV.cells, ldc, eq_self, decide_true, hb3, hq3, AV.fits, AV.one, List.all_cons, List.all_nil, Nat.reduceBEq, Bool.not_false, Bool.and_self, Nat.zero_add, splice, List.take, List.drop, Nat.reduceLeDiff]
    refine h0 _ _ ?_
    try clear h0 K_h0
    have hq4 : (u.set q (.obj (mkC k))).res q = some (.obj (mkC k)) := St.set_same _ _ _
    have hL4 : Like σ (u.set q (.obj (mkC k))) := hL3.set _ hlo
    generalize (u.set q (.obj (mkC k))) = t9 at hq4 hL4 ⊢
    exact T.ret (Fin.quiet (xs := [.agg (mkC k), .int .i64 0]) (by simp [rvals, rval, hq4, ldc]) ⟨⟨trivial, trivial, trivial, trivial⟩, trivial, trivial⟩ (hL4.quiet wf) ⟨by rw [hmk]; rfl, rfl⟩)

end Go.VL

namespace Go.VL

open Go.Proofs

theorem rW_at {l : List UInt8} {a w : Nat} (h : a + w ≤ l.length) : rW l ⟨(a : Int), -1⟩ w = numB ((l.drop a).take w) ∧ rN l ⟨(a : Int), -1⟩ w = ⟨((a + w : Nat) : Int), -1⟩ := by
  have ht : rT l ⟨(a : Int), -1⟩ w = true := by
    unfold rT; rw [decide_eq_true_eq]
    refine ⟨rfl, ?_⟩
    show (w : Int) ≤ (l.length : Int) - (a : Int)
    omega
  unfold rW rN
  rw [if_pos ht, if_pos ht]
  exact ⟨rfl, by simp⟩

end Go.VL

namespace Go.VL

open Go.Proofs

def readK (l : List UInt8) : Mk := ⟨rW l r0 8, IntKind.i64.wrap (rW l (rm1 l) 8 : Nat), rW l (rm2 l) 8⟩

theorem rk_end {l : List UInt8} : (24 ≤ l.length → rm3 l = ⟨24, -1⟩) ∧ (l.length < 24 → 0 ≤ (rm3 l).bad) := by
  constructor
  · intro h
    have a1 : rm1 l = ⟨8, -1⟩ := (rN_go r0 8).1 rfl (by simp [r0]; omega)
    have a2 : rm2 l = ⟨16, -1⟩ := by unfold rm2; rw [a1]; exact (rN_go _ 8).1 rfl (by simp; omega)
    unfold rm3; rw [a2]; exact (rN_go _ 8).1 rfl (by simp; omega)
  · intro h
    have a1 := (rN_st (l := l) r0 8 0 (.inr rfl) (by omega)).1
    have a2 := (rN_st (l := l) _ 8 _ a1 (by omega)).1
    exact (rN_st (l := l) _ 8 _ a2 (by omega)).2 (by omega)

/-- the marker of bytes, and an error's number -/
def markGF (x : List UInt8) : Mk × Int :=
  if (openB x).1 ≠ 0 then (mkZ, (openB x).1) else if (openB x).2.length = 24 ∧ fairM (readK (openB x).2) then (readK (openB x).2, 0) else (mkZ, 2)

theorem markGF_is (x : List UInt8) : markGF x = markerF x := by
  unfold markGF markerF
  split
  · rfl
  · generalize (openB x).2 = l
    unfold stoodF
    by_cases h : l.length = 24
    · have r1 := rW_at (l := l) (a := 0) (w := 8) (by omega)
      have r2 := rW_at (l := l) (a := 8) (w := 8) (by omega)
      have r3 := rW_at (l := l) (a := 16) (w := 8) (by omega)
      have e1 : rm1 l = ⟨((8 : Nat) : Int), -1⟩ := r1.2
      have e2 : rm2 l = ⟨((16 : Nat) : Int), -1⟩ := by unfold rm2; rw [e1]; exact r2.2
      have x1 : rW l r0 8 = numB (l.take 8) := r1.1
      have hk : readK l = ⟨numB (l.take 8), IntKind.i64.wrap (numB ((l.drop 8).take 8) : Int), numB ((l.drop 16).take 8)⟩ := by
        unfold readK; rw [e1, e2, x1, r2.1, r3.1]
      rw [if_pos h, ← hk]
      by_cases hf : fairM (readK l)
      · rw [if_pos ⟨h, hf⟩, if_pos (decide_eq_true hf)]
      · rw [if_neg (fun q => hf q.2), if_neg (by simp only [decide_eq_true_eq]; exact hf)]
    · rw [if_neg (fun q => h q.1), if_neg h]; rfl

set_option maxRecDepth 10000 in
set_option maxHeartbeats 1000000 in
theorem mMarked1_ok {l : List UInt8} {p q : Nat} {σ : St} (hl : l.length ≤ 1099511627776) (hne : p ≠ q) (hp : σ.res p = some (rdS l .none r0)) (hq : σ.res q = some (.obj (mkC mkZ))) :
    ACalls Tryz.prog n_mMarked1 [.ptr p 0, .ptr q 0] σ (fun v σ' => v = .bool (decide (fairM (readK l))) ∧ Two σ σ' p q ∧ σ'.res p = some (rdS l .none (rm3 l)) ∧ σ'.res q = some (.obj (mkC (readK l)))) := by
  refine s_mMarked1 (fun wf => ?_)
  unfold c_mMarked1
  have o0 := Rs.ok_r0 hl
  have o1 : (rm1 l).ok l := rN_ok o0
  have o2 : (rm2 l).ok l := rN_ok o1
  have ho : ∀ (t : St) (r : Res), (t.set p r).res q = t.res q := fun t r => St.set_other _ _ (Ne.symm hne)
  generalize hσ : σ = t at hp hq
  have hT0 : Two σ t p q := by rw [hσ]; exact Two.refl _ _ _
  have e1 : rN l r0 8 = rm1 l := rfl
  have e2 : rN l (rm1 l) 8 = rm2 l := rfl
  have e3 : rN l (rm2 l) 8 = rm3 l := rfl
  have hz : mkC mkZ = [.int .u64 0, .int .i64 0, .int .u64 0] := rfl
  rw [hz] at hq
  have hrM : readK l = ⟨rW l r0 8, IntKind.i64.wrap (rW l (rm1 l) 8 : Nat), rW l (rm2 l) 8⟩ := rfl
  refine T.seq_k (fun K_h0 h0 => ?_)
  refine T.regi hm ?_
  simp only [↓reduceIte, namesOf, List.any, I.names, aopsI, astep, ev, setd, List.set, List.cons_append, List.nil_append, List.length_cons, List.length_nil, List.replicate, then_normal, Bool.or_false, Bool.false_eq_true, up_zero, Nat.reduceAdd, Nat.reduceSub]
  refine h0 _ _ ?_
  try clear h0 K_h0
  refine T.seq_k (fun K_h1 h1 => ?_)
  refine T.regi hm ?_
  simp only [↓reduceIte, namesOf, List.any, I.names, aopsI, astep, ev, setd, List.set, List.getD, List.getElem?_cons_zero, List.getElem?_cons_succ, then_normal, Option.getD_some, Bool.or_false, Bool.false_eq_true, up_zero, Nat.reduceAdd, AV.cells, List.map_cons, List.map_nil]
  refine (wwordF (w := 8) o0 rfl hp).mono ?_
  rintro v σ1 ⟨rfl, rfl⟩
  rw [e1]
  try simp only [↓reduceIte, List.cons_append, List.nil_append, List.length_cons, List.length_nil, Nat.reduceAdd, AV.isAny, AV.cells, eq_self, decide_true, ho, hq, AV.fits, AV.one, List.all_cons, List.all_nil, Nat.reduceBEq, Bool.not_false, Bool.and_self, Nat.zero_add, splice, List.take, List.drop, Nat.reduceLeDiff]
  generalize rW l r0 8 = x1 at hrM ⊢
  obtain ⟨T1, hp1, hq1⟩ := hT0.step hne (rdS l .none (rm1 l)) (.obj [.int .u64 (x1 : Int), .int .i64 0, .int .u64 0])
  generalize ((t.set p (rdS l .none (rm1 l))).set q (.obj [.int .u64 (x1 : Int), .int .i64 0, .int .u64 0])) = t1 at T1 hp1 hq1 ⊢
  clear hp hq hT0
  refine h1 _ _ ?_
  try clear h1 K_h1
  refine T.seq_k (fun K_h1 h1 => ?_)
  refine T.regi hm ?_
  simp only [↓reduceIte, namesOf, List.any, I.names, aopsI, astep, ev, setd, List.set, List.getD, List.getElem?_cons_zero, List.getElem?_cons_succ, then_normal, Option.getD_some, Bool.or_false, Bool.false_eq_true, up_zero, Nat.reduceAdd, AV.cells, List.map_cons, List.map_nil]
  refine (wwordF (w := 8) o1 rfl hp1).mono ?_
  rintro v σ1 ⟨rfl, rfl⟩
  rw [e2]
  generalize hy : IntKind.i64.wrap (rW l (rm1 l) 8 : Nat) = x2 at hrM
  try simp only [↓reduceIte, List.cons_append, List.nil_append, List.length_cons, List.length_nil, Nat.reduceAdd, AV.isAny, AV.cells, eq_self, decide_true, ho, hq1, hy, AV.fits, AV.one, List.all_cons, List.all_nil, Nat.reduceBEq, Bool.not_false, Bool.and_self, Nat.zero_add, splice, List.take, List.drop, Nat.reduceLeDiff]
  clear hy
  obtain ⟨T2, hp2, hq2⟩ := T1.step hne (rdS l .none (rm2 l)) (.obj [.int .u64 (x1 : Int), .int .i64 x2, .int .u64 0])
  generalize ((t1.set p (rdS l .none (rm2 l))).set q (.obj [.int .u64 (x1 : Int), .int .i64 x2, .int .u64 0])) = t2 at T2 hp2 hq2 ⊢
  clear T1 hp1 hq1
  refine h1 _ _ ?_
  try clear h1 K_h1
  refine T.seq_k (fun K_h1 h1 => ?_)
  refine T.regi hm ?_
  simp only [↓reduceIte, namesOf, List.any, I.names, aopsI, astep, ev, setd, List.set, List.getD, List.getElem?_cons_zero, List.getElem?_cons_succ, then_normal, Option.getD_some, Bool.or_false, Bool.false_eq_true, up_zero, Nat.reduceAdd, AV.cells, List.map_cons, List.map_nil]
  refine (wwordF (w := 8) o2 rfl hp2).mono ?_
  rintro v σ1 ⟨rfl, rfl⟩
  rw [e3]
  generalize rW l (rm2 l) 8 = x3 at hrM ⊢
  try simp only [↓reduceIte, List.cons_append, List.nil_append, List.length_cons, List.length_nil, Nat.reduceAdd, AV.isAny, AV.cells, eq_self, decide_true, ho, hq2, AV.fits, AV.one, List.all_cons, List.all_nil, Nat.reduceBEq, Bool.not_false, Bool.and_self, Nat.zero_add, splice, List.take, List.drop, Nat.reduceLeDiff]
  obtain ⟨T6, hp6, hq6⟩ := T2.step hne (rdS l .none (rm3 l)) (.obj (mkC ⟨x1, x2, x3⟩))
  have hs : ((t2.set p (rdS l .none (rm3 l))).set q (.obj [.int .u64 (x1 : Int), .int .i64 x2, .int .u64 (x3 : Int)])) = ((t2.set p (rdS l .none (rm3 l))).set q (.obj (mkC ⟨x1, x2, x3⟩))) := rfl
  rw [hs]
  rw [← hrM] at T6 hp6 hq6 ⊢
  generalize ((t2.set p (rdS l .none (rm3 l))).set q (.obj (mkC (readK l)))) = t6 at T6 hp6 hq6 ⊢
  clear T2 hp2 hq2
  refine h1 _ _ ?_
  try clear h1 K_h1
  refine T.seq_k (fun K_h1 h1 => ?_)
  refine T.regi hm ?_
  simp only [↓reduceIte, namesOf, List.any, I.names, aopsI, astep, ev, setd, List.set, List.getD, List.getElem?_cons_zero, List.getElem?_cons_succ, List.length_cons, List.length_nil, then_normal, Option.getD_some, Bool.or_false, Bool.false_eq_true, up_zero, Nat.reduceAdd, ↓opt_def, ldc, List.map_cons, List.map_nil, hq6, Nat.zero_add, List.take, List.drop, Nat.reduceLeDiff]
  refine (mFair_ok (k := readK l)).mono ?_
  rintro v t6 ⟨rfl, rfl⟩
  try simp only [↓reduceIte, namesOf, List.any, I.names, aops, aopsI, aopsT, qstep, CPt, qget, Tbl.get, astep, ev, setd, List.set, List.getD, List.getElem?_cons_zero, List.getElem?_cons_succ, List.getElem?_nil, List.cons_append, List.nil_append, List.length_cons, List.length_nil, List.replicate, then_normal, inBlock_normal, Option.getD_some, Option.getD_none, Bool.or_false, Bool.or_true, Bool.true_or, Bool.false_or, Bool.false_eq_true, if_false, if_true, up_zero, Nat.reduceAdd, Nat.reduceSub, binv, ↓opt_def, AV.isAny, AV.cells, ldc, List.map_cons, List.map_nil, St.set_next, St.set_same, St.up_next, Int.natCast_nonneg, lt_len, le_len, Int.toNat_natCast, true_and, and_true, eq_self, reduceCtorEq, decide_true, List.length_singleton, er_int, er_bool, er_str, srcR, up_zero]
  refine h1 _ _ ?_
  try clear h1 K_h1
  subst hσ
  exact T.ret (Fin.ret rfl ⟨rfl, T6, hp6, hq6⟩)

set_option maxRecDepth 10000 in
theorem mOpenK_ok {x : List UInt8} {g : Ver} {q : Nat} {σ : St} (hx : x.length ≤ 1099511627776) (hq : σ.res q = some (.obj (mkC mkZ))) :
    ACalls Tryz.prog n_mOpen [.sl (bytesAV x) g, .func n_mMarked1 [] [.ptr q 0]] σ (fun v σ' => v = errAV (markGF x).2 ∧ ∃ m, σ' = σ.set q (.obj (mkC m)) ∧ ((markGF x).2 = 0 → m = (markGF x).1)) := by
  refine s_mOpen (fun wf => ?_)
  unfold c_mOpen
  have hql : q < σ.next := wf.lt hq
  have en : eqIv true [(tCode, .i64)] .nili .nili = some true := rfl
  refine T.seq_k (fun K_h0 h0 => ?_)
  refine T.regi hm ?_
  simp only [↓reduceIte, namesOf, List.any, I.names, aopsI, astep, ev, setd, List.set, List.cons_append, List.nil_append, List.length_cons, List.length_nil, List.replicate, then_normal, Bool.or_false, Bool.false_eq_true, up_zero, Nat.reduceAdd, Nat.reduceSub]
  refine h0 _ _ ?_
  try clear h0 K_h0
  refine T.seq_k (fun K_h1 h1 => ?_)
  refine T.regi hm ?_
  simp only [↓reduceIte, namesOf, List.any, I.names, aopsI, astep, ev, setd, List.set, List.getD, List.getElem?_cons_zero, List.getElem?_cons_succ, then_normal, Option.getD_some, Bool.or_false, Bool.false_eq_true, up_zero, ↓opt_def, List.map_cons, List.map_nil]
  refine (copen_ok hx).mono ?_
  rintro v σ ⟨rfl, rfl⟩
  try simp only [List.getElem?_cons_zero, List.getElem?_cons_succ]
  refine h1 _ _ ?_
  try clear h1 K_h1
  refine T.seq_k (fun K_h1 h1 => ?_)
  by_cases ho : (openB x).1 = 0
  case neg =>
    have eo : errAV (openB x).1 = .iface tCode (.int .i64 (openB x).1) := if_neg ho
    have en2 : eqIv true [(tCode, .i64)] (.iface tCode (.int .i64 (openB x).1)) .nili = some false := rfl
    have hm2 : (markGF x).2 = (openB x).1 := by unfold markGF; rw [if_pos ho]
    rw [eo]
    refine T.seq_k (fun K_h0 h0 => ?_)
    refine T.regi hm ?_
    simp only [↓reduceIte, namesOf, List.any, I.names, aopsI, astep, ev, setd, List.set, List.getD, List.getElem?_cons_zero, List.getElem?_cons_succ, then_normal, Option.getD_some, Bool.or_false, Bool.false_eq_true, up_zero, en2, Bool.false_bne]
    refine h0 _ _ ?_
    try clear h0 K_h0
    refine T.cond rfl (fun _ => ?_) (fun h => by cases h)
    refine T.seq_k (fun K_h0 h0 => ?_)
    refine T.regi hm ?_
    simp only [↓reduceIte, namesOf, List.any, I.names, aopsI, astep, ev, setd, List.set, List.getD, List.getElem?_cons_zero, List.getElem?_cons_succ, then_normal, Option.getD_some, Bool.or_false, Bool.false_eq_true, up_zero]
    refine h0 _ _ ?_
    try clear h0 K_h0
    refine T.ret (Fin.quiet rfl trivial (fun _ _ h => h) ⟨by rw [hm2, eo]; rfl, mkZ, (St.set_self hq).symm, fun h => absurd (hm2.symm.trans h) ho⟩)
  have eo : errAV (openB x).1 = .nili := if_pos ho
  rw [eo]
  refine T.seq_k (fun K_h0 h0 => ?_)
  refine T.regi hm ?_
  simp only [↓reduceIte, namesOf, List.any, I.names, aopsI, astep, ev, setd, List.set, List.getD, List.getElem?_cons_zero, List.getElem?_cons_succ, then_normal, Option.getD_some, Bool.or_false, Bool.false_eq_true, up_zero, en, bne_self_eq_false]
  refine h0 _ _ ?_
  try clear h0 K_h0
  refine T.cond rfl (fun h => by cases h) (fun _ => T.skip ?_)
  refine h1 _ _ ?_
  try clear h1 K_h1
  have hlen := openB_le x
  have hGF : markGF x = if (openB x).2.length = 24 ∧ fairM (readK (openB x).2) then (readK (openB x).2, 0) else (mkZ, 2) := by
    unfold markGF; rw [if_neg (fun h => h ho)]
  generalize (openB x).2 = l at hlen hGF ⊢
  have hll : l.length ≤ 1099511627776 := by omega
  refine T.seq_k (fun K_h1 h1 => ?_)
  refine T.regi hm ?_
  simp only [↓reduceIte, namesOf, List.any, I.names, aopsI, astep, ev, setd, List.set, List.getD, List.getElem?_cons_zero, List.getElem?_cons_succ, then_normal, Option.getD_some, Bool.or_false, Bool.false_eq_true, up_zero, List.map_cons, List.map_nil]
  refine (wreadF (l := l)).mono ?_
  rintro v t ⟨p, rfl, hp, hlo, hhi, hsame⟩
  try simp only [↓reduceIte, namesOf, List.any, I.names, aops, aopsI, aopsT, qstep, CPt, qget, Tbl.get, astep, ev, setd, List.set, List.getD, List.getElem?_cons_zero, List.getElem?_cons_succ, List.getElem?_nil, List.cons_append, List.nil_append, List.length_cons, List.length_nil, List.replicate, then_normal, inBlock_normal, Option.getD_some, Option.getD_none, Bool.or_false, Bool.or_true, Bool.true_or, Bool.false_or, Bool.false_eq_true, if_false, if_true, up_zero, Nat.reduceAdd, Nat.reduceSub, binv, ↓opt_def, AV.isAny, AV.cells, ldc, List.map_cons, List.map_nil, St.set_next, St.set_same, St.up_next, Int.natCast_nonneg, lt_len, le_len, Int.toNat_natCast, true_and, and_true, eq_self, reduceCtorEq, decide_true, List.length_singleton, er_int, er_bool, er_str, srcR, up_zero]
  refine h1 _ _ ?_
  try clear h1 K_h1
  have hne : p ≠ q := by omega
  have hqt : t.res q = some (.obj (mkC mkZ)) := by rw [hsame q hql]; exact hq
  refine T.seq_k (fun K_h1 h1 => ?_)
  refine T.seq_k (fun K_h2 h2 => ?_)
  refine T.regi hm ?_
  simp only [↓reduceIte, namesOf, List.any, I.names, aopsI, astep, ev, setd, List.set, List.getD, List.getElem?_cons_zero, List.getElem?_cons_succ, List.cons_append, List.nil_append, then_normal, Option.getD_some, Bool.or_false, Bool.false_eq_true, up_zero, List.map_cons, List.map_nil]
  refine (mMarked1_ok hll hne hp hqt).mono ?_
  rintro v u ⟨rfl, T2, hpu, hqu⟩
  try simp only [↓reduceIte, namesOf, List.any, I.names, aops, aopsI, aopsT, qstep, CPt, qget, Tbl.get, astep, ev, setd, List.set, List.getD, List.getElem?_cons_zero, List.getElem?_cons_succ, List.getElem?_nil, List.cons_append, List.nil_append, List.length_cons, List.length_nil, List.replicate, then_normal, inBlock_normal, Option.getD_some, Option.getD_none, Bool.or_false, Bool.or_true, Bool.true_or, Bool.false_or, Bool.false_eq_true, if_false, if_true, up_zero, Nat.reduceAdd, Nat.reduceSub, binv, ↓opt_def, AV.isAny, AV.cells, ldc, List.map_cons, List.map_nil, St.set_next, St.set_same, St.up_next, Int.natCast_nonneg, lt_len, le_len, Int.toNat_natCast, true_and, and_true, eq_self, reduceCtorEq, decide_true, List.length_singleton, er_int, er_bool, er_str, srcR, up_zero]
  refine h2 _ _ ?_
  try clear h2 K_h2
  obtain ⟨re1, re2⟩ := rk_end (l := l)
  have okr : (rm3 l).ok l := rN_ok (rN_ok (rN_ok (Rs.ok_r0 hll)))
  have hL : Like (σ.set q (.obj (mkC (readK l)))) u := ⟨by rw [T2.next]; simp; omega, fun n hn => by
    simp at hn
    by_cases e : n = q
    · subst e; rw [hqu, St.set_same]
    · rw [T2.same n (by omega) e, St.set_other _ _ e]; exact hsame n hn⟩
  have fin : ∀ (ρ' : List AV) (e : AV), rvals ρ' u [.t 4] = some [e] → e = errAV (markGF x).2 → ((markGF x).2 = 0 → readK l = (markGF x).1) → e.nb σ.next → Fin σ [.t 4] (fun v σ' => v = errAV (markGF x).2 ∧ ∃ m, σ' = σ.set q (.obj (mkC m)) ∧ ((markGF x).2 = 0 → m = (markGF x).1)) .ret ρ' u := fun ρ' e h1 h2 h3 h4 =>
    Fin.likeset wf h1 (.refl _) hL hq h4 ⟨trivial, trivial, trivial, trivial⟩ ⟨h2, _, rfl, h3⟩
  have hbad : ∀ ρ', (¬ (l.length = 24 ∧ fairM (readK l))) → rvals ρ' u [.t 4] = some [.iface tCode (.int .i64 2)] → Fin σ [.t 4] (fun v σ' => v = errAV (markGF x).2 ∧ ∃ m, σ' = σ.set q (.obj (mkC m)) ∧ ((markGF x).2 = 0 → m = (markGF x).1)) .ret ρ' u := fun ρ' hno hr =>
    fin ρ' _ hr (by rw [hGF, if_neg hno]; rfl) (fun h => by rw [hGF, if_neg hno] at h; cases h) trivial
  have hru : ∀ k, (u.up k).res p = some (rd l .none (rm3 l).at_ (rm3 l).bad) := fun _ => hpu
  have hb1 := wbad_ok (σ := u) hpu
  by_cases hmm : fairM (readK l)
  case neg =>
    have f1 : decide (fairM (readK l)) = false := decide_eq_false hmm
    refine T.seq_k (fun K_h0 h0 => ?_)
    refine T.regi hm ?_
    simp only [↓reduceIte, namesOf, List.any, I.names, aopsI, astep, ev, setd, List.set, List.getD, List.getElem?_cons_zero, List.getElem?_cons_succ, then_normal, Option.getD_some, Bool.or_false, Bool.false_eq_true, up_zero, eq_self, reduceCtorEq, f1, Bool.not_false]
    refine h0 _ _ ?_
    try clear h0 K_h0
    refine T.cond rfl (fun _ => ?_) (fun h => by cases h)
    refine T.seq_k (fun K_h0 h0 => ?_)
    refine T.regi hm ?_
    simp only [↓reduceIte, namesOf, List.any, I.names, aopsI, astep, ev, setd, List.set, List.getD, List.getElem?_cons_zero, List.getElem?_cons_succ, then_normal, Option.getD_some, Bool.or_false, Bool.false_eq_true, up_zero]
    refine h0 _ _ ?_
    try clear h0 K_h0
    exact T.ret (hbad _ (fun h => hmm h.2) rfl)
  have f1 : decide (fairM (readK l)) = true := decide_eq_true hmm
  by_cases h24 : 24 ≤ l.length
  case neg =>
    have hb0 := re2 (by omega)
    have f2 : decide ((rm3 l).bad ≥ 0) = true := decide_eq_true hb0
    refine T.seq_k (fun K_h2 h2 => ?_)
    refine T.regi hm ?_
    simp only [↓reduceIte, namesOf, List.any, I.names, aopsI, astep, ev, setd, List.set, List.getD, List.getElem?_cons_zero, List.getElem?_cons_succ, then_normal, Option.getD_some, Bool.or_false, Bool.false_eq_true, up_zero, binv, ↓opt_def, List.map_cons, List.map_nil, eq_self, f1, Bool.not_true]
    refine hb1.mono ?_
    rintro v u ⟨rfl, rfl⟩
    try simp only [↓reduceIte, eq_self, reduceCtorEq, f2]
    refine h2 _ _ ?_
    try clear h2 K_h2
    refine T.cond rfl (fun _ => ?_) (fun h => by cases h)
    refine T.seq_k (fun K_h0 h0 => ?_)
    refine T.regi hm ?_
    simp only [↓reduceIte, namesOf, List.any, I.names, aopsI, astep, ev, setd, List.set, List.getD, List.getElem?_cons_zero, List.getElem?_cons_succ, then_normal, Option.getD_some, Bool.or_false, Bool.false_eq_true, up_zero]
    refine h0 _ _ ?_
    try clear h0 K_h0
    exact T.ret (hbad _ (fun h => by omega) rfl)
  have hend := re1 h24
  obtain ⟨⟨_, k2, k3⟩, _⟩ := okr
  have hl1 := wleft_ok (σ := u) hll k2 k3 hpu
  rw [hend] at hb1 hl1
  have f2 : decide ((-1 : Int) ≥ 0) = false := rfl
  by_cases he : l.length = 24
  · have f3 : decide ((l.length : Int) - 24 > 0) = false := decide_eq_false (by omega)
    refine T.seq_k (fun K_h2 h2 => ?_)
    refine T.regi hm ?_
    simp only [↓reduceIte, namesOf, List.any, I.names, aopsI, astep, ev, setd, List.set, List.getD, List.getElem?_cons_zero, List.getElem?_cons_succ, then_normal, Option.getD_some, Bool.or_false, Bool.false_eq_true, up_zero, binv, ↓opt_def, List.map_cons, List.map_nil, eq_self, f1, Bool.not_true]
    refine hb1.mono ?_
    rintro v u ⟨rfl, rfl⟩
    try simp only [↓reduceIte, Bool.false_eq_true, eq_self, f2]
    refine hl1.mono ?_
    rintro v u ⟨rfl, rfl⟩
    try simp only [↓reduceIte, eq_self, f3]
    refine h2 _ _ ?_
    try clear h2 K_h2
    refine T.cond rfl (fun h => by cases h) (fun _ => T.skip ?_)
    refine h1 _ _ ?_
    try clear h1 K_h1
    refine T.seq_k (fun K_h0 h0 => ?_)
    refine T.regi hm ?_
    simp only [↓reduceIte, namesOf, List.any, I.names, aopsI, astep, ev, setd, List.set, then_normal, Bool.or_false, Bool.false_eq_true, up_zero]
    refine h0 _ _ ?_
    try clear h0 K_h0
    exact T.ret (fin _ _ rfl (by rw [hGF, if_pos ⟨he, hmm⟩]; rfl) (fun _ => by rw [hGF, if_pos ⟨he, hmm⟩]) trivial)
  · have f3 : decide ((l.length : Int) - 24 > 0) = true := decide_eq_true (by omega)
    refine T.seq_k (fun K_h2 h2 => ?_)
    refine T.regi hm ?_
    simp only [↓reduceIte, namesOf, List.any, I.names, aopsI, astep, ev, setd, List.set, List.getD, List.getElem?_cons_zero, List.getElem?_cons_succ, then_normal, Option.getD_some, Bool.or_false, Bool.false_eq_true, up_zero, binv, ↓opt_def, List.map_cons, List.map_nil, eq_self, f1, Bool.not_true]
    refine hb1.mono ?_
    rintro v u ⟨rfl, rfl⟩
    try simp only [↓reduceIte, Bool.false_eq_true, eq_self, f2]
    refine hl1.mono ?_
    rintro v u ⟨rfl, rfl⟩
    try simp only [↓reduceIte, eq_self, f3]
    refine h2 _ _ ?_
    try clear h2 K_h2
    refine T.cond rfl (fun _ => ?_) (fun h => by cases h)
    refine T.seq_k (fun K_h0 h0 => ?_)
    refine T.regi hm ?_
    simp only [↓reduceIte, namesOf, List.any, I.names, aopsI, astep, ev, setd, List.set, List.getD, List.getElem?_cons_zero, List.getElem?_cons_succ, then_normal, Option.getD_some, Bool.or_false, Bool.false_eq_true, up_zero]
    refine h0 _ _ ?_
    try clear h0 K_h0
    exact T.ret (hbad _ (fun h => he h.1) rfl)

set_option maxRecDepth 10000 in
theorem mMarked_ok {x : List UInt8} {g : Ver} {σ : St} (hx : x.length ≤ 1099511627776) : ACalls Tryz.prog n_mMarked [.sl (bytesAV x) g] σ
    (fun v σ' => v = .tup [.agg (mkC (markGF x).1), errAV (markGF x).2] ∧ σ' = σ) := by
  refine s_mMarked (fun wf => ?_)
  unfold c_mMarked
  have hz : [AV.int .u64 0, .int .i64 0, .int .u64 0] = mkC mkZ := rfl
  have en : eqIv true [(tCode, .i64)] .nili .nili = some true := rfl
  refine T.seq_k (fun K_h0 h0 => ?_)
  refine T.regi hm ?_
  simp only [↓reduceIte, namesOf, List.any, I.names, aopsI, astep, ev, setd, List.set, List.cons_append, List.nil_append, List.length_cons, List.length_nil, List.replicate, then_normal, Bool.or_false, Nat.reduceAdd, Nat.reduceSub, eq_self]
  refine h0 _ _ ?_
  try clear h0 K_h0
  rw [hz]
  have hq : ((σ.up 2).set (σ.next + 0) (.obj (mkC mkZ))).res (σ.next + 0) = some (.obj (mkC mkZ)) := St.set_same _ _ _
  have hL : Like σ ((σ.up 2).set (σ.next + 0) (.obj (mkC mkZ))) := (Like.refl σ).box (n := 2) (i := 0) _
  have hlo : σ.next ≤ σ.next + 0 := by omega
  have hlt : σ.next + 0 < ((σ.up 2).set (σ.next + 0) (.obj (mkC mkZ))).next := by simp
  generalize ((σ.up 2).set (σ.next + 0) (.obj (mkC mkZ))) = t at hq hL hlt ⊢
  generalize σ.next + 0 = q at hq hlo hlt ⊢
  refine T.seq_k (fun K_h0 h0 => ?_)
  refine T.regi hm ?_
  simp only [↓reduceIte, namesOf, List.any, I.names, aopsI, astep, setd, List.set, List.length_cons, List.length_nil, then_normal, Bool.or_false, Nat.reduceAdd, eq_self]
  refine h0 _ _ ?_
  try clear h0 K_h0
  try rw [hz]
  have hb : ((t.up 1).set (t.next + 0) (.obj (mkC mkZ))).res (t.next + 0) = some (.obj (mkC mkZ)) := St.set_same _ _ _
  have hq1 : ((t.up 1).set (t.next + 0) (.obj (mkC mkZ))).res q = some (.obj (mkC mkZ)) := by rw [St.set_other _ _ (by omega)]; exact hq
  have hL1 : Like σ ((t.up 1).set (t.next + 0) (.obj (mkC mkZ))) := hL.box (n := 1) (i := 0) _
  have hlb : σ.next ≤ t.next + 0 := by have := hL.next; omega
  have hqb : q ≠ t.next + 0 := by omega
  generalize ((t.up 1).set (t.next + 0) (.obj (mkC mkZ))) = u at hb hq1 hL1 ⊢
  generalize t.next + 0 = b at hb hlb hqb ⊢
  refine T.seq_k (fun K_h1 h1 => ?_)
  refine T.regi hm ?_
  simp only [↓reduceIte, namesOf, List.any, I.names, aopsI, astep, ev, setd, List.set, List.getD, List.getElem?_cons_zero, List.getElem?_cons_succ, then_normal, Option.getD_some, Bool.or_false, Bool.false_eq_true, up_zero, List.map_cons, List.map_nil]
  refine (mOpenK_ok (g := g) hx hb).mono ?_
  rintro v w ⟨rfl, m, rfl, hmg⟩
  try simp only [↓reduceIte, namesOf, List.any, I.names, aops, aopsI, aopsT, qstep, CPt, qget, Tbl.get, astep, ev, setd, List.set, List.getD, List.getElem?_cons_zero, List.getElem?_cons_succ, List.getElem?_nil, List.cons_append, List.nil_append, List.length_cons, List.length_nil, List.replicate, then_normal, inBlock_normal, Option.getD_some, Option.getD_none, Bool.or_false, Bool.or_true, Bool.true_or, Bool.false_or, Bool.false_eq_true, if_false, if_true, up_zero, Nat.reduceAdd, Nat.reduceSub, binv, ↓opt_def, AV.isAny, AV.cells, ldc, List.map_cons, List.map_nil, St.set_next, St.set_same, St.up_next, Int.natCast_nonneg, lt_len, le_len, Int.toNat_natCast, true_and, and_true, eq_self, reduceCtorEq, decide_true, List.length_singleton, er_int, er_bool, er_str, srcR, up_zero]
  refine h1 _ _ ?_
  try clear h1 K_h1
  have hq2 : (u.set b (.obj (mkC m))).res q = some (.obj (mkC mkZ)) := by rw [St.set_other _ _ hqb]; exact hq1
  have hb2 : (u.set b (.obj (mkC m))).res b = some (.obj (mkC m)) := St.set_same _ _ _
  have hL2 : Like σ (u.set b (.obj (mkC m))) := hL1.set _ hlb
  generalize (u.set b (.obj (mkC m))) = u2 at hq2 hb2 hL2 ⊢
  have fin : ∀ (ρ' : List AV) (s : St) (m' : Mk) (e : AV), Like σ s → s.res q = some (.obj (mkC m')) → ρ'.getD 2 .any = .ptr q 0 → ρ'.getD 3 .any = e → e.nb σ.next → m' = (markGF x).1 → e = errAV (markGF x).2 → Fin σ [.cell 2 (some 3), .t 3] (fun v σ' => v = .tup [.agg (mkC (markGF x).1), errAV (markGF x).2] ∧ σ' = σ) .ret ρ' s := by
    intro ρ' s m' e hLs hs h2 h3 hn hm' he
    subst hm' he
    have hv : rvals ρ' s [.cell 2 (some 3), .t 3] = some [.agg (mkC (markGF x).1), errAV (markGF x).2] := by
      simp only [rvals, rval, h2, h3, hs]
      rfl
    exact Fin.quiet hv ⟨⟨trivial, trivial, trivial, trivial⟩, hn, trivial⟩ (hLs.quiet wf) ⟨rfl, rfl⟩
  refine T.seq_k (fun K_h1 h1 => ?_)
  by_cases h0 : (markGF x).2 = 0
  · have e0 : errAV (markGF x).2 = .nili := if_pos h0
    refine T.seq_k (fun K_h0 h0 => ?_)
    refine T.regi hm ?_
    simp only [↓reduceIte, namesOf, List.any, I.names, aopsI, astep, ev, setd, List.set, List.getD, List.getElem?_cons_zero, List.getElem?_cons_succ, then_normal, Option.getD_some, Bool.or_false, Bool.false_eq_true, up_zero, e0, en, bne_self_eq_false]
    refine h0 _ _ ?_
    try clear h0 K_h0
    refine T.cond rfl (fun h => by cases h) (fun _ => T.skip ?_)
    refine h1 _ _ ?_
    try clear h1 K_h1
    refine T.seq_k (fun K_h0 h0 => ?_)
    refine T.regi hm ?_
    simp only [↓reduceIte, namesOf, List.any, I.names, aopsI, astep, ev, setd, List.set, List.getD, List.getElem?_cons_zero, List.getElem?_cons_succ, List.cons_append, List.nil_append, List.length_cons, List.length_nil, then_normal, Option.getD_some, Bool.or_false, Bool.false_eq_true, up_zero, Nat.reduceAdd, ↓opt_def, AV.isAny, AV.cells, ldc, eq_self, decide_true, hb2, hq2, AV.fits, AV.one, List.all_cons, List.all_nil, Nat.reduceBEq, Bool.not_false, Bool.and_self, Nat.zero_add, splice, List.take, List.drop, Nat.reduceLeDiff]
    refine h0 _ _ ?_
    try clear h0 K_h0
    have hm1 := hmg h0
    exact T.ret (fin _ _ m .nili (hL2.set _ hlo) (St.set_same _ _ _) rfl rfl trivial hm1 e0.symm)
  · have e0 : errAV (markGF x).2 = .iface tCode (.int .i64 (markGF x).2) := if_neg h0
    have en2 : eqIv true [(tCode, .i64)] (.iface tCode (.int .i64 (markGF x).2)) .nili = some false := rfl
    have hm1 : (markGF x).1 = mkZ := by
      unfold markGF at h0 ⊢
      split
      · rfl
      · rename_i ho
        rw [if_neg ho] at h0
        split
        · rename_i hh; rw [if_pos hh] at h0; exact absurd rfl h0
        · rfl
    refine T.seq_k (fun K_h0 h0 => ?_)
    refine T.regi hm ?_
    simp only [↓reduceIte, namesOf, List.any, I.names, aopsI, astep, ev, setd, List.set, List.getD, List.getElem?_cons_zero, List.getElem?_cons_succ, then_normal, Option.getD_some, Bool.or_false, Bool.false_eq_true, up_zero, e0, en2, Bool.false_bne]
    refine h0 _ _ ?_
    try clear h0 K_h0
    refine T.cond rfl (fun _ => ?_) (fun h => by cases h)
    refine T.seq_k (fun K_h0 h0 => ?_)
    refine T.regi hm ?_
    simp only [↓reduceIte, namesOf, List.any, I.names, aopsI, astep, ev, setd, List.set, List.getD, List.getElem?_cons_zero, List.getElem?_cons_succ, List.cons_append, List.nil_append, List.length_cons, List.length_nil, then_normal, Option.getD_some, Bool.or_false, Bool.false_eq_true, up_zero, Nat.reduceAdd, ↓opt_def, AV.isAny, AV.cells, eq_self, decide_true, e0, hq2, fillA, ↓Option.map_some, AV.fits, AV.one, List.all_cons, List.all_nil, Nat.reduceBEq, Bool.not_false, Bool.and_self, Nat.zero_add, splice, List.take, List.drop, Nat.reduceLeDiff]
    refine h0 _ _ ?_
    try clear h0 K_h0
    exact T.ret (fin _ _ mkZ (.iface tCode (.int .i64 (markGF x).2)) (hL2.set _ hlo) (St.set_same _ _ _) rfl rfl trivial hm1.symm e0.symm)

end Go.VL

namespace Go.VL

open Go.Proofs

def toldM (b : List UInt8) : Mt × Bool := if b.length = 31 then (readM b, decide (mayM (readM b))) else (mZ, false)

theorem told_reg {Q : Ex → List AV → St → Prop} {σ : St} {z1 z2 z3 z4 z5 z6 : Int} {q0 q1 q2 q3 q4 q11 q12 q13 q14 q15 q16 q17 q18 q19 q20 q21 q22 q23 q24 q25 q26 q27 q28 q29 q30 q31 q32 q33 q34 q35 q36 q37 q38 q39 q40 q41 q42 q43 q44 q45 q46 q47 : AV}
    (h : Q .normal [q0, q1, q2, q3, q4, .int .u64 z1, .int .u64 z2, .int .u64 z3, .int .u64 z4, .int .u64 z5, .int .u64 z6, .ptr (σ.next + 12) 0, q12, q13, q14, q15, q16, q17, q18, q19, q20, q21, q22, q23, q24, q25, q26, q27, q28, q29, q30, q31, .int .u64 z1, .int .u64 z4, .int .i64 (IntKind.i64.wrap z4), .int .u64 z2, .int .i64 (IntKind.i64.wrap z2), .int .u64 z3, .int .i64 (IntKind.i64.wrap z3), .int .u64 z5, .int .i64 (IntKind.i64.wrap z5), .int .u64 z6, .int .i64 (IntKind.i64.wrap z6), .agg [.int .u64 z1, .int .i64 (IntKind.i64.wrap z4), .int .i64 (IntKind.i64.wrap z2), .int .i64 (IntKind.i64.wrap z3), .int .i64 (IntKind.i64.wrap z5), .int .i64 (IntKind.i64.wrap z6)], q44, q45, q46, q47] ((σ.up 14).set (σ.next + 12) (.obj [.int .u64 z1, .int .i64 (IntKind.i64.wrap z4), .int .i64 (IntKind.i64.wrap z2), .int .i64 (IntKind.i64.wrap z3), .int .i64 (IntKind.i64.wrap z5), .int .i64 (IntKind.i64.wrap z6)]))) :
    T Tryz.prog ann (.reg [⟨(some 32), (.mv (.t 5)), none⟩, ⟨(some 33), (.mv (.t 8)), none⟩, ⟨(some 34), (.conv .i64 (.t 33)), none⟩, ⟨(some 35), (.mv (.t 6)), none⟩, ⟨(some 36), (.conv .i64 (.t 35)), none⟩, ⟨(some 37), (.mv (.t 7)), none⟩, ⟨(some 38), (.conv .i64 (.t 37)), none⟩, ⟨(some 39), (.mv (.t 9)), none⟩, ⟨(some 40), (.conv .i64 (.t 39)), none⟩, ⟨(some 41), (.mv (.t 10)), none⟩, ⟨(some 42), (.conv .i64 (.t 41)), none⟩, ⟨(some 43), (.build [(.int .u64 0), (.int .i64 0), (.int .i64 0), (.int .i64 0), (.int .i64 0), (.int .i64 0)] [(0, (1, (.t 32))), (1, (1, (.t 34))), (2, (1, (.t 36))), (3, (1, (.t 38))), (4, (1, (.t 40))), (5, (1, (.t 42)))]), none⟩, ⟨(some 11), (.alloc [(.int .u64 0), (.int .i64 0), (.int .i64 0), (.int .i64 0), (.int .i64 0), (.int .i64 0)]), none⟩, ⟨none, (.store 6 (.t 11) (.t 43)), none⟩]) Q [q0, q1, q2, q3, q4, .int .u64 z1, .int .u64 z2, .int .u64 z3, .int .u64 z4, .int .u64 z5, .int .u64 z6, q11, q12, q13, q14, q15, q16, q17, q18, q19, q20, q21, q22, q23, q24, q25, q26, q27, q28, q29, q30, q31, q32, q33, q34, q35, q36, q37, q38, q39, q40, q41, q42, q43, q44, q45, q46, q47] σ := by
  refine T.regi hm ?_
  simp only [↓reduceIte, namesOf, List.any, I.names, aopsI, astep, ev, setd, List.set, List.getD, List.getElem?_cons_zero, List.getElem?_cons_succ, List.cons_append, List.nil_append, List.length_cons, List.length_nil, Option.getD_some, Bool.or_false, Bool.or_true, Nat.reduceAdd, ↓opt_def, AV.isAny, AV.cells, St.set_same, and_true, eq_self, decide_true, fillA, ↓Option.map_some, AV.fits, AV.one, List.all_cons, List.all_nil, Nat.reduceBEq, Bool.not_false, Bool.and_self, Nat.zero_add, splice, List.take, List.drop, Nat.reduceLeDiff, St.set_set]
  exact h

set_option maxRecDepth 10000 in
set_option maxHeartbeats 1000000 in
theorem rTold_ok {b : List UInt8} {g : Ver} {σ : St} (hb : b.length ≤ 1099511627776) : ACalls Tryz.prog n_rTold [.sl (bytesAV b) g] σ
    (fun v σ' => v = .tup [.agg (mtC (toldM b).1), .bool (toldM b).2] ∧ σ' = σ) := by
  refine s_rTold (fun wf => ?_)
  unfold c_rTold
  have hz : [AV.int .u64 0, .int .i64 0, .int .i64 0, .int .i64 0, .int .i64 0, .int .i64 0] = mtC mZ := rfl
  refine T.seq_k (fun K_h0 h0 => ?_)
  refine T.regi hm ?_
  simp only [↓reduceIte, namesOf, List.any, I.names, aopsI, astep, ev, setd, List.set, List.cons_append, List.nil_append, List.length_cons, List.length_nil, List.replicate, then_normal, Bool.or_false, Nat.reduceAdd, Nat.reduceSub, eq_self]
  refine h0 _ _ ?_
  try clear h0 K_h0
  rw [hz]
  have hq : ((σ.up 2).set (σ.next + 0) (.obj (mtC mZ))).res (σ.next + 0) = some (.obj (mtC mZ)) := St.set_same _ _ _
  have hL : Like σ ((σ.up 2).set (σ.next + 0) (.obj (mtC mZ))) := (Like.refl σ).box (n := 2) (i := 0) _
  have hlo : σ.next ≤ σ.next + 0 := by omega
  have hlt : σ.next + 0 < ((σ.up 2).set (σ.next + 0) (.obj (mtC mZ))).next := by simp
  generalize ((σ.up 2).set (σ.next + 0) (.obj (mtC mZ))) = t at hq hL hlt ⊢
  generalize σ.next + 0 = q at hq hlo hlt ⊢
  have fin : ∀ (ρ' : List AV) (s : St) (m' : Mt) (bb : Bool), Like σ s → s.res q = some (.obj (mtC m')) → ρ'.getD 2 .any = .ptr q 0 → ρ'.getD 3 .any = .bool bb → toldM b = (m', bb) → Fin σ [.cell 2 (some 6), .t 3] (fun v σ' => v = .tup [.agg (mtC (toldM b).1), .bool (toldM b).2] ∧ σ' = σ) .ret ρ' s := by
    intro ρ' s m' bb hLs hs h2 h3 he
    have hv : rvals ρ' s [.cell 2 (some 6), .t 3] = some [.agg (mtC m'), .bool bb] := by
      simp only [rvals, rval, h2, h3, hs]
      rfl
    exact Fin.quiet hv ⟨⟨trivial, trivial, trivial, trivial, trivial, trivial, trivial⟩, trivial, trivial⟩ (hLs.quiet wf) ⟨by rw [he]; rfl, rfl⟩
  refine T.seq_k (fun K_h1 h1 => ?_)
  by_cases h31 : b.length = 31
  case neg =>
    have e1 : ((b.length : Int) != 31) = true := by simp; omega
    refine T.seq_k (fun K_h0 h0 => ?_)
    refine T.regi hm ?_
    simp only [↓reduceIte, namesOf, List.any, I.names, aopsI, astep, ev, setd, List.set, List.getD, List.getElem?_cons_zero, List.getElem?_cons_succ, then_normal, Option.getD_some, Bool.or_false, Bool.false_eq_true, up_zero, binv, ↓opt_def, eq_self, bytesAV_len, e1]
    refine h0 _ _ ?_
    try clear h0 K_h0
    refine T.cond rfl (fun _ => ?_) (fun h => by cases h)
    refine T.seq_k (fun K_h0 h0 => ?_)
    refine T.regi hm ?_
    simp only [↓reduceIte, namesOf, List.any, I.names, aopsI, astep, ev, setd, List.set, List.getD, List.getElem?_cons_zero, List.getElem?_cons_succ, List.cons_append, List.nil_append, List.length_cons, List.length_nil, then_normal, Option.getD_some, Bool.or_false, Bool.false_eq_true, up_zero, Nat.reduceAdd, ↓opt_def, AV.isAny, AV.cells, eq_self, decide_true, fillA, ↓Option.map_some, hq, AV.fits, AV.one, List.all_cons, List.all_nil, Nat.reduceBEq, Bool.not_false, Bool.and_self, Nat.zero_add, splice, List.take, List.drop, Nat.reduceLeDiff]
    refine h0 _ _ ?_
    try clear h0 K_h0
    exact T.ret (fin _ _ mZ false (hL.set _ hlo) (St.set_same _ _ _) rfl rfl (if_neg h31))
  have e1 : ((b.length : Int) != 31) = false := by simp; omega
  refine T.seq_k (fun K_h0 h0 => ?_)
  refine T.regi hm ?_
  simp only [↓reduceIte, namesOf, List.any, I.names, aopsI, astep, ev, setd, List.set, List.getD, List.getElem?_cons_zero, List.getElem?_cons_succ, then_normal, Option.getD_some, Bool.or_false, Bool.false_eq_true, up_zero, binv, ↓opt_def, eq_self, bytesAV_len, e1]
  refine h0 _ _ ?_
  try clear h0 K_h0
  refine T.cond rfl (fun h => by cases h) (fun _ => T.skip ?_)
  refine h1 _ _ ?_
  try clear h1 K_h1
  have o0 := Rs.ok_r0 hb
  have o1 : (rm1 b).ok b := rN_ok o0
  have o2 : (rm2 b).ok b := rN_ok o1
  have o3 : (rm3 b).ok b := rN_ok o2
  have o4 : (rm4 b).ok b := rN_ok o3
  have o5 : (rm5 b).ok b := rN_ok o4
  have i1 : rN b r0 8 = rm1 b := rfl
  have i2 : rN b (rm1 b) 8 = rm2 b := rfl
  have i3 : rN b (rm2 b) 8 = rm3 b := rfl
  have i4 : rN b (rm3 b) 1 = rm4 b := rfl
  have i5 : rN b (rm4 b) 2 = rm5 b := rfl
  have hrM : readM b = ⟨rW b r0 8, IntKind.i64.wrap (rW b (rm3 b) 1 : Nat), IntKind.i64.wrap (rW b (rm1 b) 8 : Nat), IntKind.i64.wrap (rW b (rm2 b) 8 : Nat), IntKind.i64.wrap (rW b (rm4 b) 2 : Nat), IntKind.i64.wrap (rW b (rm5 b) 4 : Nat)⟩ := rfl
  have htold : toldM b = (readM b, decide (mayM (readM b))) := if_pos h31
  refine T.seq_k (fun K_h0 h0 => ?_)
  refine T.regi hm ?_
  simp only [↓reduceIte, namesOf, List.any, I.names, aopsI, astep, ev, setd, List.set, List.getD, List.getElem?_cons_zero, List.getElem?_cons_succ, List.cons_append, List.nil_append, List.length_cons, List.length_nil, then_normal, Option.getD_some, Bool.or_false, Bool.or_true, Bool.false_eq_true, Nat.reduceAdd, ↓opt_def, AV.isAny, AV.cells, and_true, eq_self, fillA, ↓Option.map_some, AV.fits, AV.one, List.all_cons, List.all_nil, Nat.reduceBEq, Bool.not_false, Bool.and_self, Nat.zero_add, splice, List.take, List.drop, Nat.reduceLeDiff]
  refine h0 _ _ ?_
  try clear h0 K_h0
  have hp0 : ((t.up 4).set (t.next + 2) (rdS b g r0)).res (t.next + 2) = some (rdS b g r0) := St.set_same _ _ _
  have hq1 : ((t.up 4).set (t.next + 2) (rdS b g r0)).res q = some (.obj (mtC mZ)) := by rw [St.set_other _ _ (by omega)]; exact hq
  have hL1 : Like σ ((t.up 4).set (t.next + 2) (rdS b g r0)) := hL.box (n := 4) (i := 2) _
  have hpq : q ≠ t.next + 2 := by omega
  have hpl : σ.next ≤ t.next + 2 := by have := hL.next; omega
  have hrd : (.obj [.sl (bytesAV b) g, .int .i64 0, .int .i64 (-1)] : Res) = rdS b g r0 := rfl
  rw [hrd]
  have hlu : q < ((t.up 4).set (t.next + 2) (rdS b g r0)).next := by simp; omega
  generalize ((t.up 4).set (t.next + 2) (rdS b g r0)) = u at hp0 hq1 hL1 hlu ⊢
  generalize t.next + 2 = p at hp0 hpq hpl ⊢
  have i6 : rN b (rm5 b) 4 = rm6 b := rfl
  refine T.seq_k (fun K_h1 h1 => ?_)
  refine T.regi hm ?_
  simp only [↓reduceIte, namesOf, List.any, I.names, aopsI, astep, ev, setd, List.set, List.getD, List.getElem?_cons_zero, List.getElem?_cons_succ, then_normal, Option.getD_some, Bool.or_false, Bool.false_eq_true, up_zero, List.map_cons, List.map_nil]
  refine (rwordF (w := 8) o0 rfl hp0).mono ?_
  rintro v s1 ⟨rfl, rfl⟩
  rw [i1]
  try simp only [↓reduceIte, namesOf, List.any, I.names, aops, aopsI, aopsT, qstep, CPt, qget, Tbl.get, astep, ev, setd, List.set, List.getD, List.getElem?_cons_zero, List.getElem?_cons_succ, List.getElem?_nil, List.cons_append, List.nil_append, List.length_cons, List.length_nil, List.replicate, then_normal, inBlock_normal, Option.getD_some, Option.getD_none, Bool.or_false, Bool.or_true, Bool.true_or, Bool.false_or, Bool.false_eq_true, if_false, if_true, up_zero, Nat.reduceAdd, Nat.reduceSub, binv, ↓opt_def, AV.isAny, AV.cells, ldc, List.map_cons, List.map_nil, St.set_next, St.set_same, St.up_next, Int.natCast_nonneg, lt_len, le_len, Int.toNat_natCast, true_and, and_true, eq_self, reduceCtorEq, decide_true, List.length_singleton, er_int, er_bool, er_str, srcR, up_zero, St.set_set]
  refine h1 _ _ ?_
  try clear h1 K_h1
  have hp1 : (u.set p (rdS b g (rm1 b))).res p = some (rdS b g (rm1 b)) := St.set_same _ _ _
  refine T.seq_k (fun K_h1 h1 => ?_)
  refine T.regi hm ?_
  simp only [↓reduceIte, namesOf, List.any, I.names, aopsI, astep, ev, setd, List.set, List.getD, List.getElem?_cons_zero, List.getElem?_cons_succ, then_normal, Option.getD_some, Bool.or_false, Bool.false_eq_true, up_zero, List.map_cons, List.map_nil]
  refine (rwordF (w := 8) o1 rfl hp1).mono ?_
  rintro v s1 ⟨rfl, rfl⟩
  rw [i2]
  try simp only [St.set_set]
  refine h1 _ _ ?_
  try clear h1 K_h1
  have hp2 : (u.set p (rdS b g (rm2 b))).res p = some (rdS b g (rm2 b)) := St.set_same _ _ _
  refine T.seq_k (fun K_h1 h1 => ?_)
  refine T.regi hm ?_
  simp only [↓reduceIte, namesOf, List.any, I.names, aopsI, astep, ev, setd, List.set, List.getD, List.getElem?_cons_zero, List.getElem?_cons_succ, then_normal, Option.getD_some, Bool.or_false, Bool.false_eq_true, up_zero, List.map_cons, List.map_nil]
  refine (rwordF (w := 8) o2 rfl hp2).mono ?_
  rintro v s1 ⟨rfl, rfl⟩
  rw [i3]
  try simp only [St.set_set]
  refine h1 _ _ ?_
  try clear h1 K_h1
  have hp3 : (u.set p (rdS b g (rm3 b))).res p = some (rdS b g (rm3 b)) := St.set_same _ _ _
  refine T.seq_k (fun K_h1 h1 => ?_)
  refine T.regi hm ?_
  simp only [↓reduceIte, namesOf, List.any, I.names, aopsI, astep, ev, setd, List.set, List.getD, List.getElem?_cons_zero, List.getElem?_cons_succ, then_normal, Option.getD_some, Bool.or_false, Bool.false_eq_true, up_zero, List.map_cons, List.map_nil]
  refine (rwordF (w := 1) o3 rfl hp3).mono ?_
  rintro v s1 ⟨rfl, rfl⟩
  rw [i4]
  try simp only [St.set_set]
  refine h1 _ _ ?_
  try clear h1 K_h1
  have hp4 : (u.set p (rdS b g (rm4 b))).res p = some (rdS b g (rm4 b)) := St.set_same _ _ _
  refine T.seq_k (fun K_h1 h1 => ?_)
  refine T.regi hm ?_
  simp only [↓reduceIte, namesOf, List.any, I.names, aopsI, astep, ev, setd, List.set, List.getD, List.getElem?_cons_zero, List.getElem?_cons_succ, then_normal, Option.getD_some, Bool.or_false, Bool.false_eq_true, up_zero, List.map_cons, List.map_nil]
  refine (rwordF (w := 2) o4 rfl hp4).mono ?_
  rintro v s1 ⟨rfl, rfl⟩
  rw [i5]
  try simp only [St.set_set]
  refine h1 _ _ ?_
  try clear h1 K_h1
  have hp5 : (u.set p (rdS b g (rm5 b))).res p = some (rdS b g (rm5 b)) := St.set_same _ _ _
  refine T.seq_k (fun K_h1 h1 => ?_)
  refine T.regi hm ?_
  simp only [↓reduceIte, namesOf, List.any, I.names, aopsI, astep, ev, setd, List.set, List.getD, List.getElem?_cons_zero, List.getElem?_cons_succ, then_normal, Option.getD_some, Bool.or_false, Bool.false_eq_true, up_zero, List.map_cons, List.map_nil]
  refine (rwordF (w := 4) o5 rfl hp5).mono ?_
  rintro v s1 ⟨rfl, rfl⟩
  rw [i6]
  try simp only [St.set_set]
  refine h1 _ _ ?_
  try clear h1 K_h1
  have hp6 : (u.set p (rdS b g (rm6 b))).res p = some (rdS b g (rm6 b)) := St.set_same _ _ _
  have hqU : (u.set p (rdS b g (rm6 b))).res q = some (.obj (mtC mZ)) := by rw [St.set_other _ _ hpq]; exact hq1
  have hLU : Like σ (u.set p (rdS b g (rm6 b))) := hL1.set _ hpl
  have hlU : q < (u.set p (rdS b g (rm6 b))).next := hlu
  clear hp0 hp1 hp2 hp3 hp4 hp5 hp6 hq1 hL1 i1 i2 i3 i4 i5 i6 o0 o1 o2 o3 o4 o5
  generalize (u.set p (rdS b g (rm6 b))) = w at hqU hLU hlU ⊢
  have hrC : mtC (readM b) = [.int .u64 ((rW b r0 8 : Nat) : Int), .int .i64 (IntKind.i64.wrap ((rW b (rm3 b) 1 : Nat) : Int)), .int .i64 (IntKind.i64.wrap ((rW b (rm1 b) 8 : Nat) : Int)), .int .i64 (IntKind.i64.wrap ((rW b (rm2 b) 8 : Nat) : Int)), .int .i64 (IntKind.i64.wrap ((rW b (rm4 b) 2 : Nat) : Int)), .int .i64 (IntKind.i64.wrap ((rW b (rm5 b) 4 : Nat) : Int))] := rfl
  clear hrM
  generalize ((rW b r0 8 : Nat) : Int) = z1 at hrC ⊢
  generalize ((rW b (rm1 b) 8 : Nat) : Int) = z2 at hrC ⊢
  generalize ((rW b (rm2 b) 8 : Nat) : Int) = z3 at hrC ⊢
  generalize ((rW b (rm3 b) 1 : Nat) : Int) = z4 at hrC ⊢
  generalize ((rW b (rm4 b) 2 : Nat) : Int) = z5 at hrC ⊢
  generalize ((rW b (rm5 b) 4 : Nat) : Int) = z6 at hrC ⊢
  refine T.seq_k (fun K_h0 h0 => ?_)
  refine told_reg ?_
  try simp only [then_normal, then_normal]
  rw [← hrC]
  refine h0 _ _ ?_
  try clear h0 K_h0
  have hb3 : ((w.up 14).set (w.next + 12) (.obj (mtC (readM b)))).res (w.next + 12) = some (.obj (mtC (readM b))) := St.set_same _ _ _
  have hq3 : ((w.up 14).set (w.next + 12) (.obj (mtC (readM b)))).res q = some (.obj (mtC mZ)) := by rw [St.set_other _ _ (by omega)]; exact hqU
  have hL3 : Like σ ((w.up 14).set (w.next + 12) (.obj (mtC (readM b)))) := hLU.box (n := 14) (i := 12) _
  generalize ((w.up 14).set (w.next + 12) (.obj (mtC (readM b)))) = w3 at hb3 hq3 hL3 ⊢
  generalize w.next + 12 = b3 at hb3 ⊢
  refine T.seq_k (fun K_h1 h1 => ?_)
  refine T.regi hm ?_
  simp only [↓reduceIte, namesOf, List.any, I.names, aopsI, astep, ev, setd, List.set, List.getD, List.getElem?_cons_zero, List.getElem?_cons_succ, List.length_cons, List.length_nil, then_normal, Option.getD_some, Bool.or_false, Bool.false_eq_true, up_zero, Nat.reduceAdd, ↓opt_def, ldc, List.map_cons, List.map_nil, hb3, Nat.zero_add, List.take, List.drop, Nat.reduceLeDiff]
  refine (rMay_ok (m := readM b)).mono ?_
  rintro v w3 ⟨rfl, rfl⟩
  try simp only [↓reduceIte, namesOf, List.any, I.names, aops, aopsI, aopsT, qstep, CPt, qget, Tbl.get, astep, ev, setd, List.set, List.getD, List.getElem?_cons_zero, List.getElem?_cons_succ, List.getElem?_nil, List.cons_append, List.nil_append, List.length_cons, List.length_nil, List.replicate, then_normal, inBlock_normal, Option.getD_some, Option.getD_none, Bool.or_false, Bool.or_true, Bool.true_or, Bool.false_or, Bool.false_eq_true, if_false, if_true, up_zero, Nat.reduceAdd, Nat.reduceSub, binv, ↓opt_def, AV.isAny, AV.cells, ldc, List.map_cons, List.map_nil, St.set_next, St.set_same, St.up_next, Int.natCast_nonneg, lt_len, le_len, Int.toNat_natCast, true_and, and_true, eq_self, reduceCtorEq, decide_true, List.length_singleton, er_int, er_bool, er_str, srcR, up_zero]
  refine h1 _ _ ?_
  try clear h1 K_h1
  refine T.seq_k (fun K_h0 h0 => ?_)
  refine T.regi hm ?_
  simp only [↓reduceIte, namesOf, List.any, I.names, aopsI, astep, ev, setd, List.set, List.getD, List.getElem?_cons_zero, List.getElem?_cons_succ, List.cons_append, List.nil_append, List.length_cons, List.length_nil, then_normal, Option.getD_some, Bool.or_false, Bool.false_eq_true, up_zero, Nat.reduceAdd, ↓opt_def, AV.isAny, AV.cells, ldc, eq_self, decide_true, hb3, hq3, AV.fits, AV.one, List.all_cons, List.all_nil, Nat.reduceBEq, Bool.not_false, Bool.and_self, Nat.zero_add, splice, List.take, List.drop, Nat.reduceLeDiff]
  refine h0 _ _ ?_
  try clear h0 K_h0
  exact T.ret (fin _ _ (readM b) _ (hL3.set _ hlo) (St.set_same _ _ _) rfl rfl htold)

set_option maxRecDepth 10000 in
theorem rMetaG_ok {x : List UInt8} {g : Ver} {σ : St} (hx : x.length ≤ 1099511627776) : ACalls Tryz.prog n_rMetaG [.sl (bytesAV x) g] σ
    (fun v σ' => v = .tup [.agg (mtC (metaGF x).1), .int .i64 (metaGF x).2] ∧ σ' = σ) := by
  refine s_rMetaG (fun wf => ?_)
  unfold c_rMetaG
  have hz : [AV.int .u64 0, .int .i64 0, .int .i64 0, .int .i64 0, .int .i64 0, .int .i64 0] = mtC mZ := rfl
  refine T.seq_k (fun K_h0 h0 => ?_)
  refine T.regi hm ?_
  simp only [↓reduceIte, namesOf, List.any, I.names, aopsI, astep, ev, setd, List.set, List.cons_append, List.nil_append, List.length_cons, List.length_nil, List.replicate, then_normal, Bool.or_false, Nat.reduceAdd, Nat.reduceSub, eq_self]
  refine h0 _ _ ?_
  try clear h0 K_h0
  rw [hz]
  have hq : ((σ.up 2).set (σ.next + 0) (.obj (mtC mZ))).res (σ.next + 0) = some (.obj (mtC mZ)) := St.set_same _ _ _
  have hL : Like σ ((σ.up 2).set (σ.next + 0) (.obj (mtC mZ))) := (Like.refl σ).box (n := 2) (i := 0) _
  have hlo : σ.next ≤ σ.next + 0 := by omega
  have hlt : σ.next + 0 < ((σ.up 2).set (σ.next + 0) (.obj (mtC mZ))).next := by simp
  generalize ((σ.up 2).set (σ.next + 0) (.obj (mtC mZ))) = t at hq hL hlt ⊢
  generalize σ.next + 0 = q at hq hlo hlt ⊢
  have fin : ∀ (ρ' : List AV) (s : St) (m' : Mt) (c : Int), Like σ s → s.res q = some (.obj (mtC m')) → ρ'.getD 2 .any = .ptr q 0 → ρ'.getD 3 .any = .int .i64 c → metaGF x = (m', c) → Fin σ [.cell 2 (some 6), .t 3] (fun v σ' => v = .tup [.agg (mtC (metaGF x).1), .int .i64 (metaGF x).2] ∧ σ' = σ) .ret ρ' s := by
    intro ρ' s m' c hLs hs h2 h3 he
    have hv : rvals ρ' s [.cell 2 (some 6), .t 3] = some [.agg (mtC m'), .int .i64 c] := by
      simp only [rvals, rval, h2, h3, hs]
      rfl
    exact Fin.quiet hv ⟨⟨trivial, trivial, trivial, trivial, trivial, trivial, trivial⟩, trivial, trivial⟩ (hLs.quiet wf) ⟨by rw [he]; rfl, rfl⟩
  have hlen := openB_le x
  refine T.seq_k (fun K_h1 h1 => ?_)
  refine T.regi hm ?_
  simp only [↓reduceIte, namesOf, List.any, I.names, aopsI, astep, ev, setd, List.set, List.getD, List.getElem?_cons_zero, List.getElem?_cons_succ, then_normal, Option.getD_some, Bool.or_false, Bool.false_eq_true, up_zero, ↓opt_def, List.map_cons, List.map_nil]
  refine (ropen_ok hx).mono ?_
  rintro v t ⟨rfl, rfl⟩
  try simp only [List.getElem?_cons_zero, List.getElem?_cons_succ]
  refine h1 _ _ ?_
  try clear h1 K_h1
  refine T.seq_k (fun K_h1 h1 => ?_)
  by_cases ho : (openB x).1 = 0
  case neg =>
    have e1 : ((openB x).1 != 0) = true := by simpa using ho
    refine T.seq_k (fun K_h0 h0 => ?_)
    refine T.regi hm ?_
    simp only [↓reduceIte, namesOf, List.any, I.names, aopsI, astep, ev, setd, List.set, List.getD, List.getElem?_cons_zero, List.getElem?_cons_succ, then_normal, Option.getD_some, Bool.or_false, Bool.false_eq_true, up_zero, binv, ↓opt_def, eq_self, e1]
    refine h0 _ _ ?_
    try clear h0 K_h0
    refine T.cond rfl (fun _ => ?_) (fun h => by cases h)
    refine T.seq_k (fun K_h0 h0 => ?_)
    refine T.regi hm ?_
    simp only [↓reduceIte, namesOf, List.any, I.names, aopsI, astep, ev, setd, List.set, List.getD, List.getElem?_cons_zero, List.getElem?_cons_succ, List.cons_append, List.nil_append, List.length_cons, List.length_nil, then_normal, Option.getD_some, Bool.or_false, Bool.false_eq_true, up_zero, Nat.reduceAdd, ↓opt_def, AV.isAny, AV.cells, eq_self, decide_true, fillA, ↓Option.map_some, hq, AV.fits, AV.one, List.all_cons, List.all_nil, Nat.reduceBEq, Bool.not_false, Bool.and_self, Nat.zero_add, splice, List.take, List.drop, Nat.reduceLeDiff]
    refine h0 _ _ ?_
    try clear h0 K_h0
    exact T.ret (fin _ _ mZ _ (hL.set _ hlo) (St.set_same _ _ _) rfl rfl (if_pos ho))
  have e1 : ((openB x).1 != 0) = false := by simpa using ho
  have hGF : metaGF x = if (openB x).2.length = 31 ∧ mayM (readM (openB x).2) then (readM (openB x).2, 0) else (mZ, 2) := by
    unfold metaGF; rw [if_neg (fun h => h ho)]
  generalize (openB x).2 = l at hlen hGF ⊢
  refine T.seq_k (fun K_h0 h0 => ?_)
  refine T.regi hm ?_
  simp only [↓reduceIte, namesOf, List.any, I.names, aopsI, astep, ev, setd, List.set, List.getD, List.getElem?_cons_zero, List.getElem?_cons_succ, then_normal, Option.getD_some, Bool.or_false, Bool.false_eq_true, up_zero, binv, ↓opt_def, eq_self, e1]
  refine h0 _ _ ?_
  try clear h0 K_h0
  refine T.cond rfl (fun h => by cases h) (fun _ => T.skip ?_)
  refine h1 _ _ ?_
  try clear h1 K_h1
  have hto : toldM l = if l.length = 31 then (readM l, decide (mayM (readM l))) else (mZ, false) := rfl
  refine T.seq_k (fun K_h1 h1 => ?_)
  refine T.regi hm ?_
  simp only [↓reduceIte, namesOf, List.any, I.names, aopsI, astep, ev, setd, List.set, List.getD, List.getElem?_cons_zero, List.getElem?_cons_succ, List.length_cons, List.length_nil, then_normal, Option.getD_some, Bool.or_false, Bool.or_true, Nat.reduceAdd, ↓opt_def, AV.cells, List.map_cons, List.map_nil, St.set_same, eq_self]
  refine (rTold_ok (by omega)).mono ?_
  rintro v t ⟨rfl, rfl⟩
  obtain ⟨mm, ok, hso⟩ : ∃ mm ok, toldM l = (mm, ok) := ⟨_, _, rfl⟩
  rw [hso] at hto
  rw [hso]
  try simp only [↓reduceIte, List.getElem?_cons_zero, List.getElem?_cons_succ, List.cons_append, List.nil_append, List.length_cons, List.length_nil, Nat.reduceAdd, AV.isAny, AV.cells, eq_self, decide_true, AV.fits, AV.one, List.all_cons, List.all_nil, Nat.reduceBEq, Bool.not_false, Bool.and_self, Nat.zero_add, splice, List.take, List.drop, Nat.reduceLeDiff, St.set_set]
  refine h1 _ _ ?_
  try clear h1 K_h1
  have hb3 : ((t.up 8).set (t.next + 5) (.obj (mtC mm))).res (t.next + 5) = some (.obj (mtC mm)) := St.set_same _ _ _
  have hq3 : ((t.up 8).set (t.next + 5) (.obj (mtC mm))).res q = some (.obj (mtC mZ)) := by rw [St.set_other _ _ (by omega)]; exact hq
  have hL3 : Like σ ((t.up 8).set (t.next + 5) (.obj (mtC mm))) := hL.box (n := 8) (i := 5) _
  generalize ((t.up 8).set (t.next + 5) (.obj (mtC mm))) = u at hb3 hq3 hL3 ⊢
  generalize t.next + 5 = b3 at hb3 ⊢
  refine T.seq_k (fun K_h1 h1 => ?_)
  cases ok with
  | false =>
    have hmk : metaGF x = (mZ, 2) := by
      rw [hGF]
      refine if_neg (fun h => ?_)
      rw [if_pos h.1, decide_eq_true h.2] at hto
      cases hto
    refine T.seq_k (fun K_h0 h0 => ?_)
    refine T.regi hm ?_
    simp only [↓reduceIte, namesOf, List.any, I.names, aopsI, astep, ev, setd, List.set, List.getD, List.getElem?_cons_zero, List.getElem?_cons_succ, then_normal, Option.getD_some, Bool.or_false, Bool.false_eq_true, up_zero, Bool.not_false]
    refine h0 _ _ ?_
    try clear h0 K_h0
    refine T.cond rfl (fun _ => ?_) (fun h => by cases h)
    refine T.seq_k (fun K_h0 h0 => ?_)
    refine T.regi hm ?_
    simp only [↓reduceIte, namesOf, List.any, I.names, aopsI, astep, ev, setd, List.set, List.getD, List.getElem?_cons_zero, List.getElem?_cons_succ, List.cons_append, List.nil_append, List.length_cons, List.length_nil, then_normal, Option.getD_some, Bool.or_false, Bool.false_eq_true, up_zero, Nat.reduceAdd, ↓opt_def, AV.isAny, AV.cells, eq_self, decide_true, fillA, ↓Option.map_some, hq3, AV.fits, AV.one, List.all_cons, List.all_nil, Nat.reduceBEq, Bool.not_false, Bool.and_self, Nat.zero_add, splice, List.take, List.drop, Nat.reduceLeDiff]
    refine h0 _ _ ?_
    try clear h0 K_h0
    exact T.ret (fin _ _ mZ _ (hL3.set _ hlo) (St.set_same _ _ _) rfl rfl hmk)
  | true =>
    have hmk : metaGF x = (mm, 0) := by
      by_cases h31 : l.length = 31
      · rw [if_pos h31] at hto
        injection hto with h1 h2
        rw [hGF, if_pos ⟨h31, of_decide_eq_true h2.symm⟩, h1]
      · rw [if_neg h31] at hto; cases hto
    refine T.seq_k (fun K_h0 h0 => ?_)
    refine T.regi hm ?_
    simp only [↓reduceIte, namesOf, List.any, I.names, aopsI, astep, ev, setd, List.set, List.getD, List.getElem?_cons_zero, List.getElem?_cons_succ, then_normal, Option.getD_some, Bool.or_false, Bool.false_eq_true, up_zero, Bool.not_true]
    refine h0 _ _ ?_
    try clear h0 K_h0
    refine T.cond rfl (fun h => by cases h) (fun _ => T.skip ?_)
    refine h1 _ _ ?_
    try clear h1 K_h1
    refine T.seq_k (fun K_h0 h0 => ?_)
    refine T.regi hm ?_
    simp only [↓reduceIte, namesOf, List.any, I.names, aopsI, astep, ev, setd, List.set, List.getD, List.getElem?_cons_zero, List.getElem?_cons_succ, List.cons_append, List.nil_append, List.length_cons, List.length_nil, then_normal, Option.getD_some, Bool.or_false, Bool.false_eq_true, up_zero, Nat.reduceAdd, ↓opt_def, AV.isAny, AV.cells, ldc, eq_self, decide_true, hb3, hq3, AV.fits, AV.one, List.all_cons, List.all_nil, Nat.reduceBEq, Bool.not_false, Bool.and_self, Nat.zero_add, splice, List.take, List.drop, Nat.reduceLeDiff]
    refine h0 _ _ ?_
    try clear h0 K_h0
    exact T.ret (fin _ _ mm _ (hL3.set _ hlo) (St.set_same _ _ _) rfl rfl hmk)

end Go.VL

namespace Go.VL

open Go.Proofs

theorem open_code (x : List UInt8) : ∃ c : Nat, (openB x).1 = (c : Int) ∧ c ≤ 10 := by
  unfold openB
  split
  · exact ⟨2, rfl, by omega⟩
  · split
    · exact ⟨0, rfl, by omega⟩
    · exact ⟨7, rfl, by omega⟩

theorem metaG_code (x : List UInt8) : ∃ c : Nat, (metaGF x).2 = (c : Int) ∧ c ≤ 10 := by
  unfold metaGF
  split
  · exact open_code x
  · split
    · exact ⟨0, rfl, by omega⟩
    · exact ⟨2, rfl, by omega⟩

theorem markG_code (x : List UInt8) : ∃ c : Nat, (markGF x).2 = (c : Int) ∧ c ≤ 10 := by
  unfold markGF
  split
  · exact open_code x
  · split
    · exact ⟨0, rfl, by omega⟩
    · exact ⟨2, rfl, by omega⟩

set_option maxRecDepth 10000 in
set_option maxHeartbeats 1000000 in
theorem metaGets_ok {x : List UInt8} {g : Ver} {σ : St} (hT : Tabs σ) (hE : Errs σ) : ACalls Tryz.prog n_metaGets [.sl (bytesAV x) g] σ (fun v σ' => v = .bool true ∧ σ' = σ) := by
  refine s_metaGets (fun wf => ?_)
  unfold c_metaGets
  refine T.seq_k (fun K_h0 h0 => ?_)
  refine T.regi hm ?_
  simp only [↓reduceIte, namesOf, List.any, I.names, aopsI, astep, ev, setd, List.set, List.cons_append, List.nil_append, List.length_cons, List.length_nil, List.replicate, then_normal, Bool.or_false, Bool.false_eq_true, up_zero, Nat.reduceAdd, Nat.reduceSub]
  refine h0 _ _ ?_
  try clear h0 K_h0
  refine T.seq_k (fun K_h1 h1 => ?_)
  refine T.regi hm ?_
  simp only [↓reduceIte, namesOf, List.any, I.names, aopsI, astep, ev, setd, List.set, List.getD, List.getElem?_cons_zero, List.getElem?_cons_succ, then_normal, Option.getD_some, Bool.or_false, Bool.false_eq_true, up_zero, List.map_nil]
  refine (up13_ok hT hE).mono ?_
  rintro v σ ⟨rfl, rfl⟩
  try simp only [↓reduceIte, namesOf, List.any, I.names, aops, aopsI, aopsT, qstep, CPt, qget, Tbl.get, astep, ev, setd, List.set, List.getD, List.getElem?_cons_zero, List.getElem?_cons_succ, List.getElem?_nil, List.cons_append, List.nil_append, List.length_cons, List.length_nil, List.replicate, then_normal, inBlock_normal, Option.getD_some, Option.getD_none, Bool.or_false, Bool.or_true, Bool.true_or, Bool.false_or, Bool.false_eq_true, if_false, if_true, up_zero, Nat.reduceAdd, Nat.reduceSub, binv, ↓opt_def, AV.isAny, AV.cells, ldc, List.map_cons, List.map_nil, St.set_next, St.set_same, St.up_next, Int.natCast_nonneg, lt_len, le_len, Int.toNat_natCast, true_and, and_true, eq_self, reduceCtorEq, decide_true, List.length_singleton, er_int, er_bool, er_str, srcR, up_zero]
  refine h1 _ _ ?_
  try clear h1 K_h1
  refine T.seq_k (fun K_h1 h1 => ?_)
  by_cases hx : x.length ≤ 5000
  case neg =>
    have f1 : decide ((x.length : Int) > 5000) = true := decide_eq_true (by omega)
    refine T.seq_k (fun K_h0 h0 => ?_)
    refine T.regi hm ?_
    simp only [↓reduceIte, namesOf, List.any, I.names, aopsI, astep, ev, setd, List.set, List.getD, List.getElem?_cons_zero, List.getElem?_cons_succ, then_normal, Option.getD_some, Bool.or_false, Bool.false_eq_true, up_zero, binv, ↓opt_def, eq_self, bytesAV_len, f1]
    refine h0 _ _ ?_
    try clear h0 K_h0
    refine T.cond rfl (fun _ => ?_) (fun h => by cases h)
    refine T.seq_k (fun K_h0 h0 => ?_)
    refine T.regi hm ?_
    simp only [↓reduceIte, namesOf, List.any, I.names, aopsI, astep, ev, setd, List.set, List.getD, List.getElem?_cons_zero, List.getElem?_cons_succ, then_normal, Option.getD_some, Bool.or_false, Bool.false_eq_true, up_zero]
    refine h0 _ _ ?_
    try clear h0 K_h0
    exact T.ret (Fin.ret rfl ⟨rfl, rfl⟩)
  have f1 : decide ((x.length : Int) > 5000) = false := decide_eq_false (by omega)
  refine T.seq_k (fun K_h0 h0 => ?_)
  refine T.regi hm ?_
  simp only [↓reduceIte, namesOf, List.any, I.names, aopsI, astep, ev, setd, List.set, List.getD, List.getElem?_cons_zero, List.getElem?_cons_succ, then_normal, Option.getD_some, Bool.or_false, Bool.false_eq_true, up_zero, binv, ↓opt_def, eq_self, bytesAV_len, f1]
  refine h0 _ _ ?_
  try clear h0 K_h0
  refine T.cond rfl (fun h => by cases h) (fun _ => T.skip ?_)
  refine h1 _ _ ?_
  try clear h1 K_h1
  have hx2 : x.length ≤ 1099511627776 := by omega
  obtain ⟨c1, hc1, hl1⟩ := metaG_code x
  obtain ⟨c2, hc2, hl2⟩ := markG_code x
  have w1 := fun τ => mGet_ok (g := g) (σ := τ) hx2
  have w2 := fun τ => mMarked_ok (g := g) (σ := τ) hx2
  have w3 := fun τ => rMetaG_ok (g := g) (σ := τ) hx2
  have w4 := fun τ => rMarker_ok (g := g) (σ := τ) hx2
  rw [← markGF_is x] at w4
  rw [hc1] at w1 w3
  rw [hc2] at w2 w4
  generalize (metaGF x).1 = M at w1 w3
  generalize (markGF x).1 = K at w2 w4
  clear hc1 hc2 hx2 hx f1
  refine T.seq_k (fun K_h1 h1 => ?_)
  refine T.regi hm ?_
  simp only [↓reduceIte, namesOf, List.any, I.names, aopsI, astep, ev, setd, List.set, List.getD, List.getElem?_cons_zero, List.getElem?_cons_succ, List.length_cons, List.length_nil, then_normal, Option.getD_some, Bool.or_false, Bool.or_true, Nat.reduceAdd, ↓opt_def, AV.cells, List.map_cons, List.map_nil, St.set_same, eq_self]
  refine (w1 _).mono ?_
  rintro v u ⟨rfl, rfl⟩
  try simp only [↓reduceIte, List.getElem?_cons_zero, List.getElem?_cons_succ, List.cons_append, List.nil_append, List.length_cons, List.length_nil, Nat.reduceAdd, AV.isAny, AV.cells, eq_self, decide_true, AV.fits, AV.one, List.all_cons, List.all_nil, Nat.reduceBEq, Bool.not_false, Bool.and_self, Nat.zero_add, splice, List.take, List.drop, Nat.reduceLeDiff, St.set_set]
  refine h1 _ _ ?_
  try clear h1 K_h1
  have b1 : ((σ.up 8).set (σ.next + 5) (.obj (mtC M))).res (σ.next + 5) = some (.obj (mtC M)) := St.set_same _ _ _
  have L1 : Like σ ((σ.up 8).set (σ.next + 5) (.obj (mtC M))) := (Like.refl σ).box (n := 8) (i := 5) _
  have n1 : σ.next + 5 < ((σ.up 8).set (σ.next + 5) (.obj (mtC M))).next := by simp
  generalize ((σ.up 8).set (σ.next + 5) (.obj (mtC M))) = u1 at b1 L1 n1 ⊢
  generalize σ.next + 5 = p1 at b1 n1 ⊢
  refine T.seq_k (fun K_h1 h1 => ?_)
  refine T.regi hm ?_
  simp only [↓reduceIte, namesOf, List.any, I.names, aopsI, astep, ev, setd, List.set, List.getD, List.getElem?_cons_zero, List.getElem?_cons_succ, List.length_cons, List.length_nil, then_normal, Option.getD_some, Bool.or_false, Bool.or_true, Nat.reduceAdd, ↓opt_def, AV.cells, List.map_cons, List.map_nil, St.set_same, eq_self]
  refine (w2 _).mono ?_
  rintro v u ⟨rfl, rfl⟩
  try simp only [↓reduceIte, List.getElem?_cons_zero, List.getElem?_cons_succ, List.cons_append, List.nil_append, List.length_cons, List.length_nil, Nat.reduceAdd, AV.isAny, AV.cells, eq_self, decide_true, AV.fits, AV.one, List.all_cons, List.all_nil, Nat.reduceBEq, Bool.not_false, Bool.and_self, Nat.zero_add, splice, List.take, List.drop, Nat.reduceLeDiff, St.set_set]
  refine h1 _ _ ?_
  try clear h1 K_h1
  have b2 : ((u1.up 8).set (u1.next + 5) (.obj (mkC K))).res (u1.next + 5) = some (.obj (mkC K)) := St.set_same _ _ _
  have b12 : ((u1.up 8).set (u1.next + 5) (.obj (mkC K))).res p1 = some (.obj (mtC M)) := by rw [St.set_other _ _ (by omega)]; exact b1
  have L2 : Like σ ((u1.up 8).set (u1.next + 5) (.obj (mkC K))) := L1.box (n := 8) (i := 5) _
  have n2 : u1.next + 5 < ((u1.up 8).set (u1.next + 5) (.obj (mkC K))).next := by simp
  have n12 : p1 < ((u1.up 8).set (u1.next + 5) (.obj (mkC K))).next := by simp; omega
  generalize ((u1.up 8).set (u1.next + 5) (.obj (mkC K))) = u2 at b2 b12 L2 n2 n12 ⊢
  generalize u1.next + 5 = p2 at b2 n2 ⊢
  clear b1 n1 L1
  refine T.seq_k (fun K_h1 h1 => ?_)
  refine T.regi hm ?_
  simp only [↓reduceIte, namesOf, List.any, I.names, aopsI, astep, ev, setd, List.set, List.getD, List.getElem?_cons_zero, List.getElem?_cons_succ, List.length_cons, List.length_nil, then_normal, Option.getD_some, Bool.or_false, Bool.or_true, Nat.reduceAdd, ↓opt_def, AV.cells, List.map_cons, List.map_nil, St.set_same, eq_self]
  refine (w3 _).mono ?_
  rintro v u ⟨rfl, rfl⟩
  try simp only [↓reduceIte, List.getElem?_cons_zero, List.getElem?_cons_succ, List.cons_append, List.nil_append, List.length_cons, List.length_nil, Nat.reduceAdd, AV.isAny, AV.cells, eq_self, decide_true, AV.fits, AV.one, List.all_cons, List.all_nil, Nat.reduceBEq, Bool.not_false, Bool.and_self, Nat.zero_add, splice, List.take, List.drop, Nat.reduceLeDiff, St.set_set]
  refine h1 _ _ ?_
  try clear h1 K_h1
  have b3 : ((u2.up 8).set (u2.next + 5) (.obj (mtC M))).res (u2.next + 5) = some (.obj (mtC M)) := St.set_same _ _ _
  have b13 : ((u2.up 8).set (u2.next + 5) (.obj (mtC M))).res p1 = some (.obj (mtC M)) := by rw [St.set_other _ _ (by omega)]; exact b12
  have b23 : ((u2.up 8).set (u2.next + 5) (.obj (mtC M))).res p2 = some (.obj (mkC K)) := by rw [St.set_other _ _ (by omega)]; exact b2
  have L3 : Like σ ((u2.up 8).set (u2.next + 5) (.obj (mtC M))) := L2.box (n := 8) (i := 5) _
  have n3 : u2.next + 5 < ((u2.up 8).set (u2.next + 5) (.obj (mtC M))).next := by simp
  have n13 : p1 < ((u2.up 8).set (u2.next + 5) (.obj (mtC M))).next ∧ p2 < ((u2.up 8).set (u2.next + 5) (.obj (mtC M))).next := by simp; omega
  generalize ((u2.up 8).set (u2.next + 5) (.obj (mtC M))) = u3 at b3 b13 b23 L3 n3 n13 ⊢
  generalize u2.next + 5 = p3 at b3 n3 ⊢
  clear b12 b2 n2 n12 L2
  refine T.seq_k (fun K_h1 h1 => ?_)
  refine T.regi hm ?_
  simp only [↓reduceIte, namesOf, List.any, I.names, aopsI, astep, ev, setd, List.set, List.getD, List.getElem?_cons_zero, List.getElem?_cons_succ, List.length_cons, List.length_nil, then_normal, Option.getD_some, Bool.or_false, Bool.or_true, Nat.reduceAdd, ↓opt_def, AV.cells, List.map_cons, List.map_nil, St.set_same, eq_self]
  refine (w4 _).mono ?_
  rintro v u ⟨rfl, rfl⟩
  try simp only [↓reduceIte, List.getElem?_cons_zero, List.getElem?_cons_succ, List.cons_append, List.nil_append, List.length_cons, List.length_nil, Nat.reduceAdd, AV.isAny, AV.cells, eq_self, decide_true, AV.fits, AV.one, List.all_cons, List.all_nil, Nat.reduceBEq, Bool.not_false, Bool.and_self, Nat.zero_add, splice, List.take, List.drop, Nat.reduceLeDiff, St.set_set]
  refine h1 _ _ ?_
  try clear h1 K_h1
  have b4 : ((u3.up 8).set (u3.next + 5) (.obj (mkC K))).res (u3.next + 5) = some (.obj (mkC K)) := St.set_same _ _ _
  have b14 : ((u3.up 8).set (u3.next + 5) (.obj (mkC K))).res p1 = some (.obj (mtC M)) := by rw [St.set_other _ _ (by omega)]; exact b13
  have b24 : ((u3.up 8).set (u3.next + 5) (.obj (mkC K))).res p2 = some (.obj (mkC K)) := by rw [St.set_other _ _ (by omega)]; exact b23
  have b34 : ((u3.up 8).set (u3.next + 5) (.obj (mkC K))).res p3 = some (.obj (mtC M)) := by rw [St.set_other _ _ (by omega)]; exact b3
  have L4 : Like σ ((u3.up 8).set (u3.next + 5) (.obj (mkC K))) := L3.box (n := 8) (i := 5) _
  generalize ((u3.up 8).set (u3.next + 5) (.obj (mkC K))) = u4 at b4 b14 b24 b34 L4 ⊢
  generalize u3.next + 5 = p4 at b4 ⊢
  clear b13 b23 b3 n3 n13 L3
  have k1 := code_ok (σ := u4) hl1
  have k2 := code_ok (σ := u4) hl2
  have z1 : ((c1 : Int) == (c1 : Int)) = true := by simp
  have z2 : ((c2 : Int) == (c2 : Int)) = true := by simp
  have hqu := L4.quiet wf
  generalize errAV (c1 : Int) = E1 at k1
  generalize errAV (c2 : Int) = E2 at k2
  refine T.seq_k (fun K_h1 h1 => ?_)
  refine T.regt hm (tbl := []) Tbl.ok_nil ?_
  refine aopsT_cut 14 (fun K_c h_c => ?_)
  try simp only [↓reduceIte, namesOf, List.any, I.names, aopsT, qstep, CPt, Tbl.get, astep, ev, setd, List.set, List.getD, List.getElem?_cons_zero, List.getElem?_cons_succ, List.length_cons, List.length_nil, Option.getD_some, Bool.or_false, Bool.false_eq_true, up_zero, Nat.reduceAdd, ↓opt_def, ldc, List.map_cons, List.map_nil, and_true, eq_self, List.take_succ_cons, b14, b34, b24, b4, ints, eqAv, beq_self_eq_true, ↓Option.map_some, Bool.and_self, Bool.bne_false, Bool.and_self, Nat.zero_add, List.take, List.drop, Nat.reduceLeDiff]
  refine (k1).mono ?_
  rintro _ _ ⟨rfl, rfl⟩
  refine h_c _ _ ?_
  clear h_c K_c
  simp only [List.drop_succ_cons, List.drop_zero, Nat.zero_add]
  refine aopsT_cut 6 (fun K_c h_c => ?_)
  try simp only [↓reduceIte, aopsT, qstep, CPt, Tbl.get, astep, ev, setd, List.set, List.getD, List.getElem?_cons_zero, List.getElem?_cons_succ, Option.getD_some, binv, ↓opt_def, List.map_cons, List.map_nil, eq_self, List.take_succ_cons, List.take_zero, z1]
  refine (k2).mono ?_
  rintro _ _ ⟨rfl, rfl⟩
  refine h_c _ _ ?_
  clear h_c K_c
  simp only [List.drop_succ_cons, List.drop_zero, Nat.reduceAdd]
  try simp only [↓reduceIte, aopsT, qstep, astep, ev, setd, List.set, List.getD, List.getElem?_cons_zero, List.getElem?_cons_succ, then_normal, Option.getD_some, binv, ↓opt_def, eq_self, z2]
  refine h1 _ _ ?_
  try clear h1 K_h1
  exact T.ret (Fin.quiet rfl trivial hqu ⟨rfl, rfl⟩)

end Go.VL

namespace Go.VL

open Go.Proofs

theorem u8_tyT : Tryz.prog.underlying t_u8 = some (.int .u8) := by kernel_rfl

end Go.VL

namespace Go.VL

open Go.Proofs

/-- a type -/
abbrev t_bytes : Nat := 40

end Go.VL

namespace Go.VL

theorem bytes_tyX : Go.Proofs.Tryz.prog.underlying t_bytes = some (.slice t_u8) := by kernel_rfl

end Go.VL

namespace Go.Proofs.YtnifkggcldalbaaGreatDoor

open Go.ChangeShapes Go.WideShapes Go.ChangeAt Go.RowKit Go.VL

set_option maxRecDepth 100000 in
theorem metaGets_lifted (os : Os) (started : os.Started) (H : Type) (enc : TypeId × Value → H) :
    ReturnsInHanded {} Tryz.checked os n_metaGets .any (fun w args => (Rows.metaGetsSpec.pre enc Tryz.prog Tryz.f5 [] false w args ∧ laidMetH Tryz.prog laidU w) ∧ sizedMet enc Tryz.prog Tryz.f5 (OpenSpec.ofChange Rows.metaGetsSpec) false w args)
      (Rows.metaGetsSpec.post enc Tryz.prog Tryz.f5 false true false false) := by
  refine returnsInHanded_of_change_and (C := Tryz.checked) (X := fun w _ => laidMetH Tryz.prog laidU w) (fun _ _ _ hh h => h.of_heap hh) own started (by kernel_rfl) Tryz.func5
    (ChangeSpec.witness_at (enc := enc) (C := Tryz.checked) (os := os) (X := fun w _ => laidMetH Tryz.prog laidU w) false (laidWorldU os) #[.slice none 0 0] 8 rfl (by kernel_rfl) (by kernel_rfl) (by kernel_rfl) (by kernel_rfl) (by kernel_rfl) (laidWorldU_met os _)) ?_
  intro W base args ds gs before hval0 hW _ _ hL _
  refine law_calls_tabsU 3 (tb := 4) laidOut (by kernel_rfl) rfl (by kernel_rfl) (by kernel_rfl) (fun ds hds => ?_) (fun xs hxs σ hG hNR => ?_) hval0 hW (tabsU_of_laid hL)
  · match ds, hds with
    | [_d1], _ => rfl
  · have hxs' : HasAll Tryz.prog 3 [_] xs := hxs
    cases hxs' with
    | cons h1 r1 =>
    cases r1
    obtain ⟨ys, rfl, hlen, h1⟩ := has_slice bytes_tyX h1
    obtain ⟨x, rfl⟩ := bytes_of u8_tyT h1
    exact (metaGets_ok hG.1 hG.2).mono fun v _ ⟨e, _⟩ => e

theorem metaGets_holds : Rows.MetaGetsSaid :=
  OpenClaim.holds_of_wide n_metaGets Tryz.f5 rfl rfl rfl rfl rfl rfl rfl ⟨rfl, rfl, rfl, rfl, rfl⟩ rfl rfl rfl rfl rfl (by kernel_rfl) Tryz.func5 (by kernel_rfl)
    (of_decide_eq_true (by kernel_rfl)) (by unfold Func.isWrapper; first | (rw [if_pos (by decide +kernel)]; kernel_rfl) | (rw [if_neg (by decide +kernel)]; exact ⟨rfl, rfl⟩))
    (fun os started H enc _ => metaGets_lifted os started H enc)

theorem metaGets_card : Rows.MetaGetsCardSaid :=
  Claim7.holds_tied_plain_at .later [] [.data, .data, .data, .data, .sentinel, .sentinel, .pinned] true Rows.metaGetsCard.stood.harness true
    metaGets_holds (fun _ h => by cases h) (by kernel_rfl) (fun _ h => by cases h) metaGets_row_tie rfl ⟨rfl, rfl⟩ (by kernel_rfl) rfl
    (fun f fn hf hfn => by
      obtain rfl : f = 5 := Option.some.inj ((show Tryz.prog.funcNamed Rows.metaGetsRow.func = some 5 by kernel_rfl).symm.trans hf) |>.symm
      obtain rfl : fn = Tryz.f5 := (Option.some.inj (Tryz.func5.symm.trans hfn)).symm
      refine ⟨by kernel_rfl, fun j t ht => ?_⟩
      have hm : t ∈ Tryz.f5.params.toList := by simpa using Array.mem_of_getElem? ht
      have hall : (Tryz.f5.params.toList.all fun u => !Tryz.prog.wantsStandIn u) = true := by kernel_rfl
      exact (show Tryz.prog.wantsStandIn t = false by simpa using List.all_eq_true.1 hall t hm))
    (by kernel_rfl)

end Go.Proofs.YtnifkggcldalbaaGreatDoor
