/- The card of MetaNames. -/
import Derived.Test.YtnifkggcldalbaaDoorKMetaNamesCard4

set_option linter.unusedSimpArgs false
set_option linter.unusedVariables false

namespace Go.VL

open Go.Proofs

/-- what there is a name of -/
def What (what : List UInt8) : Prop := what = [112] ∨ what = [109] ∨ what = [105] ∨ what = [102] ∨ what = [120]

def V3 (id : Nat) (what : List UInt8) (page : Int) : Prop := id < 18446744073709551616 ∧ ((what = [112] ∧ 0 ≤ page ∧ page < 1000) ∨ ((what = [109] ∨ what = [105] ∨ what = [102] ∨ what = [120]) ∧ page = 0))

theorem V3.what {id : Nat} {what : List UInt8} {page : Int} (h : V3 id what page) : What what := by
  rcases h.2 with h | h
  · exact .inl h.1
  · exact .inr h.1

def tailF (what : List UInt8) (page : Int) : List UInt8 := if what = [112] then 112 :: dg 10 3 (page.toNat % 1000) else what

theorem nm_eq {id : Nat} {what : List UInt8} {page : Int} (h : What what) : nmF id what page = [98] ++ 47 :: (dg 16 16 id ++ 47 :: tailF what page) := by
  unfold nmF tailF nmHead
  by_cases hp : what = [112]
  · rw [if_pos hp, if_pos hp]; simp
  · rw [if_neg hp, if_neg hp, if_pos (h.resolve_left hp)]; simp

theorem tail_free {what : List UInt8} {page : Int} (h : What what) : 47 ∉ tailF what page := by
  unfold tailF
  split
  · intro hm
    rcases List.mem_cons.1 hm with h1 | h1
    · exact absurd h1 (by decide)
    · exact dg_ne (by omega) (by omega) 3 _ _ h1 rfl
  · rename_i hp
    rcases h with h | h | h | h | h
    · exact absurd h hp
    all_goals (subst h; decide)

theorem nm_split {id : Nat} {what : List UInt8} {page : Int} (h : What what) : splitB (nmF id what page) = [[98], dg 16 16 id, tailF what page] := by
  rw [nm_eq h, split_at (by decide), split_at (fun hm => dg_ne (by omega) (by omega) 16 _ _ hm rfl), split_no (tail_free h)]

/-- what the parts of a name are -/
theorem canon_parts {l p0 p1 r : List UInt8} {c : UInt8} (hs : splitB l = [p0, p1, c :: r]) {id : Nat} {what : List UInt8} {page : Int} (hv : V3 id what page) (he : l = nmF id what page) :
    canU 16 p1 id ∧ what = [c] ∧ ((c = 112 ∧ canA r page.toNat ∧ page = (page.toNat : Int)) ∨ (c ≠ 112 ∧ page = 0)) := by
  rw [he, nm_split hv.what] at hs
  injection hs with _ hs
  injection hs with h1 hs
  injection hs with h2 _
  refine ⟨⟨rfl, hv.1, h1.symm⟩, ?_⟩
  unfold tailF at h2
  rcases hv.2 with ⟨rfl, h3, h4⟩ | ⟨hw, h3⟩
  · rw [if_pos rfl] at h2
    injection h2 with h5 h6
    subst h5
    exact ⟨rfl, .inl ⟨rfl, ⟨by omega, by rw [← h6, Nat.mod_eq_of_lt (by omega)]⟩, by omega⟩⟩
  · rw [if_neg (fun h => by subst h; simp at hw)] at h2
    subst h2
    rcases hw with h | h | h | h <;> (injection h with h5 h6; subst h5 h6; exact ⟨rfl, .inr ⟨by decide, h3⟩⟩)

theorem canon_len {l : List UInt8} {id : Nat} {what : List UInt8} {page : Int} (hv : V3 id what page) (he : l = nmF id what page) : (splitB l).length = 3 ∧ ∀ p0 p1 p2, splitB l = [p0, p1, p2] → p2 ≠ [] := by
  rw [he, nm_split hv.what]
  refine ⟨rfl, fun p0 p1 p2 h => ?_⟩
  injection h with _ h
  injection h with _ h
  injection h with h _
  subst h
  unfold tailF
  split
  · simp
  · rename_i hp
    rcases hv.what with h | h | h | h | h
    · exact absurd h hp
    all_goals simp [h]

theorem V3.uniq {id id' : Nat} {what what' : List UInt8} {page page' : Int} (h : V3 id what page) (h' : V3 id' what' page') (he : nmF id what page = nmF id' what' page') : id = id' ∧ what = what' ∧ page = page' := by
  have hs := nm_split (id := id) (page := page) h.what
  obtain ⟨c, r, hcr⟩ : ∃ c r, tailF what page = c :: r := by
    cases ht : tailF what page with
    | nil => exact absurd ht ((canon_len h rfl).2 _ _ _ hs)
    | cons c r => exact ⟨c, r, rfl⟩
  rw [hcr] at hs
  obtain ⟨a1, a2, a3⟩ := canon_parts hs h rfl
  obtain ⟨b1, b2, b3⟩ := canon_parts hs h' he
  refine ⟨?_, a2.trans b2.symm, ?_⟩
  · exact dg_inj (by omega) (by omega) 16 a1.2.1 b1.2.1 (a1.2.2.symm.trans b1.2.2)
  · rcases a3 with ⟨c1, c2, c3⟩ | ⟨c1, c2⟩ <;> rcases b3 with ⟨d1, d2, d3⟩ | ⟨d1, d2⟩
    · have := dg_inj (b := 10) (by omega) (by omega) 3 c2.1 d2.1 (c2.2.symm.trans d2.2)
      omega
    · exact absurd c1 d1
    · exact absurd d1 c1
    · rw [c2, d2]

/-- what a name tells -/
def PRes (l : List UInt8) (v : AV) : Prop :=
  (∃ id what page, V3 id what page ∧ l = nmF id what page ∧ v = .tup [.int .u64 ((id : Nat) : Int), .str ⟨what.toArray⟩, .int .i64 page, .bool true]) ∨
  ((∀ id what page, V3 id what page → l ≠ nmF id what page) ∧ v = .tup [.int .u64 0, .str ⟨#[]⟩, .int .i64 0, .bool false])

theorem PRes.uniq {l : List UInt8} {v w : AV} (h : PRes l v) (k : PRes l w) : v = w := by
  rcases h with ⟨id, what, page, h1, h2, rfl⟩ | ⟨h1, rfl⟩ <;> rcases k with ⟨id', what', page', k1, k2, rfl⟩ | ⟨k1, rfl⟩
  · obtain ⟨rfl, rfl, rfl⟩ := h1.uniq k1 (h2.symm.trans k2); rfl
  · exact absurd h2 (k1 _ _ _ h1)
  · exact absurd k2 (h1 _ _ _ k1)
  · rfl

theorem nb_p0 (m : Nat) : (AV.tup [.int .u64 0, .str ⟨#[]⟩, .int .i64 0, .bool false]).nb m := ⟨trivial, trivial, trivial, trivial, trivial⟩

set_option maxRecDepth 10000 in
set_option maxHeartbeats 1000000 in
theorem mParse_ok {l : List UInt8} {σ : St} (hT : Tabs σ) (hE : Errs σ) (hl : l.length ≤ 1000000) : ACalls Tryd.prog n_mParse [.str ⟨l.toArray⟩] σ (fun v σ' => σ' = σ ∧ PRes l v) := by
  refine s_mParse (fun wf => ?_)
  unfold c_mParse
  refine T.seq_k (fun K_h0 h0 => ?_)
  refine T.regi hm ?_
  simp only [↓reduceIte, namesOf, List.any, I.names, aopsI, astep, ev, setd, List.set, List.cons_append, List.nil_append, List.length_cons, List.length_nil, List.replicate, then_normal, Bool.or_false, Bool.false_eq_true, up_zero, Nat.reduceAdd, Nat.reduceSub]
  refine h0 _ _ ?_
  try clear h0 K_h0
  refine T.seq_k (fun K_h1 h1 => ?_)
  refine T.regi hm ?_
  simp only [↓reduceIte, namesOf, List.any, I.names, aopsI, astep, ev, setd, List.set, List.getD, List.getElem?_cons_zero, List.getElem?_cons_succ, then_normal, Option.getD_some, Bool.or_false, Bool.false_eq_true, up_zero, List.map_cons, List.map_nil]
  refine (split_ok hl).mono ?_
  rintro v σ ⟨rfl, rfl⟩
  try simp only [↓reduceIte, namesOf, List.any, I.names, aops, aopsI, aopsT, qstep, CPt, qget, Tbl.get, astep, ev, setd, List.set, List.getD, List.getElem?_cons_zero, List.getElem?_cons_succ, List.getElem?_nil, List.cons_append, List.nil_append, List.length_cons, List.length_nil, List.replicate, then_normal, inBlock_normal, Option.getD_some, Option.getD_none, Bool.or_false, Bool.or_true, Bool.true_or, Bool.false_or, Bool.false_eq_true, if_false, if_true, up_zero, Nat.reduceAdd, Nat.reduceSub, binv, ↓opt_def, AV.isAny, AV.cells, ldc, List.map_cons, List.map_nil, St.set_next, St.set_same, St.up_next, Int.natCast_nonneg, lt_len, le_len, Int.toNat_natCast, true_and, and_true, eq_self, reduceCtorEq, decide_true, List.length_singleton, er_int, er_bool, er_str, srcR, up_zero]
  refine h1 _ _ ?_
  try clear h1 K_h1
  have hsum := split_sum l
  obtain ⟨ps, hps⟩ : ∃ ps, splitB l = ps := ⟨_, rfl⟩
  rw [hps] at hsum ⊢
  have fin : ∀ ρ', (∀ id what page, V3 id what page → l ≠ nmF id what page) → rvals ρ' σ [.t 2, .t 3, .t 4, .t 5] = some [.int .u64 0, .str ⟨#[]⟩, .int .i64 0, .bool false] → Fin σ [.t 2, .t 3, .t 4, .t 5] (fun v σ' => σ' = σ ∧ PRes l v) .ret ρ' σ := fun ρ' hno hr =>
    Fin.quiet hr (nb_p0 _) (fun _ _ h => h) ⟨rfl, .inr ⟨hno, rfl⟩⟩
  refine T.seq_k (fun K_h1 h1 => ?_)
  by_cases h3 : ps.length = 3
  case neg =>
    have e1 : ((ps.length : Int) != 3) = true := by simp; omega
    refine T.seq_k (fun K_h0 h0 => ?_)
    refine T.regi hm ?_
    simp only [↓reduceIte, namesOf, List.any, I.names, aopsI, astep, ev, setd, List.set, List.getD, List.getElem?_cons_zero, List.getElem?_cons_succ, then_normal, Option.getD_some, Bool.or_false, Bool.false_eq_true, up_zero, binv, ↓opt_def, eq_self, reduceCtorEq, strs_len, e1]
    refine h0 _ _ ?_
    try clear h0 K_h0
    refine T.cond rfl (fun _ => ?_) (fun h => by cases h)
    refine T.seq_k (fun K_h0 h0 => ?_)
    refine T.regi hm ?_
    simp only [↓reduceIte, namesOf, List.any, I.names, aopsI, astep, ev, setd, List.set, then_normal, Bool.or_false, Bool.false_eq_true, up_zero]
    refine h0 _ _ ?_
    try clear h0 K_h0
    exact T.ret (fin _ (fun id what page hv he => h3 (by have := (canon_len hv he).1; rw [hps] at this; exact this)) rfl)
  obtain ⟨p0, p1, p2, rfl⟩ : ∃ p0 p1 p2, ps = [p0, p1, p2] := by
    match ps, h3 with
    | [a, b, c], _ => exact ⟨a, b, c, rfl⟩
  have hlen : ((strsAV [p0, p1, p2]).length : Int) = 3 := rfl
  have e1 : ((3 : Int) != 3) = false := rfl
  have i1 : (1 : Int) < 3 := by decide
  have i2 : (2 : Int) < 3 := by decide
  have z1 : (0 : Int) ≤ 1 := by decide
  have z2 : (0 : Int) ≤ 2 := by decide
  have g1 : (strsAV [p0, p1, p2])[(1 : Int).toNat]? = some (.str ⟨p1.toArray⟩) := rfl
  have g2 : (strsAV [p0, p1, p2])[(2 : Int).toNat]? = some (.str ⟨p2.toArray⟩) := rfl
  have q2 : sbinv .eql ⟨p2.toArray⟩ ⟨#[]⟩ = some (.bool (decide (p2 = []))) := by simp only [sbinv, ba_eq p2 []]
  by_cases hp2 : p2 = []
  · have f1 : decide (p2 = []) = true := decide_eq_true hp2
    rw [f1] at q2
    refine T.seq_k (fun K_h0 h0 => ?_)
    refine T.regi hm ?_
    simp only [↓reduceIte, namesOf, List.any, I.names, aopsI, astep, ev, setd, List.set, List.getD, List.getElem?_cons_zero, List.getElem?_cons_succ, List.length_cons, List.length_nil, then_normal, Option.getD_some, Bool.or_false, Bool.false_eq_true, up_zero, binv, ↓opt_def, AV.cells, ldc, and_true, eq_self, hlen, e1, i2, z2, g2, q2, Nat.zero_add]
    refine h0 _ _ ?_
    try clear h0 K_h0
    refine T.cond rfl (fun _ => ?_) (fun h => by cases h)
    refine T.seq_k (fun K_h0 h0 => ?_)
    refine T.regi hm ?_
    simp only [↓reduceIte, namesOf, List.any, I.names, aopsI, astep, ev, setd, List.set, then_normal, Bool.or_false, Bool.false_eq_true, up_zero]
    refine h0 _ _ ?_
    try clear h0 K_h0
    exact T.ret (fin _ (fun id what page hv he => (canon_len hv he).2 _ _ _ hps hp2) rfl)
  have f1 : decide (p2 = []) = false := decide_eq_false hp2
  rw [f1] at q2
  refine T.seq_k (fun K_h0 h0 => ?_)
  refine T.regi hm ?_
  simp only [↓reduceIte, namesOf, List.any, I.names, aopsI, astep, ev, setd, List.set, List.getD, List.getElem?_cons_zero, List.getElem?_cons_succ, List.length_cons, List.length_nil, then_normal, Option.getD_some, Bool.or_false, Bool.false_eq_true, up_zero, binv, ↓opt_def, AV.cells, ldc, and_true, eq_self, hlen, e1, i2, z2, g2, q2, Nat.zero_add]
  refine h0 _ _ ?_
  try clear h0 K_h0
  refine T.cond rfl (fun h => by cases h) (fun _ => T.skip ?_)
  refine h1 _ _ ?_
  try clear h1 K_h1
  obtain ⟨c, r, rfl⟩ : ∃ c r, p2 = c :: r := by cases p2 with
    | nil => exact absurd rfl hp2
    | cons c r => exact ⟨c, r, rfl⟩
  have hl1 : p1.length ≤ 1000000 := by have := hsum p1 (by simp); omega
  have hlr : r.length ≤ 1000000 := by have := hsum (c :: r) (by simp); simp at this; omega
  have hcan := fun (id : Nat) (what : List UInt8) (page : Int) => canon_parts (id := id) (what := what) (page := page) hps
  clear hsum q2 f1 hp2 h3
  refine T.seq_k (fun K_h1 h1 => ?_)
  refine T.regi hm ?_
  simp only [↓reduceIte, namesOf, List.any, I.names, aopsI, astep, ev, setd, List.set, List.getD, List.getElem?_cons_zero, List.getElem?_cons_succ, List.length_cons, List.length_nil, then_normal, Option.getD_some, Bool.or_false, Bool.false_eq_true, up_zero, ↓opt_def, AV.cells, ldc, List.map_cons, List.map_nil, and_true, eq_self, hlen, i1, z1, g1, Nat.zero_add]
  refine (parU_ok hE (by omega)).mono ?_
  rintro v σ ⟨rfl, (⟨n, hn, rfl, hc⟩ | ⟨n, hn, rfl, hc⟩)⟩
  case inr =>
    have g0 : eqIv true [(tCode, .i64)] (.iface t_nerr .any) .nili = some false := rfl
    try simp only [List.getElem?_cons_zero, List.getElem?_cons_succ]
    refine h1 _ _ ?_
    try clear h1 K_h1
    refine T.seq_k (fun K_h1 h1 => ?_)
    refine T.seq_k (fun K_h0 h0 => ?_)
    refine T.regi hm ?_
    simp only [↓reduceIte, namesOf, List.any, I.names, aopsI, astep, ev, setd, List.set, List.getD, List.getElem?_cons_zero, List.getElem?_cons_succ, then_normal, Option.getD_some, Bool.or_false, Bool.false_eq_true, up_zero, g0, Bool.false_bne]
    refine h0 _ _ ?_
    try clear h0 K_h0
    refine T.cond rfl (fun _ => ?_) (fun h => by cases h)
    refine T.seq_k (fun K_h0 h0 => ?_)
    refine T.regi hm ?_
    simp only [↓reduceIte, namesOf, List.any, I.names, aopsI, astep, ev, setd, List.set, then_normal, Bool.or_false, Bool.false_eq_true, up_zero]
    refine h0 _ _ ?_
    try clear h0 K_h0
    exact T.ret (fin _ (fun id what page hv he => hc id (hcan _ _ _ hv he).1) rfl)
  have g0 : eqIv true [(tCode, .i64)] .nili .nili = some true := rfl
  try simp only [List.getElem?_cons_zero, List.getElem?_cons_succ]
  refine h1 _ _ ?_
  try clear h1 K_h1
  refine T.seq_k (fun K_h1 h1 => ?_)
  refine T.seq_k (fun K_h0 h0 => ?_)
  refine T.regi hm ?_
  simp only [↓reduceIte, namesOf, List.any, I.names, aopsI, astep, ev, setd, List.set, List.getD, List.getElem?_cons_zero, List.getElem?_cons_succ, then_normal, Option.getD_some, Bool.or_false, Bool.false_eq_true, up_zero, g0, bne_self_eq_false]
  refine h0 _ _ ?_
  try clear h0 K_h0
  refine T.cond rfl (fun h => by cases h) (fun _ => T.skip ?_)
  refine h1 _ _ ?_
  try clear h1 K_h1
  have hsz : ((⟨(c :: r).toArray⟩ : ByteArray).size : Int) = ((r.length + 1 : Nat) : Int) := by rw [sz_mk]; rfl
  have hx1 : (⟨(c :: r).toArray⟩ : ByteArray).extract 0 1 = ⟨[c].toArray⟩ := by rw [ba_cut]; simp
  have hx2 : (⟨(c :: r).toArray⟩ : ByteArray).extract 1 (r.length + 1) = ⟨r.toArray⟩ := by rw [ba_cut]; simp
  have h1le : (1 : Int) ≤ ((r.length + 1 : Nat) : Int) := by omega
  have qp : sbinv .eql ⟨[c].toArray⟩ ⟨#[112]⟩ = some (.bool (decide (c = 112))) := by
    simp only [sbinv, ba_eq [c] [112]]
    congr 3
    simp
  refine T.seq_k (fun K_h0 h0 => ?_)
  refine T.regi hm ?_
  simp only [↓reduceIte, namesOf, List.any, I.names, aopsI, astep, ev, setd, List.set, List.getD, List.getElem?_cons_zero, List.getElem?_cons_succ, List.length_cons, List.length_nil, then_normal, Option.getD_some, Bool.or_false, Bool.false_eq_true, up_zero, ↓opt_def, AV.cells, ldc, eq_self, hlen, i2, z2, g2, hsz, idx, h1le, hx1, Int.le_refl, and_self, Int.toNat_zero, Int.toNat_one, z1, Nat.zero_add]
  refine h0 _ _ ?_
  try clear h0 K_h0
  refine T.seq_k (fun K_h1 h1 => ?_)
  have nxt : ∀ (ρ' : List AV) (k : Int), i64r k → ((c = 112 ∧ ∀ m, canA r m → k = (m : Int)) ∨ (c ≠ 112 ∧ k = 0)) →
      keep [0, 7, 9, 10] 0 ρ' = [.str ⟨l.toArray⟩, .any, .any, .any, .any, .any, .any, .int .u64 (n : Int), .any, .str ⟨[c].toArray⟩, .int .i64 k] ++ List.replicate 48 .any → K_h1 ρ' σ := by
    intro ρ' k hk hkc hρ
    refine h1 _ _ ?_
    try clear h1 K_h1
    refine T.gh (Gh.keep [0, 7, 9, 10]) ?_
    rw [hρ]
    clear hρ ρ'
    have qn : sbinv .neq ⟨(nmF n [c] k).toArray⟩ ⟨l.toArray⟩ = some (.bool (!decide (nmF n [c] k = l))) := by simp only [sbinv, ba_eq]
    refine T.seq_k (fun K_h1 h1 => ?_)
    refine T.seq_k (fun K_h2 h2 => ?_)
    refine T.regi hm ?_
    simp only [↓reduceIte, namesOf, List.any, I.names, aopsI, astep, ev, setd, List.set, List.getD, List.getElem?_cons_zero, List.getElem?_cons_succ, List.cons_append, List.nil_append, List.replicate, then_normal, Option.getD_some, Bool.or_false, Bool.false_eq_true, up_zero, ↓opt_def, List.map_cons, List.map_nil]
    refine (mName_ok (what := [c]) hT hn hk (by simp)).mono ?_
    rintro v σ ⟨rfl, rfl⟩
    by_cases hnm : nmF n [c] k = l
    · rw [decide_eq_true hnm] at qn
      try simp only [qn, Bool.not_true]
      refine h2 _ _ ?_
      try clear h2 K_h2
      refine T.cond rfl (fun h => by cases h) (fun _ => T.skip ?_)
      refine h1 _ _ ?_
      try clear h1 K_h1
      refine T.seq_k (fun K_h0 h0 => ?_)
      refine T.regi hm ?_
      simp only [↓reduceIte, namesOf, List.any, I.names, aopsI, astep, ev, setd, List.set, List.getD, List.getElem?_cons_zero, List.getElem?_cons_succ, then_normal, Option.getD_some, Bool.or_false, Bool.false_eq_true, up_zero]
      refine h0 _ _ ?_
      try clear h0 K_h0
      have hw : What [c] := by
        by_cases h0 : What [c]
        · exact h0
        · have : nmF n [c] k = [] := by
            unfold nmF
            rw [if_neg (fun h => h0 (.inl h)), if_neg (fun h => h0 (.inr h))]
          rw [this] at hnm
          rw [← hnm] at hps
          simp [splitB] at hps
      have hparts := nm_split (id := n) (page := k) hw
      rw [hnm, hps] at hparts
      injection hparts with _ hparts
      injection hparts with _ hparts
      injection hparts with hp _
      have hv : V3 n [c] k := by
        refine ⟨hn, ?_⟩
        rcases hkc with ⟨rfl, hm⟩ | ⟨hne, h0⟩
        · unfold tailF at hp
          rw [if_pos rfl] at hp
          injection hp with _ hp
          have h1 : k.toNat % 1000 < 1000 := Nat.mod_lt _ (by omega)
          have := hm (k.toNat % 1000) ⟨h1, hp⟩
          exact .inl ⟨rfl, by omega, by omega⟩
        · exact .inr ⟨hw.resolve_left (fun h => hne (by simpa using h)), h0⟩
      exact T.ret (Fin.quiet rfl ⟨trivial, trivial, trivial, trivial, trivial⟩ (fun _ _ h => h) ⟨rfl, .inl ⟨n, [c], k, hv, hnm.symm, rfl⟩⟩)
    · rw [decide_eq_false hnm] at qn
      try simp only [qn, Bool.not_false]
      refine h2 _ _ ?_
      try clear h2 K_h2
      refine T.cond rfl (fun _ => ?_) (fun h => by cases h)
      refine T.seq_k (fun K_h0 h0 => ?_)
      refine T.regi hm ?_
      simp only [↓reduceIte, namesOf, List.any, I.names, aopsI, astep, ev, setd, List.set, then_normal, Bool.or_false, Bool.false_eq_true, up_zero]
      refine h0 _ _ ?_
      try clear h0 K_h0
      refine T.ret (fin _ (fun id what page hv he => hnm ?_) rfl)
      obtain ⟨a1, a2, a3⟩ := hcan _ _ _ hv he
      have b1 := hc id a1
      have b2 : k = page := by
        rcases hkc with ⟨h0, hm⟩ | ⟨h0, hm⟩ <;> rcases a3 with ⟨d1, d2, d3⟩ | ⟨d1, d2⟩
        · rw [hm _ d2, ← d3]
        · exact absurd h0 d1
        · exact absurd d1 h0
        · rw [hm, d2]
      rw [b1, b2, he, a2]
  by_cases h112 : c = 112
  · rw [decide_eq_true h112] at qp
    refine T.seq_k (fun K_h0 h0 => ?_)
    refine T.regi hm ?_
    simp only [↓reduceIte, namesOf, List.any, I.names, aopsI, astep, ev, setd, List.set, List.getD, List.getElem?_cons_zero, List.getElem?_cons_succ, then_normal, Option.getD_some, Bool.or_false, Bool.false_eq_true, up_zero, ↓opt_def, qp]
    refine h0 _ _ ?_
    try clear h0 K_h0
    refine T.cond rfl (fun _ => ?_) (fun h => by cases h)
    refine T.seq_k (fun K_h2 h2 => ?_)
    refine T.regi hm ?_
    simp only [↓reduceIte, namesOf, List.any, I.names, aopsI, astep, ev, setd, List.set, List.getD, List.getElem?_cons_zero, List.getElem?_cons_succ, List.length_cons, List.length_nil, then_normal, Option.getD_some, Bool.or_false, Bool.false_eq_true, up_zero, ↓opt_def, AV.cells, ldc, List.map_cons, List.map_nil, Int.toNat_natCast, eq_self, hlen, i2, z2, g2, hsz, idx, h1le, hx2, Int.le_refl, and_self, Int.toNat_one, z1, Nat.zero_add]
    refine (atoi_ok hE (by omega)).mono ?_
    rintro v σ ⟨rfl, k, e, hk, rfl, (⟨rfl, hmm⟩ | ⟨⟨cc, _, rfl⟩, hno⟩)⟩
    · try simp only [List.getElem?_cons_zero, List.getElem?_cons_succ]
      refine h2 _ _ ?_
      try clear h2 K_h2
      refine T.seq_k (fun K_h2 h2 => ?_)
      refine T.seq_k (fun K_h0 h0 => ?_)
      refine T.regi hm ?_
      simp only [↓reduceIte, namesOf, List.any, I.names, aopsI, astep, ev, setd, List.set, List.getD, List.getElem?_cons_zero, List.getElem?_cons_succ, then_normal, Option.getD_some, Bool.or_false, Bool.false_eq_true, up_zero, g0, bne_self_eq_false]
      refine h0 _ _ ?_
      try clear h0 K_h0
      refine T.cond rfl (fun h => by cases h) (fun _ => T.skip ?_)
      refine h2 _ _ ?_
      try clear h2 K_h2
      refine T.regi hm ?_
      simp only [↓reduceIte, namesOf, List.any, I.names, aopsI, astep, ev, setd, List.set, List.getD, List.getElem?_cons_zero, List.getElem?_cons_succ, then_normal, Option.getD_some, Bool.or_false, Bool.false_eq_true, up_zero]
      exact nxt _ k hk (.inl ⟨h112, hmm⟩) rfl
    · have g3 : eqIv true [(tCode, .i64)] (.iface t_nerr .any) .nili = some false := rfl
      try simp only [List.getElem?_cons_zero, List.getElem?_cons_succ]
      refine h2 _ _ ?_
      try clear h2 K_h2
      refine T.seq_k (fun K_h2 h2 => ?_)
      refine T.seq_k (fun K_h0 h0 => ?_)
      refine T.regi hm ?_
      simp only [↓reduceIte, namesOf, List.any, I.names, aopsI, astep, ev, setd, List.set, List.getD, List.getElem?_cons_zero, List.getElem?_cons_succ, then_normal, Option.getD_some, Bool.or_false, Bool.false_eq_true, up_zero, g3, Bool.false_bne]
      refine h0 _ _ ?_
      try clear h0 K_h0
      refine T.cond rfl (fun _ => ?_) (fun h => by cases h)
      refine T.seq_k (fun K_h0 h0 => ?_)
      refine T.regi hm ?_
      simp only [↓reduceIte, namesOf, List.any, I.names, aopsI, astep, ev, setd, List.set, then_normal, Bool.or_false, Bool.false_eq_true, up_zero]
      refine h0 _ _ ?_
      try clear h0 K_h0
      refine T.ret (fin _ (fun id what page hv he => ?_) rfl)
      rcases (hcan _ _ _ hv he).2.2 with ⟨_, d2, _⟩ | ⟨d1, _⟩
      · exact hno _ d2
      · exact d1 h112
  · rw [decide_eq_false h112] at qp
    refine T.seq_k (fun K_h0 h0 => ?_)
    refine T.regi hm ?_
    simp only [↓reduceIte, namesOf, List.any, I.names, aopsI, astep, ev, setd, List.set, List.getD, List.getElem?_cons_zero, List.getElem?_cons_succ, then_normal, Option.getD_some, Bool.or_false, Bool.false_eq_true, up_zero, ↓opt_def, qp]
    refine h0 _ _ ?_
    try clear h0 K_h0
    refine T.cond rfl (fun h => by cases h) (fun _ => T.skip ?_)
    exact nxt _ 0 ⟨by omega, by omega⟩ (.inr ⟨h112, rfl⟩) rfl

end Go.VL

namespace Go.VL

open Go.Proofs

theorem u64m (x : Int) : IntKind.u64.wrap x = x % 18446744073709551616 := by simp [IntKind.wrap, IntKind.bits, IntKind.signed]

/-- one digit more -/
theorem can_step {l : List UInt8} {i n : Nat} {c : UInt8} (hc : l[i]? = some c) (hcan : ∀ id, canU 16 l id → n = id / 16 ^ (16 - i)) :
    ∀ id, canU 16 l id → ∃ d, d < 16 ∧ ((d < 10 ∧ c.toNat = 48 + d) ∨ (10 ≤ d ∧ c.toNat = 87 + d)) ∧ id / 16 ^ (16 - (i + 1)) = n * 16 + d ∧ n * 16 + d < 18446744073709551616 := by
  intro id h
  obtain ⟨hi, h2⟩ := h.digit hc
  have h1 := hcan id h
  have h3 := dgc_facts (id / 16 ^ (15 - i) % 16) (Nat.mod_lt _ (by omega))
  have h7 : id / 16 ^ (16 - i) = id / 16 ^ (15 - i) / 16 := by
    rw [show 16 - i = (15 - i) + 1 by omega, Nat.pow_succ, Nat.div_div_eq_div_mul]
  have h8 : id / 16 ^ (15 - i) ≤ id := Nat.div_le_self _ _
  have h9 := h.2.1
  rw [show 16 - (i + 1) = 15 - i by omega]
  rw [← h2] at h3
  rw [h7] at h1
  generalize id / 16 ^ (15 - i) = y at h1 h3 h8 ⊢
  exact ⟨y % 16, by omega, by omega, by omega, by omega⟩

set_option maxRecDepth 10000 in
set_option maxHeartbeats 1000000 in
theorem rValue_ok {l : List UInt8} {σ : St} (hl : l.length ≤ 1000) : ACalls Tryd.prog n_rValue [.str ⟨l.toArray⟩] σ (fun v σ' => σ' = σ ∧ ∃ n : Nat, n < 18446744073709551616 ∧ v = .int .u64 (n : Int) ∧ ∀ id, canU 16 l id → n = id) := by
  refine s_rValue (fun wf => ?_)
  unfold c_rValue
  have hsz : ((⟨l.toArray⟩ : ByteArray).size : Int) = (l.length : Int) := by rw [sz_mk]
  refine T.seq_k (fun K_h0 h0 => ?_)
  refine T.regi hm ?_
  simp only [↓reduceIte, namesOf, List.any, I.names, aopsI, astep, ev, setd, List.set, List.cons_append, List.nil_append, List.length_cons, List.length_nil, List.replicate, then_normal, Bool.or_false, Bool.false_eq_true, up_zero, Nat.reduceAdd, Nat.reduceSub]
  refine h0 _ _ ?_
  try clear h0 K_h0
  refine T.seq_k (fun K_h0 h0 => ?_)
  refine T.regi hm ?_
  simp only [↓reduceIte, namesOf, List.any, I.names, aopsI, astep, ev, setd, List.set, then_normal, Bool.or_false, Bool.false_eq_true, up_zero]
  refine h0 _ _ ?_
  try clear h0 K_h0
  refine T.seq_k (fun K_h1 h1 => ?_)
  refine T.seq_k (fun K_h0 h0 => ?_)
  refine T.regi hm ?_
  simp only [↓reduceIte, namesOf, List.any, I.names, aopsI, astep, ev, setd, List.set, then_normal, Bool.or_false, Bool.false_eq_true, up_zero]
  refine h0 _ _ ?_
  try clear h0 K_h0
  refine T.block ?_
  refine T.gh (Gh.keep [0, 3, 4]) ?_
  refine T.loopi (fun i ρ t => t = σ ∧ ∃ n : Nat, n < 18446744073709551616 ∧ (∀ id, canU 16 l id → n = id / 16 ^ (16 - i)) ∧ ρ = [.str ⟨l.toArray⟩, .any, .any, .int .u64 (n : Int), .int .i64 (i : Int)] ++ List.replicate 29 .any)
    l.length 0 (Nat.zero_le _) ⟨rfl, 0, by omega, fun id h => by rw [Nat.div_eq_of_lt (by have := h.2.1; omega)], rfl⟩ ?_
  rintro i ρ t hi ⟨rfl, n, hn, hcan, rfl⟩
  refine T.seq_k (fun K_h2 h2 => ?_)
  by_cases hil : i < l.length
  case neg =>
    refine T.seq_k (fun K_h0 h0 => ?_)
    refine T.regi hm ?_
    simp only [↓reduceIte, namesOf, List.any, I.names, aopsI, astep, ev, setd, List.set, List.getD, List.getElem?_cons_zero, List.getElem?_cons_succ, List.cons_append, List.nil_append, List.replicate, then_normal, Option.getD_some, Bool.or_false, Bool.false_eq_true, up_zero, binv, ↓opt_def, lt_len, eq_self, hsz, hil, decide_false]
    refine h0 _ _ ?_
    try clear h0 K_h0
    refine T.cond rfl (fun h => by cases h) (fun _ => T.exit ?_)
    have hie : i = l.length := by omega
    try simp only [List.cons_append, List.nil_append, List.replicate, then_normal, inBlock_exit, then_exit]
    refine h1 _ _ ?_
    try clear h1 K_h1
    refine T.seq_k (fun K_h0 h0 => ?_)
    refine T.regi hm ?_
    simp only [↓reduceIte, namesOf, List.any, I.names, aopsI, astep, ev, setd, List.set, List.getD, List.getElem?_cons_zero, List.getElem?_cons_succ, then_normal, Option.getD_some, Bool.or_false, Bool.false_eq_true, up_zero]
    refine h0 _ _ ?_
    try clear h0 K_h0
    exact T.ret (Fin.ret rfl ⟨rfl, n, hn, rfl, fun id h => by rw [hcan id h, hie, h.len, Nat.sub_self, Nat.pow_zero, Nat.div_one]⟩)
  refine T.seq_k (fun K_h0 h0 => ?_)
  refine T.regi hm ?_
  simp only [↓reduceIte, namesOf, List.any, I.names, aopsI, astep, ev, setd, List.set, List.getD, List.getElem?_cons_zero, List.getElem?_cons_succ, List.cons_append, List.nil_append, List.replicate, then_normal, Option.getD_some, Bool.or_false, Bool.false_eq_true, up_zero, binv, ↓opt_def, lt_len, true_and, eq_self, decide_true, hsz, hil]
  refine h0 _ _ ?_
  try clear h0 K_h0
  refine T.cond rfl (fun _ => T.skip ?_) (fun h => by cases h)
  refine h2 _ _ ?_
  try clear h2 K_h2
  obtain ⟨c, hc⟩ : ∃ c, l[i]? = some c := ⟨_, List.getElem?_eq_getElem hil⟩
  have hgc : (⟨l.toArray⟩ : ByteArray).data.toList[i]? = some c := hc
  have hinc := inc64' hil (by omega)
  have hk : c.toNat < 256 := c.toNat_lt
  have hstep := can_step hc hcan
  have wc : IntKind.u64.wrap (c.toNat : Int) = (c.toNat : Int) := u64w (by omega)
  refine T.seq_k (fun K_h3 h3 => ?_)
  refine T.block ?_
  refine T.seq_k (fun K_h0 h0 => ?_)
  refine T.regi hm ?_
  simp only [↓reduceIte, namesOf, List.any, I.names, aopsI, astep, ev, setd, List.set, List.getD, List.getElem?_cons_zero, List.getElem?_cons_succ, List.cons_append, List.nil_append, List.replicate, then_normal, Option.getD_some, Bool.or_false, Bool.false_eq_true, up_zero, Int.natCast_nonneg, lt_len, Int.toNat_natCast, true_and, hsz, hil, hgc, and_self]
  refine h0 _ _ ?_
  try clear h0 K_h0
  by_cases hA : 97 ≤ c.toNat ∧ c.toNat ≤ 102
  · have f1 : decide ((c.toNat : Int) ≥ 97) = true := decide_eq_true (by omega)
    have f2 : decide ((c.toNat : Int) ≤ 102) = true := decide_eq_true (by omega)
    obtain ⟨m, hm1, hm2, _⟩ := u64_natx (IntKind.u64.wrap (IntKind.u64.wrap (16 * (n : Int)) + (c.toNat : Int)) - 87)
    refine T.seq_k (fun K_h0 h0 => ?_)
    refine T.regi hm ?_
    simp only [↓reduceIte, namesOf, List.any, I.names, aopsI, astep, ev, setd, List.set, List.getD, List.getElem?_cons_zero, List.getElem?_cons_succ, List.cons_append, List.nil_append, List.replicate, then_normal, Option.getD_some, Bool.or_false, Bool.false_eq_true, up_zero, binv, ↓opt_def, eq_self, f1, f2]
    refine h0 _ _ ?_
    try clear h0 K_h0
    refine T.cond rfl (fun _ => ?_) (fun h => by cases h)
    refine T.regi hm ?_
    simp only [↓reduceIte, namesOf, List.any, I.names, aopsI, astep, ev, setd, List.set, List.getD, List.getElem?_cons_zero, List.getElem?_cons_succ, List.cons_append, List.nil_append, List.replicate, then_normal, inBlock_normal, Option.getD_some, Bool.or_false, Bool.false_eq_true, up_zero, binv, ↓opt_def, eq_self, wc, hm1]
    try simp only [↓reduceIte, namesOf, List.any, I.names, aops, aopsI, aopsT, qstep, CPt, qget, Tbl.get, astep, ev, setd, List.set, List.getD, List.getElem?_cons_zero, List.getElem?_cons_succ, List.getElem?_nil, List.cons_append, List.nil_append, List.length_cons, List.length_nil, List.replicate, then_normal, inBlock_normal, Option.getD_some, Option.getD_none, Bool.or_false, Bool.or_true, Bool.true_or, Bool.false_or, Bool.false_eq_true, if_false, if_true, up_zero, Nat.reduceAdd, Nat.reduceSub, binv, ↓opt_def, AV.isAny, AV.cells, ldc, List.map_cons, List.map_nil, St.set_next, St.set_same, St.up_next, Int.natCast_nonneg, lt_len, le_len, Int.toNat_natCast, true_and, and_true, eq_self, reduceCtorEq, decide_true, List.length_singleton, er_int, er_bool, er_str, srcR, inBlock_normal]
    refine h3 _ _ ?_
    try clear h3 K_h3
    refine T.regi hm ?_
    simp only [↓reduceIte, namesOf, List.any, I.names, aopsI, astep, ev, setd, List.set, List.getD, List.getElem?_cons_zero, List.getElem?_cons_succ, List.cons_append, List.nil_append, List.replicate, then_normal, Option.getD_some, Bool.or_false, Bool.false_eq_true, up_zero, binv, ↓opt_def, eq_self, hinc]
    refine ⟨hil, _, _, Gh.keep [0, 3, 4], rfl, m, hm2, fun id h => ?_, rfl⟩
    obtain ⟨d, h1, h2, h3, h4⟩ := hstep id h
    rw [h3]
    simp only [u64m] at hm1
    omega
  · have hw : IntKind.u64.wrap (16 * (n : Int)) = (16 * (n : Int)) % 18446744073709551616 := u64m _
    have hmod : ((c.toNat : Int)).tmod 16 = ((c.toNat % 16 : Nat) : Int) := tmodN _ 16
    have z16 : ((16 : Int) = 0) = False := eq_false (by decide)
    obtain ⟨m, hm1, hm2, _⟩ := u64_natx (IntKind.u64.wrap (16 * (n : Int)) + ((c.toNat % 16 : Nat) : Int))
    have last : ∀ id, canU 16 l id → m = id / 16 ^ (16 - (i + 1)) := fun id h => by
      obtain ⟨d, h1, h2, h3, h4⟩ := hstep id h
      rw [h3]
      simp only [u64m] at hm1
      omega
    by_cases h97 : 97 ≤ c.toNat
    · have f1 : decide ((c.toNat : Int) ≥ 97) = true := decide_eq_true (by omega)
      have f2 : decide ((c.toNat : Int) ≤ 102) = false := decide_eq_false (by omega)
      refine T.seq_k (fun K_h0 h0 => ?_)
      refine T.regi hm ?_
      simp only [↓reduceIte, namesOf, List.any, I.names, aopsI, astep, ev, setd, List.set, List.getD, List.getElem?_cons_zero, List.getElem?_cons_succ, List.cons_append, List.nil_append, List.replicate, then_normal, Option.getD_some, Bool.or_false, Bool.false_eq_true, up_zero, binv, ↓opt_def, eq_self, f1, f2]
      refine h0 _ _ ?_
      try clear h0 K_h0
      refine T.cond rfl (fun h => by cases h) (fun _ => ?_)
      refine T.regi hm ?_
      simp only [↓reduceIte, namesOf, List.any, I.names, aopsI, astep, ev, setd, List.set, List.getD, List.getElem?_cons_zero, List.getElem?_cons_succ, List.cons_append, List.nil_append, List.replicate, then_normal, inBlock_normal, Option.getD_some, Bool.or_false, Bool.false_eq_true, up_zero, binv, ↓opt_def, eq_self, wc, hmod, z16, hm1]
      try simp only [↓reduceIte, namesOf, List.any, I.names, aops, aopsI, aopsT, qstep, CPt, qget, Tbl.get, astep, ev, setd, List.set, List.getD, List.getElem?_cons_zero, List.getElem?_cons_succ, List.getElem?_nil, List.cons_append, List.nil_append, List.length_cons, List.length_nil, List.replicate, then_normal, inBlock_normal, Option.getD_some, Option.getD_none, Bool.or_false, Bool.or_true, Bool.true_or, Bool.false_or, Bool.false_eq_true, if_false, if_true, up_zero, Nat.reduceAdd, Nat.reduceSub, binv, ↓opt_def, AV.isAny, AV.cells, ldc, List.map_cons, List.map_nil, St.set_next, St.set_same, St.up_next, Int.natCast_nonneg, lt_len, le_len, Int.toNat_natCast, true_and, and_true, eq_self, reduceCtorEq, decide_true, List.length_singleton, er_int, er_bool, er_str, srcR, inBlock_normal]
      refine h3 _ _ ?_
      try clear h3 K_h3
      refine T.regi hm ?_
      simp only [↓reduceIte, namesOf, List.any, I.names, aopsI, astep, ev, setd, List.set, List.getD, List.getElem?_cons_zero, List.getElem?_cons_succ, List.cons_append, List.nil_append, List.replicate, then_normal, Option.getD_some, Bool.or_false, Bool.false_eq_true, up_zero, binv, ↓opt_def, eq_self, hinc]
      exact ⟨hil, _, _, Gh.keep [0, 3, 4], rfl, m, hm2, last, rfl⟩
    · have f1 : decide ((c.toNat : Int) ≥ 97) = false := decide_eq_false (by omega)
      refine T.seq_k (fun K_h0 h0 => ?_)
      refine T.regi hm ?_
      simp only [↓reduceIte, namesOf, List.any, I.names, aopsI, astep, ev, setd, List.set, List.getD, List.getElem?_cons_zero, List.getElem?_cons_succ, List.cons_append, List.nil_append, List.replicate, then_normal, Option.getD_some, Bool.or_false, Bool.false_eq_true, up_zero, binv, ↓opt_def, eq_self, f1]
      refine h0 _ _ ?_
      try clear h0 K_h0
      refine T.cond rfl (fun h => by cases h) (fun _ => ?_)
      refine T.regi hm ?_
      simp only [↓reduceIte, namesOf, List.any, I.names, aopsI, astep, ev, setd, List.set, List.getD, List.getElem?_cons_zero, List.getElem?_cons_succ, List.cons_append, List.nil_append, List.replicate, then_normal, inBlock_normal, Option.getD_some, Bool.or_false, Bool.false_eq_true, up_zero, binv, ↓opt_def, eq_self, wc, hmod, z16, hm1]
      try simp only [↓reduceIte, namesOf, List.any, I.names, aops, aopsI, aopsT, qstep, CPt, qget, Tbl.get, astep, ev, setd, List.set, List.getD, List.getElem?_cons_zero, List.getElem?_cons_succ, List.getElem?_nil, List.cons_append, List.nil_append, List.length_cons, List.length_nil, List.replicate, then_normal, inBlock_normal, Option.getD_some, Option.getD_none, Bool.or_false, Bool.or_true, Bool.true_or, Bool.false_or, Bool.false_eq_true, if_false, if_true, up_zero, Nat.reduceAdd, Nat.reduceSub, binv, ↓opt_def, AV.isAny, AV.cells, ldc, List.map_cons, List.map_nil, St.set_next, St.set_same, St.up_next, Int.natCast_nonneg, lt_len, le_len, Int.toNat_natCast, true_and, and_true, eq_self, reduceCtorEq, decide_true, List.length_singleton, er_int, er_bool, er_str, srcR, inBlock_normal]
      refine h3 _ _ ?_
      try clear h3 K_h3
      refine T.regi hm ?_
      simp only [↓reduceIte, namesOf, List.any, I.names, aopsI, astep, ev, setd, List.set, List.getD, List.getElem?_cons_zero, List.getElem?_cons_succ, List.cons_append, List.nil_append, List.replicate, then_normal, Option.getD_some, Bool.or_false, Bool.false_eq_true, up_zero, binv, ↓opt_def, eq_self, hinc]
      exact ⟨hil, _, _, Gh.keep [0, 3, 4], rfl, m, hm2, last, rfl⟩

/-- the page that a name's last digits tell -/
def pageR (l : List UInt8) : Nat := 100 * ((l.getD 20 0).toNat % 16) + 10 * ((l.getD 21 0).toNat % 16) + (l.getD 22 0).toNat % 16

theorem nmp_len {id : Nat} {what : List UInt8} {page : Int} (h : What what) : (nmF id what page).length = if what = [112] then 23 else 20 := by
  rw [nm_eq h]
  unfold tailF
  split
  · simp [dg_len]
  · rename_i hp
    rcases h with h | h | h | h | h
    · exact absurd h hp
    all_goals simp [h, dg_len]

theorem nm_cuts {id : Nat} {what : List UInt8} {page : Int} (h : What what) : ((nmF id what page).take 18).drop 2 = dg 16 16 id ∧ ((nmF id what page).take 20).drop 19 = what := by
  have e : nmF id what page = ([98, 47] ++ dg 16 16 id) ++ ([47] ++ tailF what page) := by rw [nm_eq h]; simp
  have l1 : ([98, 47] ++ dg 16 16 id).length = 18 := by simp [dg_len]
  constructor
  · rw [e, List.take_left' l1]; rfl
  · have e2 : nmF id what page = (([98, 47] ++ dg 16 16 id) ++ [47]) ++ tailF what page := by rw [e]; simp
    have l2 : (([98, 47] ++ dg 16 16 id) ++ [47]).length = 19 := by simp [dg_len]
    have l3 : (([98, 47] ++ dg 16 16 id) ++ [47] : List UInt8).length ≤ 20 := by omega
    rw [e2, List.take_append, List.drop_append, List.drop_of_length_le (by rw [List.length_take]; omega), List.nil_append, List.length_take, l2]
    have hw1 : what.length = 1 := by rcases h with h | h | h | h | h <;> simp [h]
    unfold tailF
    split
    · rename_i hp
      rw [hp]; rfl
    · show (what.take 1).drop 0 = what
      rw [List.take_of_length_le (by omega), List.drop_zero]

theorem nm_page {id : Nat} {page : Int} : pageR (nmF id [112] page) = page.toNat % 1000 := by
  have e : nmF id [112] page = (([98, 47] ++ dg 16 16 id) ++ [47, 112]) ++ dg 10 3 (page.toNat % 1000) := by rw [nm_eq (.inl rfl)]; simp [tailF]
  have l2 : (([98, 47] ++ dg 16 16 id) ++ [47, 112] : List UInt8).length = 20 := by simp [dg_len]
  have hlt : page.toNat % 1000 < 1000 := Nat.mod_lt _ (by omega)
  generalize page.toNat % 1000 = n at e hlt ⊢
  rw [dg3 n hlt] at e
  have g : ∀ k d, [dgc (n / 100), dgc (n % 100 / 10), dgc (n % 100 % 10)][k]? = some d → (nmF id [112] page).getD (20 + k) 0 = d := fun k d hd => by
    rw [e, List.getD_eq_getElem?_getD, List.getElem?_append_right (by omega), l2, Nat.add_sub_cancel_left, hd]; rfl
  have q : ∀ d : Nat, d < 10 → (dgc d).toNat % 16 = d := by decide
  unfold pageR
  rw [g 0 _ rfl, g 1 _ rfl, g 2 _ rfl, q _ (by omega), q _ (by omega), q _ (by omega)]
  omega

set_option maxRecDepth 10000 in
set_option maxHeartbeats 1000000 in
theorem rParse_ok {l : List UInt8} {σ : St} (hl : l.length ≤ 1000000) : ACalls Tryd.prog n_rParse [.str ⟨l.toArray⟩] σ (fun v σ' => σ' = σ ∧ PRes l v) := by
  refine s_rParse (fun wf => ?_)
  unfold c_rParse
  have hsz : ((⟨l.toArray⟩ : ByteArray).size : Int) = (l.length : Int) := by rw [sz_mk]
  have fin : ∀ ρ', (∀ id what page, V3 id what page → l ≠ nmF id what page) → rvals ρ' σ [.t 2, .t 3, .t 4, .t 5] = some [.int .u64 0, .str ⟨#[]⟩, .int .i64 0, .bool false] → Fin σ [.t 2, .t 3, .t 4, .t 5] (fun v σ' => σ' = σ ∧ PRes l v) .ret ρ' σ := fun ρ' hno hr =>
    Fin.quiet hr (nb_p0 _) (fun _ _ h => h) ⟨rfl, .inr ⟨hno, rfl⟩⟩
  refine T.seq_k (fun K_h0 h0 => ?_)
  refine T.regi hm ?_
  simp only [↓reduceIte, namesOf, List.any, I.names, aopsI, astep, ev, setd, List.set, List.cons_append, List.nil_append, List.length_cons, List.length_nil, List.replicate, then_normal, Bool.or_false, Bool.false_eq_true, up_zero, Nat.reduceAdd, Nat.reduceSub]
  refine h0 _ _ ?_
  try clear h0 K_h0
  refine T.seq_k (fun K_h1 h1 => ?_)
  by_cases hlen : l.length = 20 ∨ l.length = 23
  case neg =>
    have e1 : ((l.length : Int) != 20) = true := by simp; omega
    have e2 : ((l.length : Int) != 23) = true := by simp; omega
    refine T.seq_k (fun K_h0 h0 => ?_)
    refine T.regi hm ?_
    simp only [↓reduceIte, namesOf, List.any, I.names, aopsI, astep, ev, setd, List.set, List.getD, List.getElem?_cons_zero, List.getElem?_cons_succ, then_normal, Option.getD_some, Bool.or_false, Bool.false_eq_true, up_zero, binv, ↓opt_def, eq_self, hsz, e1, e2]
    refine h0 _ _ ?_
    try clear h0 K_h0
    refine T.cond rfl (fun _ => ?_) (fun h => by cases h)
    refine T.seq_k (fun K_h0 h0 => ?_)
    refine T.regi hm ?_
    simp only [↓reduceIte, namesOf, List.any, I.names, aopsI, astep, ev, setd, List.set, then_normal, Bool.or_false, Bool.false_eq_true, up_zero]
    refine h0 _ _ ?_
    try clear h0 K_h0
    refine T.ret (fin _ (fun id what page hv he => hlen ?_) rfl)
    rw [he, nmp_len hv.what]
    split <;> omega
  have key : ∀ ρ', keep [0] 0 ρ' = [.str ⟨l.toArray⟩] ++ List.replicate 58 .any → K_h1 ρ' σ := by
    intro ρ' hρ
    refine h1 _ _ ?_
    try clear h1 K_h1
    refine T.gh (Gh.keep [0]) ?_
    rw [hρ]
    clear hρ ρ'
    have a0 : (0 : Int) ≤ 2 := by decide
    have a1 : (2 : Int) ≤ 18 := by decide
    have a2 : (18 : Int) ≤ (l.length : Int) := by omega
    have a3 : (0 : Int) ≤ 19 := by decide
    have a4 : (19 : Int) ≤ 20 := by decide
    have a5 : (20 : Int) ≤ (l.length : Int) := by omega
    have x1 : (⟨l.toArray⟩ : ByteArray).extract (2 : Int).toNat (18 : Int).toNat = ⟨((l.take 18).drop 2).toArray⟩ := ba_cut
    have x2 : (⟨l.toArray⟩ : ByteArray).extract (19 : Int).toNat (20 : Int).toNat = ⟨((l.take 20).drop 19).toArray⟩ := ba_cut
    refine T.seq_k (fun K_h1 h1 => ?_)
    refine T.regi hm ?_
    simp only [↓reduceIte, namesOf, List.any, I.names, aopsI, astep, ev, setd, List.set, List.getD, List.getElem?_cons_zero, List.getElem?_cons_succ, List.cons_append, List.nil_append, List.replicate, then_normal, Option.getD_some, Bool.or_false, Bool.false_eq_true, up_zero, List.map_cons, List.map_nil, hsz, idx, a0, a1, a2, x1, and_self]
    refine (rValue_ok (by simp; omega)).mono ?_
    rintro v σ ⟨rfl, n, hn, rfl, hc⟩
    try simp only [↓reduceIte, namesOf, List.any, I.names, aops, aopsI, aopsT, qstep, CPt, qget, Tbl.get, astep, ev, setd, List.set, List.getD, List.getElem?_cons_zero, List.getElem?_cons_succ, List.getElem?_nil, List.cons_append, List.nil_append, List.length_cons, List.length_nil, List.replicate, then_normal, inBlock_normal, Option.getD_some, Option.getD_none, Bool.or_false, Bool.or_true, Bool.true_or, Bool.false_or, Bool.false_eq_true, if_false, if_true, up_zero, Nat.reduceAdd, Nat.reduceSub, binv, ↓opt_def, AV.isAny, AV.cells, ldc, List.map_cons, List.map_nil, St.set_next, St.set_same, St.up_next, Int.natCast_nonneg, lt_len, le_len, Int.toNat_natCast, true_and, and_true, eq_self, reduceCtorEq, decide_true, List.length_singleton, er_int, er_bool, er_str, srcR, up_zero]
    refine h1 _ _ ?_
    try clear h1 K_h1
    refine T.seq_k (fun K_h0 h0 => ?_)
    refine T.regi hm ?_
    simp only [↓reduceIte, namesOf, List.any, I.names, aopsI, astep, ev, setd, List.set, List.getD, List.getElem?_cons_zero, List.getElem?_cons_succ, then_normal, Option.getD_some, Bool.or_false, Bool.false_eq_true, up_zero, hsz, idx, a3, a4, a5, x2, and_self]
    refine h0 _ _ ?_
    try clear h0 K_h0
    obtain ⟨what, hwh⟩ : ∃ what, (l.take 20).drop 19 = what := ⟨_, rfl⟩
    have hw1 : what.length = 1 := by rw [← hwh]; simp; omega
    rw [hwh]
    refine T.seq_k (fun K_h0 h0 => ?_)
    refine T.regi hm ?_
    simp only [↓reduceIte, namesOf, List.any, I.names, aopsI, astep, ev, setd, List.set, then_normal, Bool.or_false, Bool.false_eq_true, up_zero]
    refine h0 _ _ ?_
    try clear h0 K_h0
    refine T.seq_k (fun K_h1 h1 => ?_)
    have nxt : ∀ (ρ' : List AV) (pg : Nat), pg ≤ 10000 → (l.length = 23 → pg = pageR l) → (l.length = 20 → pg = 0) → keep [0, 6, 7, 8] 0 ρ' = [.str ⟨l.toArray⟩, .any, .any, .any, .any, .any, .int .u64 (n : Int), .str ⟨what.toArray⟩, .int .i64 (pg : Int)] ++ List.replicate 50 .any → K_h1 ρ' σ := by
      intro ρ' pg hpg hp23 hp20 hρ
      refine h1 _ _ ?_
      try clear h1 K_h1
      refine T.gh (Gh.keep [0, 6, 7, 8]) ?_
      rw [hρ]
      clear hρ ρ'
      have qp : sbinv .eql ⟨what.toArray⟩ ⟨#[112]⟩ = some (.bool (decide (what = [112]))) := by simp only [sbinv, ba_eq what [112]]
      have qn : sbinv .neq ⟨(nmF n what (pg : Int)).toArray⟩ ⟨l.toArray⟩ = some (.bool (!decide (nmF n what (pg : Int) = l))) := by simp only [sbinv, ba_eq]
      have hcanon : ∀ id what' page, V3 id what' page → l = nmF id what' page → n = id ∧ what = what' ∧ (pg : Int) = page ∧ (what = [112] → l.length = 23) := by
        intro id what' page hv he
        obtain ⟨c1, c2⟩ := nm_cuts (id := id) (page := page) hv.what
        have c3 := nmp_len (id := id) (page := page) hv.what
        rw [← he] at c1 c2 c3
        have d2 : what = what' := by rw [← hwh, c2]
        refine ⟨hc id ⟨rfl, hv.1, c1⟩, d2, ?_, fun h => by rw [c3, if_pos (d2 ▸ h)]⟩
        rcases hv.2 with ⟨rfl, h3, h4⟩ | ⟨hw, h3⟩
        · rw [if_pos rfl] at c3
          rw [hp23 c3, he, nm_page]
          omega
        · rw [if_neg (fun h => by subst h; simp at hw)] at c3
          rw [hp20 c3, h3]; rfl
      refine T.seq_k (fun K_h1 h1 => ?_)
      refine T.seq_k (fun K_h2 h2 => ?_)
      by_cases hbad : what = [112] ∧ l.length ≠ 23
      · rw [decide_eq_true hbad.1] at qp
        have e1 : ((l.length : Int) != 23) = true := by simp; omega
        refine T.regi hm ?_
        simp only [↓reduceIte, namesOf, List.any, I.names, aopsI, astep, ev, setd, List.set, List.getD, List.getElem?_cons_zero, List.getElem?_cons_succ, List.cons_append, List.nil_append, List.replicate, then_normal, Option.getD_some, Bool.or_false, Bool.false_eq_true, up_zero, binv, ↓opt_def, eq_self, reduceCtorEq, qp, hsz, e1]
        refine h2 _ _ ?_
        try clear h2 K_h2
        refine T.cond rfl (fun _ => ?_) (fun h => by cases h)
        refine T.seq_k (fun K_h0 h0 => ?_)
        refine T.regi hm ?_
        simp only [↓reduceIte, namesOf, List.any, I.names, aopsI, astep, ev, setd, List.set, then_normal, Bool.or_false, Bool.false_eq_true, up_zero]
        refine h0 _ _ ?_
        try clear h0 K_h0
        refine T.ret (fin _ (fun id what' page hv he => ?_) rfl)
        have := (hcanon _ _ _ hv he).2.2.2 hbad.1
        exact hbad.2 this
      have tru : nmF n what (pg : Int) = l → V3 n what (pg : Int) := by
        intro hnm
        have hw : What what := by
          by_cases h0 : What what
          · exact h0
          · have : nmF n what (pg : Int) = [] := by
              unfold nmF
              rw [if_neg (fun h => h0 (.inl h)), if_neg (fun h => h0 (.inr h))]
            rw [this] at hnm
            rw [← hnm] at hlen
            simp at hlen
        have c3 := nmp_len (id := n) (page := (pg : Int)) hw
        rw [hnm] at c3
        refine ⟨hn, ?_⟩
        by_cases hp : what = [112]
        · rw [if_pos hp] at c3
          have h1 := hp23 c3
          rw [← hnm, hp, nm_page] at h1
          exact .inl ⟨hp, by omega, by omega⟩
        · rw [if_neg hp] at c3
          exact .inr ⟨hw.resolve_left hp, by rw [hp20 c3]; rfl⟩
      have hi : -9223372036854775808 ≤ (pg : Int) ∧ (pg : Int) ≤ 9223372036854775807 := by omega
      by_cases hnm : nmF n what (pg : Int) = l
      · rw [decide_eq_true hnm] at qn
        by_cases hp : what = [112]
        · have h23 : l.length = 23 := Classical.byContradiction fun h => hbad ⟨hp, h⟩
          have e1 : ((l.length : Int) != 23) = false := by simp; omega
          rw [decide_eq_true hp] at qp
          refine T.regi hm ?_
          simp only [↓reduceIte, namesOf, List.any, I.names, aopsI, astep, ev, setd, List.set, List.getD, List.getElem?_cons_zero, List.getElem?_cons_succ, List.cons_append, List.nil_append, List.replicate, then_normal, Option.getD_some, Bool.or_false, Bool.false_eq_true, up_zero, binv, ↓opt_def, List.map_cons, List.map_nil, eq_self, qp, hsz, e1]
          refine (rName_ok (what := what) hn hi (by omega)).mono ?_
          rintro v σ ⟨rfl, rfl⟩
          try simp only [qn, Bool.not_true]
          refine h2 _ _ ?_
          try clear h2 K_h2
          refine T.cond rfl (fun h => by cases h) (fun _ => T.skip ?_)
          refine h1 _ _ ?_
          try clear h1 K_h1
          refine T.seq_k (fun K_h0 h0 => ?_)
          refine T.regi hm ?_
          simp only [↓reduceIte, namesOf, List.any, I.names, aopsI, astep, ev, setd, List.set, List.getD, List.getElem?_cons_zero, List.getElem?_cons_succ, then_normal, Option.getD_some, Bool.or_false, Bool.false_eq_true, up_zero]
          refine h0 _ _ ?_
          try clear h0 K_h0
          exact T.ret (Fin.quiet rfl ⟨trivial, trivial, trivial, trivial, trivial⟩ (fun _ _ h => h) ⟨rfl, .inl ⟨n, what, _, tru hnm, hnm.symm, rfl⟩⟩)
        · rw [decide_eq_false hp] at qp
          refine T.regi hm ?_
          simp only [↓reduceIte, namesOf, List.any, I.names, aopsI, astep, ev, setd, List.set, List.getD, List.getElem?_cons_zero, List.getElem?_cons_succ, List.cons_append, List.nil_append, List.replicate, then_normal, Option.getD_some, Bool.or_false, Bool.false_eq_true, up_zero, ↓opt_def, List.map_cons, List.map_nil, eq_self, qp]
          refine (rName_ok (what := what) hn hi (by omega)).mono ?_
          rintro v σ ⟨rfl, rfl⟩
          try simp only [qn, Bool.not_true]
          refine h2 _ _ ?_
          try clear h2 K_h2
          refine T.cond rfl (fun h => by cases h) (fun _ => T.skip ?_)
          refine h1 _ _ ?_
          try clear h1 K_h1
          refine T.seq_k (fun K_h0 h0 => ?_)
          refine T.regi hm ?_
          simp only [↓reduceIte, namesOf, List.any, I.names, aopsI, astep, ev, setd, List.set, List.getD, List.getElem?_cons_zero, List.getElem?_cons_succ, then_normal, Option.getD_some, Bool.or_false, Bool.false_eq_true, up_zero]
          refine h0 _ _ ?_
          try clear h0 K_h0
          exact T.ret (Fin.quiet rfl ⟨trivial, trivial, trivial, trivial, trivial⟩ (fun _ _ h => h) ⟨rfl, .inl ⟨n, what, _, tru hnm, hnm.symm, rfl⟩⟩)
      · rw [decide_eq_false hnm] at qn
        have hno : ∀ id what' page, V3 id what' page → l ≠ nmF id what' page := fun id what' page hv he => hnm (by
          obtain ⟨h1, h2, h3, _⟩ := hcanon _ _ _ hv he
          rw [h1, h2, h3, he])
        by_cases hp : what = [112]
        · have h23 : l.length = 23 := Classical.byContradiction fun h => hbad ⟨hp, h⟩
          have e1 : ((l.length : Int) != 23) = false := by simp; omega
          rw [decide_eq_true hp] at qp
          refine T.regi hm ?_
          simp only [↓reduceIte, namesOf, List.any, I.names, aopsI, astep, ev, setd, List.set, List.getD, List.getElem?_cons_zero, List.getElem?_cons_succ, List.cons_append, List.nil_append, List.replicate, then_normal, Option.getD_some, Bool.or_false, Bool.false_eq_true, up_zero, binv, ↓opt_def, List.map_cons, List.map_nil, eq_self, qp, hsz, e1]
          refine (rName_ok (what := what) hn hi (by omega)).mono ?_
          rintro v σ ⟨rfl, rfl⟩
          try simp only [qn, Bool.not_false]
          refine h2 _ _ ?_
          try clear h2 K_h2
          refine T.cond rfl (fun _ => ?_) (fun h => by cases h)
          refine T.seq_k (fun K_h0 h0 => ?_)
          refine T.regi hm ?_
          simp only [↓reduceIte, namesOf, List.any, I.names, aopsI, astep, ev, setd, List.set, then_normal, Bool.or_false, Bool.false_eq_true, up_zero]
          refine h0 _ _ ?_
          try clear h0 K_h0
          exact T.ret (fin _ hno rfl)
        · rw [decide_eq_false hp] at qp
          refine T.regi hm ?_
          simp only [↓reduceIte, namesOf, List.any, I.names, aopsI, astep, ev, setd, List.set, List.getD, List.getElem?_cons_zero, List.getElem?_cons_succ, List.cons_append, List.nil_append, List.replicate, then_normal, Option.getD_some, Bool.or_false, Bool.false_eq_true, up_zero, ↓opt_def, List.map_cons, List.map_nil, eq_self, qp]
          refine (rName_ok (what := what) hn hi (by omega)).mono ?_
          rintro v σ ⟨rfl, rfl⟩
          try simp only [qn, Bool.not_false]
          refine h2 _ _ ?_
          try clear h2 K_h2
          refine T.cond rfl (fun _ => ?_) (fun h => by cases h)
          refine T.seq_k (fun K_h0 h0 => ?_)
          refine T.regi hm ?_
          simp only [↓reduceIte, namesOf, List.any, I.names, aopsI, astep, ev, setd, List.set, then_normal, Bool.or_false, Bool.false_eq_true, up_zero]
          refine h0 _ _ ?_
          try clear h0 K_h0
          exact T.ret (fin _ hno rfl)
    rcases hlen with h20 | h23
    · have e1 : ((l.length : Int) == 23) = false := by simp; omega
      refine T.seq_k (fun K_h0 h0 => ?_)
      refine T.regi hm ?_
      simp only [↓reduceIte, namesOf, List.any, I.names, aopsI, astep, ev, setd, List.set, List.getD, List.getElem?_cons_zero, List.getElem?_cons_succ, then_normal, Option.getD_some, Bool.or_false, Bool.false_eq_true, up_zero, binv, ↓opt_def, eq_self, hsz, e1]
      refine h0 _ _ ?_
      try clear h0 K_h0
      refine T.cond rfl (fun h => by cases h) (fun _ => T.skip ?_)
      exact nxt _ 0 (by omega) (fun h => by omega) (fun _ => rfl) rfl
    · have e1 : ((23 : Int) == 23) = true := rfl
      have hs23 : ((⟨l.toArray⟩ : ByteArray).size : Int) = 23 := by rw [sz_mk, h23]; rfl
      have gd : ∀ k, k < 23 → (⟨l.toArray⟩ : ByteArray).data.toList[k]? = some (l.getD k 0) := fun k hk => by
        show l[k]? = _
        rw [List.getD_eq_getElem?_getD, List.getElem?_eq_getElem (by omega)]; rfl
      have g0 := gd (20 : Int).toNat (by decide)
      have g1 := gd (21 : Int).toNat (by decide)
      have g2 := gd (22 : Int).toNat (by decide)
      have z16 : ((16 : Int) = 0) = False := eq_false (by decide)
      have md : ∀ c : UInt8, ((c.toNat : Int)).tmod 16 = ((c.toNat % 16 : Nat) : Int) := fun c => tmodN _ 16
      have l0 : (l.getD 20 0).toNat % 16 < 16 := Nat.mod_lt _ (by omega)
      have l1 : (l.getD 21 0).toNat % 16 < 16 := Nat.mod_lt _ (by omega)
      have l2 : (l.getD 22 0).toNat % 16 < 16 := Nat.mod_lt _ (by omega)
      have b20 : (0 : Int) ≤ 20 ∧ (20 : Int) < 23 := by decide
      have b21 : (0 : Int) ≤ 21 ∧ (21 : Int) < 23 := by decide
      have b22 : (0 : Int) ≤ 22 ∧ (22 : Int) < 23 := by decide
      have hpr : pageR l = 100 * ((l.getD 20 0).toNat % 16) + 10 * ((l.getD 21 0).toNat % 16) + (l.getD 22 0).toNat % 16 := rfl
      have m0 := md (l.getD (20 : Int).toNat 0)
      have m1 := md (l.getD (21 : Int).toNat 0)
      have m2 := md (l.getD (22 : Int).toNat 0)
      generalize hx0 : l.getD (20 : Int).toNat 0 = c0 at g0 m0
      generalize hx1 : l.getD (21 : Int).toNat 0 = c1 at g1 m1
      generalize hx2 : l.getD (22 : Int).toNat 0 = c2 at g2 m2
      have hx0' : l.getD 20 0 = c0 := hx0
      have hx1' : l.getD 21 0 = c1 := hx1
      have hx2' : l.getD 22 0 = c2 := hx2
      rw [hx0'] at l0 hpr
      rw [hx1'] at l1 hpr
      rw [hx2'] at l2 hpr
      generalize c0.toNat % 16 = d0 at m0 l0 hpr
      generalize c1.toNat % 16 = d1 at m1 l1 hpr
      generalize c2.toNat % 16 = d2 at m2 l2 hpr
      have wd : ∀ d : Nat, d < 16 → IntKind.i64.wrap (d : Int) = (d : Int) := fun d hd => wrap64 (by omega) (by omega)
      have w0 := wd d0 l0
      have w1 := wd d1 l1
      have w2 := wd d2 l2
      have v0 : IntKind.i64.wrap (100 * (d0 : Int)) = ((100 * d0 : Nat) : Int) := by rw [wrap64 (by omega) (by omega)]; omega
      have v1 : IntKind.i64.wrap (10 * (d1 : Int)) = ((10 * d1 : Nat) : Int) := by rw [wrap64 (by omega) (by omega)]; omega
      have v2 : IntKind.i64.wrap (((100 * d0 : Nat) : Int) + ((10 * d1 : Nat) : Int)) = ((100 * d0 + 10 * d1 : Nat) : Int) := by rw [wrap64 (by omega) (by omega)]; omega
      have v3 : IntKind.i64.wrap (((100 * d0 + 10 * d1 : Nat) : Int) + (d2 : Int)) = ((pageR l : Nat) : Int) := by rw [hpr, wrap64 (by omega) (by omega)]; omega
      refine T.seq_k (fun K_h0 h0 => ?_)
      refine T.regi hm ?_
      simp only [↓reduceIte, namesOf, List.any, I.names, aopsI, astep, ev, setd, List.set, List.getD, List.getElem?_cons_zero, List.getElem?_cons_succ, then_normal, Option.getD_some, Bool.or_false, Bool.false_eq_true, up_zero, binv, ↓opt_def, eq_self, hs23, e1]
      refine h0 _ _ ?_
      try clear h0 K_h0
      refine T.cond rfl (fun _ => ?_) (fun h => by cases h)
      refine T.regi hm ?_
      simp only [↓reduceIte, namesOf, List.any, I.names, aopsI, astep, ev, setd, List.set, List.getD, List.getElem?_cons_zero, List.getElem?_cons_succ, then_normal, Option.getD_some, Bool.or_false, Bool.false_eq_true, up_zero, binv, ↓opt_def, eq_self, hs23, b20, b21, b22, g0, g1, g2, z16, m0, m1, m2, w0, w1, w2, v0, v1, v2, v3, and_self]
      exact nxt _ (pageR l) (by rw [hpr]; omega) (fun _ => rfl) (fun h => by omega) rfl
  rcases hlen with h20 | h23
  · have e1 : ((l.length : Int) != 20) = false := by simp; omega
    refine T.seq_k (fun K_h0 h0 => ?_)
    refine T.regi hm ?_
    simp only [↓reduceIte, namesOf, List.any, I.names, aopsI, astep, ev, setd, List.set, List.getD, List.getElem?_cons_zero, List.getElem?_cons_succ, then_normal, Option.getD_some, Bool.or_false, Bool.false_eq_true, up_zero, binv, ↓opt_def, eq_self, hsz, e1]
    refine h0 _ _ ?_
    try clear h0 K_h0
    refine T.cond rfl (fun h => by cases h) (fun _ => T.skip ?_)
    exact key _ rfl
  · have e1 : ((l.length : Int) != 20) = true := by simp; omega
    have e2 : ((l.length : Int) != 23) = false := by simp; omega
    refine T.seq_k (fun K_h0 h0 => ?_)
    refine T.regi hm ?_
    simp only [↓reduceIte, namesOf, List.any, I.names, aopsI, astep, ev, setd, List.set, List.getD, List.getElem?_cons_zero, List.getElem?_cons_succ, then_normal, Option.getD_some, Bool.or_false, Bool.false_eq_true, up_zero, binv, ↓opt_def, eq_self, hsz, e1, e2]
    refine h0 _ _ ?_
    try clear h0 K_h0
    refine T.cond rfl (fun h => by cases h) (fun _ => T.skip ?_)
    exact key _ rfl

end Go.VL

namespace Go.VL

open Go.Proofs

def metAV (l : List Nat) : List (AV × AV) := l.map fun n : Nat => (.int .u64 (n : Int), .bool true)

theorem met_put (l : List Nat) (n : Nat) (h : l.contains n = false) : mput (.int .u64 (n : Int)) (.bool true) (metAV l) = metAV (l ++ [n]) := by
  induction l with
  | nil => rfl
  | cons a r ih =>
    unfold metAV at ih ⊢
    simp only [List.contains_cons, Bool.or_eq_false_iff] at h
    have h1 : ((n : Int) == (a : Int)) = false := by have := h.1; simp at this ⊢; omega
    simp only [List.map_cons, mput, keq, if_true, h1, ih h.2, List.cons_append]

structure OneSt (σ σ' : St) (a m : Nat) (t : Tc) (l : List Nat) : Prop where
  a0 : σ.next ≤ a
  m0 : σ.next ≤ m
  a1 : a < σ'.next
  m1 : m < σ'.next
  obj : σ'.res a = some (.obj t.av.cells)
  map : σ'.res m = some (.map (metAV l) (List.range l.length) l.length)
  old : ∀ n r, σ.res n = some r → σ'.res n = some r

theorem OneSt.put {σ σ' : St} {a m : Nat} {t : Tc} {l : List Nat} {n : Nat} (wf : WF σ) (ham : a ≠ m) (h : OneSt σ σ' a m t l) (hn : l.contains n = false) : OneSt σ (σ'.set m (.map (mput (.int .u64 (n : Int)) (.bool true) (metAV l)) (List.range l.length ++ [l.length]) (l.length + 1))) a m t (l ++ [n]) where
  a0 := h.a0
  m0 := h.m0
  a1 := h.a1
  m1 := h.m1
  obj := by rw [St.set_other _ _ ham]; exact h.obj
  map := by rw [St.set_same, met_put l n hn, List.length_append, List.length_singleton, List.range_succ]
  old := fun n r' hr => by
    have hn : n < σ.next := by
      rcases Nat.lt_or_ge n σ.next with h' | h'
      · exact h'
      · rw [wf n h'] at hr; cases hr
    rw [St.set_other _ _ (by have := h.m0; omega)]; exact h.old n r' hr

end Go.VL

namespace Go.VL

open Go.Proofs

/-- a span whose Ids are words -/
def Sp.wd (s : Sp) : Prop := s.tr < 18446744073709551616 ∧ s.id < 18446744073709551616

end Go.VL

namespace Go.VL

open Go.Proofs

/-- an end that is owned, and what was owned ahead of it -/
structure Tp (σ σ' : St) (g k : Nat) : Prop where
  lo : σ.next ≤ g
  hi : g < σ'.next
  at_ : σ'.res g = some (.tip k)
  old : ∀ n x, σ.res n = some x → σ'.res n = some x

theorem Tp.mv {σ σ' : St} {g g2 k : Nat} (wf : WF σ) (h : Tp σ σ' g k) (hlo : σ.next ≤ g2) (hhi : g2 < σ'.next) : Tp σ ((σ'.del g).set g2 (.tip k)) g2 k :=
  ⟨hlo, by simpa using hhi, by simp, fun n x hr => by
    have hn : n < σ.next := by
      rcases Nat.lt_or_ge n σ.next with h' | h'
      · exact h'
      · rw [wf n h'] at hr; cases hr
    have h1 := h.lo
    rw [St.set_other _ _ (by omega)]
    simp only [St.del]
    rw [if_neg (by omega)]; exact h.old n x hr⟩

theorem Tp.up {σ σ' : St} {g k : Nat} (h : Tp σ σ' g k) (n : Nat) : Tp σ (σ'.up n) g k := ⟨h.lo, Nat.lt_of_lt_of_le h.hi (Nat.le_add_right _ _), h.at_, h.old⟩

end Go.VL

namespace Go.VL

open Go.Proofs

/-- a reader (an owned thing nm), a row that grows, and names that nobody knows -/
structure Rk (σ t : St) (nm : Nat) (r : Res) (k : Nat) (v : Ver) : Prop where
  like : Like σ t
  lo : σ.next ≤ nm
  hi : nm < t.next
  at_ : t.res nm = some r
  ver : v = .nil ∨ ∃ g, v = .tip g ∧ g ≠ nm ∧ σ.next ≤ g ∧ g < t.next ∧ t.res g = some (.tip k)

theorem Rk.set {σ t : St} {nm k : Nat} {r : Res} {v : Ver} (h : Rk σ t nm r k v) (r' : Res) : Rk σ (t.set nm r') nm r' k v :=
  ⟨h.like.set _ h.lo, h.lo, h.hi, by simp, h.ver.imp id fun ⟨g, a1, a2, a3, a4, a5⟩ => ⟨g, a1, a2, a3, a4, by rw [St.set_other _ _ a2]; exact a5⟩⟩

theorem Rk.up {σ t : St} {nm k : Nat} {r : Res} {v : Ver} (h : Rk σ t nm r k v) (n : Nat) : Rk σ (t.up n) nm r k v :=
  ⟨h.like.up n, h.lo, Nat.lt_of_lt_of_le h.hi (Nat.le_add_right _ _), h.at_, h.ver.imp id fun ⟨g, a1, a2, a3, a4, a5⟩ => ⟨g, a1, a2, a3, Nat.lt_of_lt_of_le a4 (Nat.le_add_right _ _), a5⟩⟩

theorem Rk.lt {σ t : St} {nm k : Nat} {r : Res} {v : Ver} (h : Rk σ t nm r k v) {g : Nat} (hv : v = .tip g) : g < t.next := by
  rcases h.ver with e | ⟨g', e, _, _, h4, _⟩
  · rw [hv] at e; cases e
  · rw [hv] at e; cases e; exact h4

end Go.VL

namespace Go.VL

open Go.Proofs

/-- the reader's place in what is left of the bytes -/
def sh (k : Nat) (s : Rs) : Rs := ⟨s.at_ - k, if s.bad = -1 then -1 else s.bad - k⟩

structure SH (k : Nat) (b : List UInt8) (s : Rs) : Prop where
  ok : s.ok b
  len : k ≤ b.length
  lo : (k : Int) ≤ s.at_
  bad : s.bad = -1 ∨ (k : Int) ≤ s.bad

theorem SH.neg {k : Nat} {b : List UInt8} {s : Rs} (h : SH k b s) : (sh k s).bad = -1 ↔ s.bad = -1 := by
  unfold sh; have := h.bad
  split <;> simp_all <;> omega

theorem SH.pos {k : Nat} {b : List UInt8} {s : Rs} (h : SH k b s) : 0 ≤ (sh k s).bad ↔ 0 ≤ s.bad := by
  unfold sh; have := h.bad
  split <;> simp_all <;> omega

theorem SH.rt {k : Nat} {b : List UInt8} {s : Rs} (h : SH k b s) (w : Int) : rT (b.drop k) (sh k s) w = rT b s w := by
  have e := h.neg
  have := h.len
  unfold rT
  rw [Bool.eq_iff_iff, decide_eq_true_eq, decide_eq_true_eq, e, List.length_drop]
  unfold sh
  constructor <;> rintro ⟨h1, h2⟩ <;> refine ⟨h1, ?_⟩ <;> simp only [] at * <;> omega

theorem SH.rw {k : Nat} {b : List UInt8} {s : Rs} (h : SH k b s) (w : Nat) : rW (b.drop k) (sh k s) w = rW b s w := by
  unfold rW
  rw [h.rt]
  have : (b.drop k).drop (sh k s).at_.toNat = b.drop s.at_.toNat := by
    rw [List.drop_drop]; unfold sh; have := h.lo; congr 1; simp only []; omega
  rw [this]

end Go.VL

namespace Go.VL

open Go.Proofs

-- tb05: not of this seat

/-- traces whose numbers are words -/
def Tc.wd (t : Tc) : Prop := t.id < 18446744073709551616 ∧ ∀ s ∈ t.sp, s.wd

end Go.VL

namespace Go.VL

open Go.Proofs

structure Mt where
  id : Nat
  level : Int
  st : Int
  en : Int
  pages : Int
  traces : Int
  deriving DecidableEq

abbrev mtC (m : Mt) : List AV := [.int .u64 (m.id : Int), .int .i64 m.level, .int .i64 m.st, .int .i64 m.en, .int .i64 m.pages, .int .i64 m.traces]

/-- do metas rise by Id? -/
abbrev RisM (l : List Mt) : Prop := l.Pairwise fun x y => x.id < y.id

theorem RisM.bad {l : List Mt} {i : Nat} {x y : Mt} (hi : 0 < i) (hx : l[i - 1]? = some x) (hy : l[i]? = some y) (hlt : ¬ x.id < y.id) : ¬ RisM l := fun h => by
  obtain ⟨hil, rfl⟩ := List.getElem?_eq_some_iff.1 hy
  obtain ⟨hil2, rfl⟩ := List.getElem?_eq_some_iff.1 hx
  exact hlt (List.pairwise_iff_getElem.1 h _ _ hil2 hil (by omega))

end Go.VL

namespace Go.VL

open Go.Proofs

abbrev mayM (m : Mt) : Prop := (m.id : Int) ≥ 1 ∧ m.level ≥ 0 ∧ m.level ≤ 10 ∧ m.st ≥ 0 ∧ m.st ≤ m.en ∧ m.en ≤ 1099511627776 ∧ m.pages ≥ 1 ∧ m.pages ≤ 200 ∧ m.traces ≥ m.pages ∧ m.traces ≤ m.pages * 64

set_option maxRecDepth 10000 in
set_option maxHeartbeats 1000000 in
theorem mMay_ok {m : Mt} {σ : St} : ACalls Tryd.prog n_mMay [.agg [.int .u64 (m.id : Int), .int .i64 m.level, .int .i64 m.st, .int .i64 m.en, .int .i64 m.pages, .int .i64 m.traces]] σ (fun v σ' => v = .bool (decide (mayM m)) ∧ σ' = σ) := by
  refine s_mMay (fun wf => ?_)
  unfold c_mMay
  refine T.seq_k (fun K_h0 h0 => ?_)
  refine T.regi hm ?_
  simp only [↓reduceIte, namesOf, List.any, I.names, aopsI, astep, ev, setd, List.set, List.getD, List.getElem?_cons_zero, List.cons_append, List.nil_append, List.length_cons, List.length_nil, List.replicate, then_normal, Option.getD_some, Bool.or_false, Bool.false_eq_true, Nat.reduceAdd, Nat.reduceSub, AV.isAny, AV.cells, eq_self]
  refine h0 _ _ ?_
  try clear h0 K_h0
  have hb : ((σ.up 2).set (σ.next + 0) (.obj [.int .u64 (m.id : Int), .int .i64 m.level, .int .i64 m.st, .int .i64 m.en, .int .i64 m.pages, .int .i64 m.traces])).res (σ.next + 0) = some (.obj [.int .u64 (m.id : Int), .int .i64 m.level, .int .i64 m.st, .int .i64 m.en, .int .i64 m.pages, .int .i64 m.traces]) := St.set_same _ _ _
  have hL : Like σ ((σ.up 2).set (σ.next + 0) (.obj [.int .u64 (m.id : Int), .int .i64 m.level, .int .i64 m.st, .int .i64 m.en, .int .i64 m.pages, .int .i64 m.traces])) := (Like.refl σ).box (n := 2) (i := 0) _
  generalize ((σ.up 2).set (σ.next + 0) (.obj [.int .u64 (m.id : Int), .int .i64 m.level, .int .i64 m.st, .int .i64 m.en, .int .i64 m.pages, .int .i64 m.traces])) = t at hb hL ⊢
  generalize σ.next + 0 = b at hb ⊢
  by_cases c1 : (m.id : Int) ≥ 1
  case neg =>
    have f1 : decide ((m.id : Int) ≥ 1) = false := decide_eq_false c1
    have hm0 : decide (mayM m) = false := decide_eq_false (fun h => c1 h.1)
    refine T.seq_k (fun K_h0 h0 => ?_)
    refine T.regi hm ?_
    simp only [↓reduceIte, namesOf, List.any, I.names, aopsI, astep, ev, setd, List.set, List.getD, List.getElem?_cons_zero, List.getElem?_cons_succ, then_normal, Option.getD_some, Bool.or_false, Bool.false_eq_true, up_zero, binv, ↓opt_def, ldc, eq_self, hb, Nat.zero_add, f1]
    refine h0 _ _ ?_
    try clear h0 K_h0
    exact T.ret (Fin.quiet rfl trivial (hL.quiet wf) ⟨by rw [hm0]; rfl, rfl⟩)
  have f1 : decide ((m.id : Int) ≥ 1) = true := decide_eq_true c1
  by_cases c2 : m.level ≥ 0
  case neg =>
    have f2 : decide (m.level ≥ 0) = false := decide_eq_false c2
    have hm0 : decide (mayM m) = false := decide_eq_false (fun h => c2 h.2.1)
    refine T.seq_k (fun K_h0 h0 => ?_)
    refine T.regi hm ?_
    simp only [↓reduceIte, namesOf, List.any, I.names, aopsI, astep, ev, setd, List.set, List.getD, List.getElem?_cons_zero, List.getElem?_cons_succ, then_normal, Option.getD_some, Bool.or_false, Bool.false_eq_true, up_zero, binv, ↓opt_def, ldc, eq_self, hb, Nat.zero_add, f1, f2]
    refine h0 _ _ ?_
    try clear h0 K_h0
    exact T.ret (Fin.quiet rfl trivial (hL.quiet wf) ⟨by rw [hm0]; rfl, rfl⟩)
  have f2 : decide (m.level ≥ 0) = true := decide_eq_true c2
  by_cases c3 : m.level ≤ 10
  case neg =>
    have f3 : decide (m.level ≤ 10) = false := decide_eq_false c3
    have hm0 : decide (mayM m) = false := decide_eq_false (fun h => c3 h.2.2.1)
    refine T.seq_k (fun K_h0 h0 => ?_)
    refine T.regi hm ?_
    simp only [↓reduceIte, namesOf, List.any, I.names, aopsI, astep, ev, setd, List.set, List.getD, List.getElem?_cons_zero, List.getElem?_cons_succ, then_normal, Option.getD_some, Bool.or_false, Bool.false_eq_true, up_zero, binv, ↓opt_def, ldc, eq_self, hb, Nat.zero_add, f1, f2, f3]
    refine h0 _ _ ?_
    try clear h0 K_h0
    exact T.ret (Fin.quiet rfl trivial (hL.quiet wf) ⟨by rw [hm0]; rfl, rfl⟩)
  have f3 : decide (m.level ≤ 10) = true := decide_eq_true c3
  by_cases c4 : m.st ≥ 0
  case neg =>
    have f4 : decide (m.st ≥ 0) = false := decide_eq_false c4
    have hm0 : decide (mayM m) = false := decide_eq_false (fun h => c4 h.2.2.2.1)
    refine T.seq_k (fun K_h0 h0 => ?_)
    refine T.regi hm ?_
    simp only [↓reduceIte, namesOf, List.any, I.names, aopsI, astep, ev, setd, List.set, List.getD, List.getElem?_cons_zero, List.getElem?_cons_succ, then_normal, Option.getD_some, Bool.or_false, Bool.false_eq_true, up_zero, binv, ↓opt_def, ldc, eq_self, hb, Nat.zero_add, f1, f2, f3, f4]
    refine h0 _ _ ?_
    try clear h0 K_h0
    exact T.ret (Fin.quiet rfl trivial (hL.quiet wf) ⟨by rw [hm0]; rfl, rfl⟩)
  have f4 : decide (m.st ≥ 0) = true := decide_eq_true c4
  by_cases c5 : m.st ≤ m.en
  case neg =>
    have f5 : decide (m.st ≤ m.en) = false := decide_eq_false c5
    have hm0 : decide (mayM m) = false := decide_eq_false (fun h => c5 h.2.2.2.2.1)
    refine T.seq_k (fun K_h0 h0 => ?_)
    refine T.regi hm ?_
    simp only [↓reduceIte, namesOf, List.any, I.names, aopsI, astep, ev, setd, List.set, List.getD, List.getElem?_cons_zero, List.getElem?_cons_succ, then_normal, Option.getD_some, Bool.or_false, Bool.false_eq_true, up_zero, binv, ↓opt_def, ldc, eq_self, hb, Nat.zero_add, f1, f2, f3, f4, f5]
    refine h0 _ _ ?_
    try clear h0 K_h0
    exact T.ret (Fin.quiet rfl trivial (hL.quiet wf) ⟨by rw [hm0]; rfl, rfl⟩)
  have f5 : decide (m.st ≤ m.en) = true := decide_eq_true c5
  by_cases c6 : m.en ≤ 1099511627776
  case neg =>
    have f6 : decide (m.en ≤ 1099511627776) = false := decide_eq_false c6
    have hm0 : decide (mayM m) = false := decide_eq_false (fun h => c6 h.2.2.2.2.2.1)
    refine T.seq_k (fun K_h0 h0 => ?_)
    refine T.regi hm ?_
    simp only [↓reduceIte, namesOf, List.any, I.names, aopsI, astep, ev, setd, List.set, List.getD, List.getElem?_cons_zero, List.getElem?_cons_succ, then_normal, Option.getD_some, Bool.or_false, Bool.false_eq_true, up_zero, binv, ↓opt_def, ldc, eq_self, hb, Nat.zero_add, f1, f2, f3, f4, f5, f6]
    refine h0 _ _ ?_
    try clear h0 K_h0
    exact T.ret (Fin.quiet rfl trivial (hL.quiet wf) ⟨by rw [hm0]; rfl, rfl⟩)
  have f6 : decide (m.en ≤ 1099511627776) = true := decide_eq_true c6
  by_cases c7 : m.pages ≥ 1
  case neg =>
    have f7 : decide (m.pages ≥ 1) = false := decide_eq_false c7
    have hm0 : decide (mayM m) = false := decide_eq_false (fun h => c7 h.2.2.2.2.2.2.1)
    refine T.seq_k (fun K_h0 h0 => ?_)
    refine T.regi hm ?_
    simp only [↓reduceIte, namesOf, List.any, I.names, aopsI, astep, ev, setd, List.set, List.getD, List.getElem?_cons_zero, List.getElem?_cons_succ, then_normal, Option.getD_some, Bool.or_false, Bool.false_eq_true, up_zero, binv, ↓opt_def, ldc, eq_self, hb, Nat.zero_add, f1, f2, f3, f4, f5, f6, f7]
    refine h0 _ _ ?_
    try clear h0 K_h0
    exact T.ret (Fin.quiet rfl trivial (hL.quiet wf) ⟨by rw [hm0]; rfl, rfl⟩)
  have f7 : decide (m.pages ≥ 1) = true := decide_eq_true c7
  by_cases c8 : m.pages ≤ 200
  case neg =>
    have f8 : decide (m.pages ≤ 200) = false := decide_eq_false c8
    have hm0 : decide (mayM m) = false := decide_eq_false (fun h => c8 h.2.2.2.2.2.2.2.1)
    refine T.seq_k (fun K_h0 h0 => ?_)
    refine T.regi hm ?_
    simp only [↓reduceIte, namesOf, List.any, I.names, aopsI, astep, ev, setd, List.set, List.getD, List.getElem?_cons_zero, List.getElem?_cons_succ, then_normal, Option.getD_some, Bool.or_false, Bool.false_eq_true, up_zero, binv, ↓opt_def, ldc, eq_self, hb, Nat.zero_add, f1, f2, f3, f4, f5, f6, f7, f8]
    refine h0 _ _ ?_
    try clear h0 K_h0
    exact T.ret (Fin.quiet rfl trivial (hL.quiet wf) ⟨by rw [hm0]; rfl, rfl⟩)
  have f8 : decide (m.pages ≤ 200) = true := decide_eq_true c8
  by_cases c9 : m.traces ≥ m.pages
  case neg =>
    have f9 : decide (m.traces ≥ m.pages) = false := decide_eq_false c9
    have hm0 : decide (mayM m) = false := decide_eq_false (fun h => c9 h.2.2.2.2.2.2.2.2.1)
    refine T.seq_k (fun K_h0 h0 => ?_)
    refine T.regi hm ?_
    simp only [↓reduceIte, namesOf, List.any, I.names, aopsI, astep, ev, setd, List.set, List.getD, List.getElem?_cons_zero, List.getElem?_cons_succ, then_normal, Option.getD_some, Bool.or_false, Bool.false_eq_true, up_zero, binv, ↓opt_def, ldc, eq_self, hb, Nat.zero_add, f1, f2, f3, f4, f5, f6, f7, f8, f9]
    refine h0 _ _ ?_
    try clear h0 K_h0
    exact T.ret (Fin.quiet rfl trivial (hL.quiet wf) ⟨by rw [hm0]; rfl, rfl⟩)
  have f9 : decide (m.traces ≥ m.pages) = true := decide_eq_true c9
  have hw : IntKind.i64.wrap (m.pages * 64) = m.pages * 64 := wrap64 (by omega) (by omega)
  by_cases c10 : m.traces ≤ m.pages * 64
  case neg =>
    have f10 : decide (m.traces ≤ m.pages * 64) = false := decide_eq_false c10
    have hm0 : decide (mayM m) = false := decide_eq_false (fun h => c10 h.2.2.2.2.2.2.2.2.2)
    refine T.seq_k (fun K_h0 h0 => ?_)
    refine T.regi hm ?_
    simp only [↓reduceIte, namesOf, List.any, I.names, aopsI, astep, ev, setd, List.set, List.getD, List.getElem?_cons_zero, List.getElem?_cons_succ, then_normal, Option.getD_some, Bool.or_false, Bool.false_eq_true, up_zero, binv, ↓opt_def, ldc, eq_self, hb, Nat.zero_add, f1, f2, f3, f4, f5, f6, f7, f8, f9, f10, hw]
    refine h0 _ _ ?_
    try clear h0 K_h0
    exact T.ret (Fin.quiet rfl trivial (hL.quiet wf) ⟨by rw [hm0]; rfl, rfl⟩)
  have f10 : decide (m.traces ≤ m.pages * 64) = true := decide_eq_true c10
  have hm0 : decide (mayM m) = true := decide_eq_true ⟨c1, c2, c3, c4, c5, c6, c7, c8, c9, c10⟩
  refine T.seq_k (fun K_h0 h0 => ?_)
  refine T.regi hm ?_
  simp only [↓reduceIte, namesOf, List.any, I.names, aopsI, astep, ev, setd, List.set, List.getD, List.getElem?_cons_zero, List.getElem?_cons_succ, then_normal, Option.getD_some, Bool.or_false, Bool.false_eq_true, up_zero, binv, ↓opt_def, ldc, eq_self, hb, Nat.zero_add, f1, f2, f3, f4, f5, f6, f7, f8, f9, f10, hw]
  refine h0 _ _ ?_
  try clear h0 K_h0
  exact T.ret (Fin.quiet rfl trivial (hL.quiet wf) ⟨by rw [hm0]; rfl, rfl⟩)

end Go.VL

namespace Go.VL

open Go.Proofs

theorem mPut_no {m : Mt} {σ : St} (hm0 : ¬ mayM m) : ACalls Tryd.prog n_mPut [.agg (mtC m)] σ (fun v σ' => v = .tup [.sl [] .nil, .iface tCode (.int .i64 1)] ∧ σ' = σ) := by
  refine s_mPut (fun wf => ?_)
  unfold c_mPut
  refine T.seq_k (fun K_h0 h0 => ?_)
  refine T.regi hm ?_
  simp only [↓reduceIte, namesOf, List.any, I.names, aopsI, astep, ev, setd, List.set, List.getD, List.getElem?_cons_zero, List.cons_append, List.nil_append, List.length_cons, List.length_nil, List.replicate, then_normal, Option.getD_some, Bool.or_false, Bool.false_eq_true, Nat.reduceAdd, Nat.reduceSub, AV.isAny, AV.cells, eq_self]
  refine h0 _ _ ?_
  try clear h0 K_h0
  have hb : ((σ.up 3).set (σ.next + 0) (.obj (mtC m))).res (σ.next + 0) = some (.obj (mtC m)) := St.set_same _ _ _
  have hL : Like σ ((σ.up 3).set (σ.next + 0) (.obj (mtC m))) := (Like.refl σ).box (n := 3) (i := 0) _
  generalize ((σ.up 3).set (σ.next + 0) (.obj (mtC m))) = t at hb hL ⊢
  generalize σ.next + 0 = b at hb ⊢
  refine T.seq_k (fun K_h1 h1 => ?_)
  refine T.seq_k (fun K_h2 h2 => ?_)
  refine T.regi hm ?_
  simp only [↓reduceIte, namesOf, List.any, I.names, aopsI, astep, ev, setd, List.set, List.getD, List.getElem?_cons_zero, List.getElem?_cons_succ, List.length_cons, List.length_nil, then_normal, Option.getD_some, Bool.or_false, Bool.false_eq_true, up_zero, Nat.reduceAdd, ↓opt_def, ldc, List.map_cons, List.map_nil, hb, Nat.zero_add, Nat.zero_add, List.take, List.drop, Nat.reduceLeDiff]
  refine mMay_ok.mono ?_
  rintro v σ1 ⟨rfl, rfl⟩
  try simp only [decide_eq_false hm0, Bool.not_false]
  refine h2 _ _ ?_
  try clear h2 K_h2
  refine T.cond rfl (fun _ => ?_) (fun h => by cases h)
  refine T.seq_k (fun K_h0 h0 => ?_)
  refine T.regi hm ?_
  simp only [↓reduceIte, namesOf, List.any, I.names, aopsI, astep, ev, setd, List.set, List.getD, List.getElem?_cons_zero, List.getElem?_cons_succ, then_normal, Option.getD_some, Bool.or_false, Bool.false_eq_true, up_zero]
  refine h0 _ _ ?_
  try clear h0 K_h0
  exact T.ret (Fin.quiet rfl ⟨⟨trivial, trivial⟩, trivial, trivial⟩ (hL.quiet wf) ⟨rfl, rfl⟩)

end Go.VL

namespace Go.VL

open Go.Proofs

theorem ba_list (s : ByteArray) : (⟨s.data.toList.toArray⟩ : ByteArray) = s := by cases s; rfl

set_option maxRecDepth 10000 in
theorem up13_ok {σ : St} (hT : Tabs σ) (hE : Errs σ) : ACalls Tryd.prog n_up13 [] σ (fun v σ' => v = .bool true ∧ σ' = σ) := by
  refine s_up13 (fun wf => ?_)
  unfold c_up13
  have hl : (⟨#[98, 47, 48, 48, 48, 48, 48, 48, 48, 48, 48, 48, 48, 48, 48, 48, 102, 102, 47, 109]⟩ : ByteArray) = ⟨(nmF 255 [109] 0).toArray⟩ := by decide +kernel
  have hV : V3 255 [109] 0 := ⟨by omega, .inr ⟨.inl rfl, rfl⟩⟩
  refine T.seq_k (fun K_h0 h0 => ?_)
  refine T.regi hm ?_
  simp only [↓reduceIte, namesOf, List.any, I.names, aopsI, astep, ev, setd, List.set, List.nil_append, List.length_nil, List.replicate, then_normal, Bool.or_false, Bool.false_eq_true, up_zero, Nat.reduceSub]
  refine h0 _ _ ?_
  try clear h0 K_h0
  refine T.seq_k (fun K_h1 h1 => ?_)
  refine T.regi hm ?_
  simp only [↓reduceIte, namesOf, List.any, I.names, aopsI, astep, ev, setd, List.set, List.getD, List.getElem?_cons_zero, List.getElem?_cons_succ, then_normal, Option.getD_some, Bool.or_false, Bool.false_eq_true, up_zero, ↓opt_def, List.map_cons, List.map_nil]
  rw [hl]
  refine (mParse_ok hT hE (by rw [nmp_len (.inr (.inl rfl))]; decide)).mono ?_
  rintro v σ1 ⟨rfl, hv⟩
  obtain rfl := hv.uniq (.inl ⟨255, [109], 0, hV, rfl, rfl⟩)
  try simp only [List.getElem?_cons_zero, List.getElem?_cons_succ]
  refine h1 _ _ ?_
  try clear h1 K_h1
  have hz : [AV.int .u64 0, .int .i64 0, .int .i64 0, .int .i64 0, .int .i64 0, .int .i64 0] = mtC ⟨0, 0, 0, 0, 0, 0⟩ := rfl
  have hno : ¬ mayM ⟨0, 0, 0, 0, 0, 0⟩ := by decide
  have ee : eqIv false [(tCode, .i64)] (.iface tCode (.int .i64 1)) (.iface tCode (.int .i64 1)) = some true := rfl
  have q1 : ∀ s : ByteArray, sbinv .eql s s = some (.bool true) := fun s => by simp [sbinv]
  have e255 : (((255 : Nat) : Int) == 255) = true := rfl
  refine T.seq_k (fun K_h1 h1 => ?_)
  refine T.regi hm ?_
  simp only [↓reduceIte, namesOf, List.any, I.names, aopsI, astep, ev, setd, List.set, List.getD, List.getElem?_cons_zero, List.getElem?_cons_succ, then_normal, Option.getD_some, Bool.or_false, Bool.false_eq_true, up_zero, ↓opt_def, List.map_cons, List.map_nil, fillA, ↓Option.map_some, hz]
  refine (mPut_no hno).mono ?_
  rintro v σ ⟨rfl, rfl⟩
  try simp only [List.getElem?_cons_zero, List.getElem?_cons_succ]
  refine h1 _ _ ?_
  try clear h1 K_h1
  have hnm := mName_ok (id := 255) (what := [109]) (page := 0) (σ := σ) hT (by omega) (by omega) (by simp)
  refine T.seq_k (fun K_h1 h1 => ?_)
  refine T.regt hm (tbl := []) Tbl.ok_nil ?_
  refine aopsT_cut 1 (fun K_c h_c => ?_)
  try simp only [↓reduceIte, namesOf, List.any, I.names, aopsT, qstep, CPt, Tbl.get, astep, ev, setd, List.set, Bool.or_false, Bool.false_eq_true, up_zero, List.map_cons, List.map_nil, List.take_succ_cons, List.take_zero, up_zero]
  refine (hnm).mono ?_
  rintro _ _ ⟨rfl, rfl⟩
  refine h_c _ _ ?_
  clear h_c K_c
  simp only [List.drop_succ_cons, List.drop_zero, Nat.zero_add]
  try simp only [↓reduceIte, namesOf, List.any, I.names, aops, aopsI, aopsT, qstep, CPt, qget, Tbl.get, astep, ev, setd, List.set, List.getD, List.getElem?_cons_zero, List.getElem?_cons_succ, List.getElem?_nil, List.cons_append, List.nil_append, List.length_cons, List.length_nil, List.replicate, then_normal, inBlock_normal, Option.getD_some, Option.getD_none, Bool.or_false, Bool.or_true, Bool.true_or, Bool.false_or, Bool.false_eq_true, if_false, if_true, up_zero, Nat.reduceAdd, Nat.reduceSub, binv, ↓opt_def, AV.isAny, AV.cells, ldc, List.map_cons, List.map_nil, St.set_next, St.set_same, St.up_next, Int.natCast_nonneg, lt_len, le_len, Int.toNat_natCast, true_and, and_true, eq_self, reduceCtorEq, decide_true, List.length_singleton, er_int, er_bool, er_str, srcR, up_zero, q1, ee, e255, bne_self_eq_false, Bool.bne_false]
  refine h1 _ _ ?_
  try clear h1 K_h1
  exact T.ret (Fin.ret rfl ⟨rfl, rfl⟩)

set_option maxRecDepth 10000 in
set_option maxHeartbeats 1000000 in
theorem metaNames_ok {id : Nat} {what name : ByteArray} {page : Int} {σ : St} (hT : Tabs σ) (hE : Errs σ) (hid : id < 18446744073709551616) (hp : -9223372036854775808 ≤ page ∧ page ≤ 9223372036854775807) :
    ACalls Tryd.prog n_metaNames [.int .u64 (id : Int), .str what, .int .i64 page, .str name] σ (fun v σ' => v = .bool true ∧ σ' = σ) := by
  refine s_metaNames (fun wf => ?_)
  unfold c_metaNames
  refine T.seq_k (fun K_h0 h0 => ?_)
  refine T.regi hm ?_
  simp only [↓reduceIte, namesOf, List.any, I.names, aopsI, astep, ev, setd, List.set, List.cons_append, List.nil_append, List.length_cons, List.length_nil, List.replicate, then_normal, Bool.or_false, Bool.false_eq_true, up_zero, Nat.reduceAdd, Nat.reduceSub]
  refine h0 _ _ ?_
  try clear h0 K_h0
  refine T.seq_k (fun K_h1 h1 => ?_)
  refine T.regi hm ?_
  simp only [↓reduceIte, namesOf, List.any, I.names, aopsI, astep, ev, setd, List.set, List.getD, List.getElem?_cons_zero, List.getElem?_cons_succ, then_normal, Option.getD_some, Bool.or_false, Bool.false_eq_true, up_zero, List.map_nil]
  refine (up13_ok hT hE).mono ?_
  rintro v σ ⟨rfl, rfl⟩
  try simp only [↓reduceIte, namesOf, List.any, I.names, aops, aopsI, aopsT, qstep, CPt, qget, Tbl.get, astep, ev, setd, List.set, List.getD, List.getElem?_cons_zero, List.getElem?_cons_succ, List.getElem?_nil, List.cons_append, List.nil_append, List.length_cons, List.length_nil, List.replicate, then_normal, inBlock_normal, Option.getD_some, Option.getD_none, Bool.or_false, Bool.or_true, Bool.true_or, Bool.false_or, Bool.false_eq_true, if_false, if_true, up_zero, Nat.reduceAdd, Nat.reduceSub, binv, ↓opt_def, AV.isAny, AV.cells, ldc, List.map_cons, List.map_nil, St.set_next, St.set_same, St.up_next, Int.natCast_nonneg, lt_len, le_len, Int.toNat_natCast, true_and, and_true, eq_self, reduceCtorEq, decide_true, List.length_singleton, er_int, er_bool, er_str, srcR, up_zero]
  refine h1 _ _ ?_
  try clear h1 K_h1
  refine T.seq_k (fun K_h1 h1 => ?_)
  by_cases hw : what.size ≤ 100
  case neg =>
    have f1 : decide ((what.size : Int) > 100) = true := decide_eq_true (by omega)
    refine T.seq_k (fun K_h0 h0 => ?_)
    refine T.regi hm ?_
    simp only [↓reduceIte, namesOf, List.any, I.names, aopsI, astep, ev, setd, List.set, List.getD, List.getElem?_cons_zero, List.getElem?_cons_succ, then_normal, Option.getD_some, Bool.or_false, Bool.false_eq_true, up_zero, binv, ↓opt_def, eq_self, reduceCtorEq, f1]
    refine h0 _ _ ?_
    try clear h0 K_h0
    refine T.cond rfl (fun _ => ?_) (fun h => by cases h)
    refine T.seq_k (fun K_h0 h0 => ?_)
    refine T.regi hm ?_
    simp only [↓reduceIte, namesOf, List.any, I.names, aopsI, astep, ev, setd, List.set, List.getD, List.getElem?_cons_zero, List.getElem?_cons_succ, then_normal, Option.getD_some, Bool.or_false, Bool.false_eq_true, up_zero]
    refine h0 _ _ ?_
    try clear h0 K_h0
    exact T.ret (Fin.ret rfl ⟨rfl, rfl⟩)
  have f1 : decide ((what.size : Int) > 100) = false := decide_eq_false (by omega)
  by_cases hn : name.size ≤ 1000
  case neg =>
    have f2 : decide ((name.size : Int) > 1000) = true := decide_eq_true (by omega)
    refine T.seq_k (fun K_h0 h0 => ?_)
    refine T.regi hm ?_
    simp only [↓reduceIte, namesOf, List.any, I.names, aopsI, astep, ev, setd, List.set, List.getD, List.getElem?_cons_zero, List.getElem?_cons_succ, then_normal, Option.getD_some, Bool.or_false, Bool.false_eq_true, up_zero, binv, ↓opt_def, eq_self, f1, f2]
    refine h0 _ _ ?_
    try clear h0 K_h0
    refine T.cond rfl (fun _ => ?_) (fun h => by cases h)
    refine T.seq_k (fun K_h0 h0 => ?_)
    refine T.regi hm ?_
    simp only [↓reduceIte, namesOf, List.any, I.names, aopsI, astep, ev, setd, List.set, List.getD, List.getElem?_cons_zero, List.getElem?_cons_succ, then_normal, Option.getD_some, Bool.or_false, Bool.false_eq_true, up_zero]
    refine h0 _ _ ?_
    try clear h0 K_h0
    exact T.ret (Fin.ret rfl ⟨rfl, rfl⟩)
  have f2 : decide ((name.size : Int) > 1000) = false := decide_eq_false (by omega)
  refine T.seq_k (fun K_h0 h0 => ?_)
  refine T.regi hm ?_
  simp only [↓reduceIte, namesOf, List.any, I.names, aopsI, astep, ev, setd, List.set, List.getD, List.getElem?_cons_zero, List.getElem?_cons_succ, then_normal, Option.getD_some, Bool.or_false, Bool.false_eq_true, up_zero, binv, ↓opt_def, eq_self, f1, f2]
  refine h0 _ _ ?_
  try clear h0 K_h0
  refine T.cond rfl (fun h => by cases h) (fun _ => T.skip ?_)
  refine h1 _ _ ?_
  try clear h1 K_h1
  have hnl : name.data.toList.length ≤ 1000 := by rw [Array.length_toList]; exact hn
  have hwl : what.data.toList.length ≤ 100 := by rw [Array.length_toList]; exact hw
  have p1 := mParse_ok (l := name.data.toList) hT hE (by omega)
  have p2 := rParse_ok (l := name.data.toList) (σ := σ) (by omega)
  have n1 := mName_ok (what := what.data.toList) hT hid hp (by omega)
  have n2 := rName_ok (what := what.data.toList) (σ := σ) hid hp (by omega)
  rw [ba_list] at p1 p2 n1 n2
  refine T.seq_k (fun K_h1 h1 => ?_)
  refine T.regi hm ?_
  simp only [↓reduceIte, namesOf, List.any, I.names, aopsI, astep, ev, setd, List.set, List.getD, List.getElem?_cons_zero, List.getElem?_cons_succ, then_normal, Option.getD_some, Bool.or_false, Bool.false_eq_true, up_zero, ↓opt_def, List.map_cons, List.map_nil]
  refine p1.mono ?_
  rintro v σ ⟨rfl, hv⟩
  obtain ⟨a, b, c, is, rfl⟩ : ∃ a b c is, v = .tup [.int .u64 a, .str b, .int .i64 c, .bool is] := by
    rcases hv with ⟨x, y, z, _, _, rfl⟩ | ⟨_, rfl⟩
    · exact ⟨_, _, _, _, rfl⟩
    · exact ⟨_, _, _, _, rfl⟩
  try simp only [List.getElem?_cons_zero, List.getElem?_cons_succ]
  refine h1 _ _ ?_
  try clear h1 K_h1
  refine T.seq_k (fun K_h1 h1 => ?_)
  refine T.regi hm ?_
  simp only [↓reduceIte, namesOf, List.any, I.names, aopsI, astep, ev, setd, List.set, List.getD, List.getElem?_cons_zero, List.getElem?_cons_succ, then_normal, Option.getD_some, Bool.or_false, Bool.false_eq_true, up_zero, ↓opt_def, List.map_cons, List.map_nil]
  refine p2.mono ?_
  rintro v σ ⟨rfl, hv2⟩
  obtain rfl := hv.uniq hv2
  try simp only [List.getElem?_cons_zero, List.getElem?_cons_succ]
  refine h1 _ _ ?_
  try clear h1 K_h1
  have q1 : ∀ s : ByteArray, sbinv .eql s s = some (.bool true) := fun s => by simp [sbinv]
  have ea : (a == a) = true := beq_self_eq_true a
  have ec : (c == c) = true := beq_self_eq_true c
  have ei : (is == is) = true := beq_self_eq_true is
  refine T.seq_k (fun K_h1 h1 => ?_)
  refine T.regt hm (tbl := []) Tbl.ok_nil ?_
  refine aopsT_cut 6 (fun K_c h_c => ?_)
  try simp only [↓reduceIte, namesOf, List.any, I.names, aopsT, qstep, CPt, Tbl.get, astep, ev, setd, List.set, List.getD, List.getElem?_cons_zero, List.getElem?_cons_succ, Option.getD_some, Bool.or_false, Bool.false_eq_true, up_zero, List.map_cons, List.map_nil, eq_self, List.take_succ_cons, List.take_zero, up_zero]
  refine (n1).mono ?_
  rintro _ _ ⟨rfl, rfl⟩
  refine h_c _ _ ?_
  clear h_c K_c
  simp only [List.drop_succ_cons, List.drop_zero, Nat.zero_add]
  refine aopsT_cut 4 (fun K_c h_c => ?_)
  try simp only [↓reduceIte, aopsT, qstep, CPt, Tbl.get, astep, ev, setd, List.set, List.getD, List.getElem?_cons_zero, List.getElem?_cons_succ, Option.getD_some, List.map_cons, List.map_nil, eq_self, List.take_succ_cons, List.take_zero]
  refine (n2).mono ?_
  rintro _ _ ⟨rfl, rfl⟩
  refine h_c _ _ ?_
  clear h_c K_c
  simp only [List.drop_succ_cons, List.drop_zero, Nat.reduceAdd]
  try simp only [↓reduceIte, aopsT, qstep, astep, ev, setd, List.set, List.getD, List.getElem?_cons_zero, List.getElem?_cons_succ, then_normal, Option.getD_some, binv, ↓opt_def, eq_self, q1, ea, ec, ei, Bool.bne_false]
  refine h1 _ _ ?_
  try clear h1 K_h1
  exact T.ret (Fin.ret rfl ⟨rfl, rfl⟩)

end Go.VL

namespace Go.VL

open Go.Proofs

theorem u64_tyT : Tryd.prog.underlying t_u64 = some (.int .u64) := by kernel_rfl

theorem int_tyT : Tryd.prog.underlying t_int = some (.int .i64) := by kernel_rfl

theorem str_tyT : Tryd.prog.underlying t_str = some .string := by kernel_rfl

end Go.VL

namespace Go.Proofs.YtnifkggcldalbaaDoor

open Go.ChangeShapes Go.WideShapes Go.ChangeAt Go.RowKit Go.VL

set_option maxRecDepth 100000 in
theorem metaNames_lifted (os : Os) (started : os.Started) (H : Type) (enc : TypeId × Value → H) :
    ReturnsInHanded {} Tryd.checked os n_metaNames .any (fun w args => (Rows.metaNamesSpec.pre enc Tryd.prog Tryd.f4 [] false w args ∧ laidMetH Tryd.prog laidU w) ∧ sizedMet enc Tryd.prog Tryd.f4 (OpenSpec.ofChange Rows.metaNamesSpec) false w args)
      (Rows.metaNamesSpec.post enc Tryd.prog Tryd.f4 false true false false) := by
  refine returnsInHanded_of_change_and (C := Tryd.checked) (X := fun w _ => laidMetH Tryd.prog laidU w) (fun _ _ _ hh h => h.of_heap hh) own started (by kernel_rfl) Tryd.func4
    (ChangeSpec.witness_at (enc := enc) (C := Tryd.checked) (os := os) (X := fun w _ => laidMetH Tryd.prog laidU w) false (laidWorldU os) #[.int .u64 0, .string ⟨#[]⟩, .int .i64 0, .string ⟨#[]⟩] 8 rfl (by kernel_rfl) (by kernel_rfl) (by kernel_rfl) (by kernel_rfl) (by kernel_rfl) (laidWorldU_met os _)) ?_
  intro W base args ds gs before hval0 hW _ _ hL _
  refine law_calls_tabsU 3 (tb := 4) laidOut (by kernel_rfl) rfl (by kernel_rfl) (by kernel_rfl) (fun ds hds => ?_) (fun xs hxs σ hG => ?_) hval0 hW (tabsU_of_laid hL)
  · match ds, hds with
    | [_d1, _d2, _d3, _d4], _ => rfl
  · have hxs' : HasAll Tryd.prog 3 [_, _, _, _] xs := hxs
    cases hxs' with
    | cons h1 r1 =>
    cases r1 with
    | cons h2 r2 =>
    cases r2 with
    | cons h3 r3 =>
    cases r3 with
    | cons h4 r4 =>
    cases r4
    obtain ⟨id, rfl, i1, i2⟩ := has_int u64_tyT h1
    obtain ⟨n, rfl, hn⟩ := u64_nat i1 i2
    obtain ⟨what, rfl, _⟩ := has_str str_tyT h2
    obtain ⟨page, rfl, q1, q2⟩ := has_int int_tyT h3
    obtain ⟨name, rfl, _⟩ := has_str str_tyT h4
    exact (metaNames_ok hG.1 hG.2 hn ⟨q1, q2⟩).mono fun v _ ⟨e, _⟩ => e

theorem metaNames_holds : Rows.MetaNamesSaid :=
  OpenClaim.holds_of_wide n_metaNames Tryd.f4 rfl rfl rfl rfl rfl rfl rfl ⟨rfl, rfl, rfl, rfl, rfl⟩ rfl rfl rfl rfl rfl (by kernel_rfl) Tryd.func4 (by kernel_rfl)
    (of_decide_eq_true (by kernel_rfl)) (by unfold Func.isWrapper; first | (rw [if_pos (by decide +kernel)]; kernel_rfl) | (rw [if_neg (by decide +kernel)]; exact ⟨rfl, rfl⟩))
    (fun os started H enc _ => metaNames_lifted os started H enc)

theorem metaNames_card : Rows.MetaNamesCardSaid :=
  Claim7.holds_tied_plain_at .later [] [.data, .data, .data, .data, .sentinel, .sentinel, .pinned] true Rows.metaNamesCard.stood.harness true
    metaNames_holds (fun _ h => by cases h) (by kernel_rfl) (fun _ h => by cases h) metaNames_row_tie rfl ⟨rfl, rfl⟩ (by kernel_rfl) rfl
    (fun f fn hf hfn => by
      obtain rfl : f = 4 := Option.some.inj ((show Tryd.prog.funcNamed Rows.metaNamesRow.func = some 4 by kernel_rfl).symm.trans hf) |>.symm
      obtain rfl : fn = Tryd.f4 := (Option.some.inj (Tryd.func4.symm.trans hfn)).symm
      refine ⟨by kernel_rfl, fun j t ht => ?_⟩
      have hm : t ∈ Tryd.f4.params.toList := by simpa using Array.mem_of_getElem? ht
      have hall : (Tryd.f4.params.toList.all fun u => !Tryd.prog.wantsStandIn u) = true := by kernel_rfl
      exact (show Tryd.prog.wantsStandIn t = false by simpa using List.all_eq_true.1 hall t hm))
    (by kernel_rfl)

end Go.Proofs.YtnifkggcldalbaaDoor
