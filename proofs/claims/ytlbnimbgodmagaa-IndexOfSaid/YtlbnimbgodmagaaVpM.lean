/- Contracts: searching. -/
import Derived.Test.YtlbnimbgodmagaaVpL
namespace Go.VL
open Go.Proofs

theorem mid_ok {i j : Nat} (h : i + j < 4611686018427387904) : IntKind.i64.wrap (Int.fdiv (IntKind.u64.wrap (IntKind.i64.wrap ((i : Int) + (j : Int)))) (2 ^ min (1 : Int).toNat IntKind.u64.bits)) = (((i + j) / 2 : Nat) : Int) := by
  have h1 : IntKind.i64.wrap ((i : Int) + (j : Int)) = ((i + j : Nat) : Int) := by rw [wrap64 (by omega) (by omega)]; rfl
  have h2 : IntKind.u64.wrap ((i + j : Nat) : Int) = ((i + j : Nat) : Int) := by simp [IntKind.wrap, IntKind.bits, IntKind.signed]; omega
  have h3 : (2 : Int) ^ min (1 : Int).toNat IntKind.u64.bits = ((2 : Nat) : Int) := by simp [IntKind.bits]
  rw [h1, h2, h3, Int.fdiv_eq_ediv_of_nonneg _ (by omega), ← Int.natCast_ediv, wrap64 (by omega) (by omega)]

set_option maxHeartbeats 1000000 in
theorem search_ok {n f : Nat} {cap : List AV} {p : Nat → Bool} {σ : St} (hn : n ≤ 1099511627776) (hp : ∀ i, i < n → ACalls Try.prog f ([] ++ [.int .i64 (i : Int)] ++ cap) σ (fun v σ' => v = .bool (p i) ∧ σ' = σ)) :
    ACalls Try.prog n_search [.int .i64 (n : Int), .func f [] cap] σ (fun v σ' => ∃ k : Nat, k ≤ n ∧ v = .int .i64 (k : Int) ∧ (0 < k → p (k - 1) = false) ∧ (k < n → p k = true) ∧ σ' = σ) := by
  refine s_search (fun wf => ?_)
  unfold c_search
  refine T.seq_k (fun K_h1 h1 => ?_)
  refine T.regi hm ?_
  simp only [↓reduceIte, namesOf, List.any, I.names, aopsI, astep, ev, setd, List.set, List.cons_append, List.nil_append, List.length_cons, List.length_nil, List.replicate, then_normal, Bool.or_false, Bool.false_eq_true, up_zero, Nat.reduceAdd, Nat.reduceSub]
  refine h1 _ _ ?_
  try clear h1 K_h1
  refine T.seq_k (fun K_h1 h1 => ?_)
  refine T.regi hm ?_
  simp only [↓reduceIte, namesOf, List.any, I.names, aopsI, astep, ev, setd, List.set, List.getD, List.getElem?_cons_zero, List.getElem?_cons_succ, then_normal, Option.getD_some, Bool.or_false, Bool.false_eq_true, up_zero]
  refine h1 _ _ ?_
  try clear h1 K_h1
  refine T.seq_k (fun K_h1 h1 => ?_)
  refine T.block ?_
  refine T.gh (Gh.keep [1, 5, 6]) ?_
  refine T.loop (fun ρ s => ∃ (i j : Nat), i ≤ j ∧ j ≤ n ∧ (0 < i → p (i - 1) = false) ∧ (j < n → p j = true) ∧ s = σ ∧ ρ = [.any, .func f [] cap, .any, .any, .any, .int .i64 (i : Int), .int .i64 (j : Int)] ++ List.replicate 19 .any)
    (fun ρ _ => match ρ.getD 5 .any, ρ.getD 6 .any with | .int _ i, .int _ j => (j - i).toNat | _, _ => 0) ⟨0, n, Nat.zero_le _, Nat.le_refl _, by omega, by omega, rfl, rfl⟩ ?_
  rintro ρ s ⟨i, j, hij, hj, hlo, hhi, rfl, rfl⟩
  refine T.seq_k (fun K_h2 h2 => ?_)
  refine T.seq_k (fun K_h3 h3 => ?_)
  by_cases hlt : i < j
  case neg =>
    have e1 : decide ((i : Int) < (j : Int)) = false := decide_eq_false (by omega)
    refine T.regi hm ?_
    simp only [↓reduceIte, namesOf, List.any, I.names, aopsI, astep, ev, setd, List.set, List.getD, List.getElem?_cons_zero, List.getElem?_cons_succ, List.cons_append, List.nil_append, List.replicate, then_normal, Option.getD_some, Bool.or_false, Bool.false_eq_true, up_zero, binv, ↓opt_def, eq_self, e1]
    refine h3 _ _ ?_
    try clear h3 K_h3
    refine T.cond rfl (fun h => by cases h) (fun _ => ?_)
    refine T.exit ?_
    have : i = j := by omega
    subst this
    try simp only [List.getD, List.getElem?_cons_zero, List.getElem?_cons_succ, List.cons_append, List.nil_append, List.replicate, then_normal, Option.getD_some, inBlock_exit, then_exit]
    refine h1 _ _ ?_
    try clear h1 K_h1
    refine T.seq_k (fun K_h1 h1 => ?_)
    refine T.regi hm ?_
    simp only [↓reduceIte, namesOf, List.any, I.names, aopsI, astep, ev, setd, List.set, List.getD, List.getElem?_cons_zero, List.getElem?_cons_succ, then_normal, Option.getD_some, Bool.or_false, Bool.false_eq_true, up_zero]
    refine h1 _ _ ?_
    try clear h1 K_h1
    exact T.ret (Fin.ret rfl ⟨i, hj, rfl, hlo, hhi, rfl⟩)
  have e1 : decide ((i : Int) < (j : Int)) = true := decide_eq_true (by omega)
  refine T.regi hm ?_
  simp only [↓reduceIte, namesOf, List.any, I.names, aopsI, astep, ev, setd, List.set, List.getD, List.getElem?_cons_zero, List.getElem?_cons_succ, List.cons_append, List.nil_append, List.replicate, then_normal, Option.getD_some, Bool.or_false, Bool.false_eq_true, up_zero, binv, ↓opt_def, eq_self, e1]
  refine h3 _ _ ?_
  try clear h3 K_h3
  refine T.cond rfl (fun _ => ?_) (fun h => by cases h)
  refine T.skip ?_
  refine h2 _ _ ?_
  try clear h2 K_h2
  refine T.block ?_
  refine T.seq_k (fun K_h2 h2 => ?_)
  have e2 := mid_ok (i := i) (j := j) (by omega)
  refine T.regi hm ?_
  simp only [↓reduceIte, namesOf, List.any, I.names, aopsI, astep, ev, setd, List.set, List.getD, List.getElem?_cons_zero, List.getElem?_cons_succ, List.cons_append, List.nil_append, List.replicate, then_normal, Option.getD_some, Bool.or_false, Bool.false_eq_true, up_zero, binv, ↓opt_def, eq_self, e2, show ¬ ((1 : Int) < 0) by omega]
  refine h2 _ _ ?_
  try clear h2 K_h2
  generalize hm' : (i + j) / 2 = m
  have hm1 : i ≤ m := by omega
  have hm2 : m < j := by omega
  refine T.seq_k (fun K_h2 h2 => ?_)
  refine T.regi hm ?_
  simp only [↓reduceIte, namesOf, List.any, I.names, aopsI, astep, ev, setd, List.set, List.getD, List.getElem?_cons_zero, List.getElem?_cons_succ, List.cons_append, List.nil_append, List.replicate, then_normal, Option.getD_some, Bool.or_false, Bool.false_eq_true, up_zero, List.map_cons, List.map_nil]
  refine (hp m (by omega)).mono ?_
  rintro v s2 ⟨rfl, rfl⟩
  try simp only []
  refine h2 _ _ ?_
  try clear h2 K_h2
  have e3 : IntKind.i64.wrap ((m : Int) + 1) = ((m + 1 : Nat) : Int) := by rw [wrap64 (by omega) (by omega)]; rfl
  cases hpm : p m with
  | false =>
    refine T.cond rfl (fun _ => ?_) (fun h => by cases h)
    refine T.regi hm ?_
    simp only [↓reduceIte, namesOf, List.any, I.names, aopsI, astep, ev, setd, List.set, List.getD, List.getElem?_cons_zero, List.getElem?_cons_succ, List.cons_append, List.nil_append, List.replicate, then_normal, inBlock_normal, Option.getD_some, Bool.or_false, Bool.false_eq_true, up_zero, binv, ↓opt_def, eq_self, e3]
    refine ⟨_, _, Gh.keep [1, 5, 6], ⟨m + 1, j, by omega, hj, fun _ => by simpa using hpm, hhi, rfl, rfl⟩, ?_⟩
    show ((j : Int) - ((m + 1 : Nat) : Int)).toNat < ((j : Int) - (i : Int)).toNat
    omega
  | true =>
    refine T.cond rfl (fun h => by cases h) (fun _ => ?_)
    refine T.regi hm ?_
    simp only [↓reduceIte, namesOf, List.any, I.names, aopsI, astep, ev, setd, List.set, List.getD, List.getElem?_cons_zero, List.getElem?_cons_succ, List.cons_append, List.nil_append, List.replicate, then_normal, inBlock_normal, Option.getD_some, Bool.or_false, Bool.false_eq_true, up_zero]
    refine ⟨_, _, Gh.keep [1, 5, 6], ⟨i, m, hm1, by omega, hlo, fun _ => hpm, rfl, rfl⟩, ?_⟩
    show ((m : Int) - (i : Int)).toNat < ((j : Int) - (i : Int)).toNat
    omega

theorem ifind1_ok {l : List Int} {g : Ver} {id : Int} {i a b : Nat} {σ : St} (hi : i < l.length) (ha : σ.res a = some (.obj [.sl (nums .u64 l) g])) (hb : σ.res b = some (.obj [.int .u64 id])) :
    ACalls Try.prog n_ifind1 [.int .i64 (i : Int), .ptr a 0, .ptr b 0] σ (fun v σ' => v = .bool (decide (l[i] > id)) ∧ σ' = σ) := by
  refine s_ifind1 (fun wf => ?_)
  unfold c_ifind1
  refine T.seq_k (fun K_h1 h1 => ?_)
  refine T.regi hm ?_
  simp only [↓reduceIte, namesOf, List.any, I.names, aopsI, astep, ev, setd, List.set, List.cons_append, List.nil_append, List.length_cons, List.length_nil, List.replicate, then_normal, Bool.or_false, Bool.false_eq_true, up_zero, Nat.reduceAdd, Nat.reduceSub]
  refine h1 _ _ ?_
  try clear h1 K_h1
  refine T.seq_k (fun K_h1 h1 => ?_)
  refine T.regi hm ?_
  simp only [↓reduceIte, namesOf, List.any, I.names, aopsI, astep, ev, setd, List.set, List.getD, List.getElem?_cons_zero, List.getElem?_cons_succ, List.length_cons, List.length_nil, then_normal, Option.getD_some, Bool.or_false, Bool.false_eq_true, up_zero, Nat.reduceAdd, binv, ↓opt_def, AV.cells, ldc, Int.natCast_nonneg, lt_len, Int.toNat_natCast, and_true, eq_self, ha, hb, nums_len, nums_get .u64 hi, hi]
  refine h1 _ _ ?_
  try clear h1 K_h1
  exact T.ret (Fin.ret rfl ⟨rfl, rfl⟩)

theorem ifind_ok {l : List Int} {g : Ver} {id : Int} {σ : St} (hl : l.length ≤ 1099511627776) :
    ACalls Try.prog n_ifind [.sl (nums .u64 l) g, .int .u64 id] σ (fun v σ' => ∃ k : Nat, k ≤ l.length ∧ v = .int .i64 ((k : Int) - 1) ∧ (∀ (h : k ≤ l.length) (h0 : 0 < k), l[k - 1] ≤ id) ∧ (∀ h : k < l.length, l[k] > id) ∧ σ' = σ) := by
  refine s_ifind (fun wf => ?_)
  unfold c_ifind
  refine T.seq_k (fun K_h1 h1 => ?_)
  refine T.regi hm ?_
  simp only [↓reduceIte, namesOf, List.any, I.names, aopsI, astep, ev, setd, List.set, List.getD, List.getElem?_cons_zero, List.getElem?_cons_succ, List.cons_append, List.nil_append, List.length_cons, List.length_nil, List.replicate, then_normal, Option.getD_some, Bool.or_false, Bool.or_true, Bool.false_eq_true, Nat.reduceAdd, Nat.reduceSub, AV.isAny, AV.cells, eq_self]
  refine h1 _ _ ?_
  try clear h1 K_h1
  have ha : (((σ.up 3).set (σ.next + 0) (.obj [.sl (nums .u64 l) g])).set (σ.next + 1) (.obj [.int .u64 id])).res (σ.next + 0) = some (.obj [.sl (nums .u64 l) g]) := by
    rw [St.set_other _ _ (by omega)]; simp
  have hb : (((σ.up 3).set (σ.next + 0) (.obj [.sl (nums .u64 l) g])).set (σ.next + 1) (.obj [.int .u64 id])).res (σ.next + 1) = some (.obj [.int .u64 id]) := by simp
  have hq : ∀ n r, σ.res n = some r → (((σ.up 3).set (σ.next + 0) (.obj [.sl (nums .u64 l) g])).set (σ.next + 1) (.obj [.int .u64 id])).res n = some r := by
    intro n r hr
    have hn : n < σ.next := by
      rcases Nat.lt_or_ge n σ.next with h | h
      · exact h
      · rw [wf n h] at hr; cases hr
    rw [St.set_other _ _ (by omega), St.set_other _ _ (by omega)]; exact hr
  generalize (((σ.up 3).set (σ.next + 0) (.obj [.sl (nums .u64 l) g])).set (σ.next + 1) (.obj [.int .u64 id])) = σ1 at ha hb hq ⊢
  refine T.seq_k (fun K_h1 h1 => ?_)
  refine T.regi hm ?_
  simp only [↓reduceIte, namesOf, List.any, I.names, aopsI, astep, ev, setd, List.set, List.getD, List.getElem?_cons_zero, List.getElem?_cons_succ, then_normal, Option.getD_some, Bool.or_false, Bool.false_eq_true, up_zero, binv, ↓opt_def, ldc, List.map_cons, List.map_nil, ha, nums_len]
  refine (search_ok (p := fun i => if h : i < l.length then decide (l[i] > id) else true) hl (fun i hi => ?_)).mono ?_
  · have := ifind1_ok (g := g) (id := id) hi ha hb
    simp only [hi, dif_pos]
    exact this
  rintro v s ⟨k, hk, rfl, hlo, hhi, rfl⟩
  have e1 : IntKind.i64.wrap ((k : Int) - 1) = (k : Int) - 1 := wrap64 (by omega) (by omega)
  try simp only [↓reduceIte, eq_self, e1]
  refine h1 _ _ ?_
  try clear h1 K_h1
  refine T.ret (Fin.quiet rfl trivial hq ⟨k, hk, rfl, fun h h0 => ?_, fun h => ?_, rfl⟩)
  · have := hlo h0
    rw [dif_pos (by omega)] at this
    simpa using this
  · have := hhi h
    rw [dif_pos h] at this
    simpa using this
end Go.VL
