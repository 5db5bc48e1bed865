/- Contracts: the head's example of layer 12; the law IndexPuts. -/
import Derived.Test.YtlbnimbgodmagaaVpN
namespace Go.VL
open Go.Proofs

set_option maxHeartbeats 1000000 in
theorem up12_ok {σ : St} : ACalls Try.prog n_up12 [] σ (fun v σ' => v = .bool true ∧ σ' = σ) := by
  refine s_up12 (fun wf => ?_)
  unfold c_up12
  refine T.seq_k (fun K_h1 h1 => ?_)
  refine T.regi hm ?_
  simp only [↓reduceIte, namesOf, List.any, I.names, aopsI, astep, ev, setd, List.set, List.nil_append, List.length_nil, List.replicate, then_normal, Bool.or_false, Bool.false_eq_true, up_zero, Nat.reduceSub]
  refine h1 _ _ ?_
  try clear h1 K_h1
  refine T.seq_k (fun K_h1 h1 => ?_)
  refine T.regi hm ?_
  simp only [↓reduceIte, namesOf, List.any, I.names, aopsI, astep, ev, setd, List.set, List.getD, List.getElem?_cons_zero, List.getElem?_cons_succ, List.length_cons, List.length_nil, then_normal, Option.getD_some, Bool.or_false, Nat.reduceAdd, ↓opt_def, List.map_cons, List.map_nil, eq_self, List.all_nil, held, List.all_cons, show AV.fits 1 (.sl [] (.tip (σ.next + 0))) = true from rfl, Bool.and_self, er_sl, List.length_nil]
  have o1 := OneTip.new (σ := σ) (k := 2) (n := 8) (i := 0) (by omega)
  generalize ((σ.up 8).set (σ.next + 0) (Res.tip 2)) = σ1 at o1 ⊢
  refine iof_empty.mono ?_
  rintro v s ⟨rfl, rfl⟩
  try simp only [List.getElem?_cons_zero, List.getElem?_cons_succ]
  refine h1 _ _ ?_
  try clear h1 K_h1
  refine T.seq_k (fun K_h1 h1 => ?_)
  refine T.regi hm ?_
  simp only [↓reduceIte, namesOf, List.any, I.names, aopsI, astep, ev, setd, List.set, List.getD, List.getElem?_cons_zero, List.getElem?_cons_succ, then_normal, Option.getD_some, Bool.or_false, Bool.false_eq_true, up_zero, binv, ↓opt_def, List.map_cons, List.map_nil, eq_self, er_int, List.all_nil, held, List.all_cons, fits_num, Bool.and_self]
  refine (ifind_ok (l := [3, 7]) (g := .none) (id := 5) (by simp)).mono ?_
  rintro v s2 ⟨k, hk, rfl, hlo, hhi, rfl⟩
  have hk1 : k = 1 := by
    have : k ≤ 2 := hk
    rcases Nat.lt_or_ge k 1 with h | h
    · have : k = 0 := by omega
      subst this
      have := hhi (by simp)
      simp at this
    · rcases Nat.lt_or_ge 1 k with h2 | h2
      · have : k = 2 := by omega
        subst this
        have := hlo (by simp) (by omega)
        simp at this
      · omega
  subst hk1
  have e1 : ((((1 : Nat) : Int) - 1) == 0) = true := rfl
  try simp only [↓reduceIte, eq_self, e1]
  refine (ifind_ok (l := [3, 7]) (g := .none) (id := 2) (by simp)).mono ?_
  rintro v s3 ⟨k, hk, rfl, hlo, hhi, rfl⟩
  have hk1 : k = 0 := by
    have : k ≤ 2 := hk
    rcases Nat.lt_or_ge 0 k with h | h
    · exfalso
      have h3 := hlo hk h
      have : k = 1 ∨ k = 2 := by omega
      rcases this with rfl | rfl <;> simp at h3
    · omega
  subst hk1
  have e2 : ((((0 : Nat) : Int) - 1) == -1) = true := rfl
  try simp only [↓reduceIte, List.any, Bool.or_false, eq_self, decide_true, e2, eqIv, beq_self_eq_true, Bool.and_self, Bool.bne_false]
  refine h1 _ _ ?_
  try clear h1 K_h1
  exact T.ret (Fin.quiet rfl trivial (o1.quiet wf) ⟨rfl, rfl⟩)
end Go.VL
