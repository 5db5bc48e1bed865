/- Contracts: small things. -/
import Derived.Test.YtlbnimbgodmagaaVcA
namespace Go.VL
open Go.Proofs

theorem hm : Try.prog.follows .mixedOrders = true := by kernel_rfl

def nums (k : IntKind) (l : List Int) : List AV := l.map (.int k)
theorem nums_len (k : IntKind) (l : List Int) : (nums k l).length = l.length := by simp [nums]
theorem nums_get (k : IntKind) {l : List Int} {i : Nat} (h : i < l.length) : (nums k l)[i]? = some (.int k l[i]) := by simp [nums, h]

theorem wrap64 {n : Int} (h0 : -9223372036854775808 ≤ n) (h1 : n < 9223372036854775808) : IntKind.i64.wrap n = n := by
  simp [IntKind.wrap, IntKind.bits, IntKind.signed]; omega

def rightB (w : Int) : Bool := decide (w = 1 ∨ w = 2 ∨ w = 4 ∨ w = 8)

theorem right_ok {w : Int} {σ : St} : ACalls Try.prog n_right [.int .i64 w] σ (fun v σ' => v = .bool (rightB w) ∧ σ' = σ) := by
  refine s_right (fun wf => ?_)
  unfold c_right
  refine T.seq_k (fun K_h1 h1 => ?_)
  refine T.regi hm ?_
  simp only [↓reduceIte, namesOf, List.any, I.names, aopsI, astep, ev, setd, List.set, List.cons_append, List.nil_append, List.length_cons, List.length_nil, List.replicate, then_normal, Bool.or_false, Bool.false_eq_true, up_zero, Nat.reduceAdd, Nat.reduceSub]
  refine h1 _ _ ?_
  try clear h1 K_h1
  refine T.seq_k (fun K_h1 h1 => ?_)
  by_cases w1 : w = 1
  · subst w1
    refine T.regi hm ?_
    simp only [↓reduceIte, namesOf, List.any, I.names, aopsI, astep, ev, setd, List.set, List.getD, List.getElem?_cons_zero, List.getElem?_cons_succ, then_normal, Option.getD_some, Bool.or_false, Bool.false_eq_true, up_zero, binv, ↓opt_def, eq_self, reduceCtorEq, beq_self_eq_true, reduceCtorEq]
    refine h1 _ _ ?_
    try clear h1 K_h1
    exact T.ret (Fin.ret rfl ⟨by simp [pack, rightB], rfl⟩)
  by_cases w2 : w = 2
  · subst w2
    refine T.regi hm ?_
    simp only [↓reduceIte, namesOf, List.any, I.names, aopsI, astep, ev, setd, List.set, List.getD, List.getElem?_cons_zero, List.getElem?_cons_succ, then_normal, Option.getD_some, Bool.or_false, Bool.false_eq_true, up_zero, binv, ↓opt_def, eq_self, reduceCtorEq, beq_self_eq_true, reduceCtorEq, Int.reduceBEq]
    refine h1 _ _ ?_
    try clear h1 K_h1
    exact T.ret (Fin.ret rfl ⟨by simp [pack, rightB], rfl⟩)
  by_cases w4 : w = 4
  · subst w4
    refine T.regi hm ?_
    simp only [↓reduceIte, namesOf, List.any, I.names, aopsI, astep, ev, setd, List.set, List.getD, List.getElem?_cons_zero, List.getElem?_cons_succ, then_normal, Option.getD_some, Bool.or_false, Bool.false_eq_true, up_zero, binv, ↓opt_def, eq_self, reduceCtorEq, beq_self_eq_true, reduceCtorEq, Int.reduceBEq]
    refine h1 _ _ ?_
    try clear h1 K_h1
    exact T.ret (Fin.ret rfl ⟨by simp [pack, rightB], rfl⟩)
  · have e1 : (w == 1) = false := by simpa using w1
    have e2 : (w == 2) = false := by simpa using w2
    have e4 : (w == 4) = false := by simpa using w4
    refine T.regi hm ?_
    simp only [↓reduceIte, namesOf, List.any, I.names, aopsI, astep, ev, setd, List.set, List.getD, List.getElem?_cons_zero, List.getElem?_cons_succ, then_normal, Option.getD_some, Bool.or_false, Bool.false_eq_true, up_zero, binv, ↓opt_def, eq_self, e1, e2, e4]
    refine h1 _ _ ?_
    try clear h1 K_h1
    refine T.ret (Fin.ret rfl ⟨?_, rfl⟩)
    by_cases w8 : w = 8
    · subst w8; simp [pack, rightB]
    · have e8 : (w == 8) = false := by simpa using w8
      simp [pack, rightB, w1, w2, w4, w8]

end Go.VL
