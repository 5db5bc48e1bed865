/- The value logic, part N: each operation of the code comes to what its instruction says, all together. -/
import Derived.Test.YtlbnimbgodmagaaVlW
namespace Go.VL

section
variable {P : Program} {w0 : World} {F : Nat → Prop} {o : Oper} {a : Act} {w : World} {κ : Kx} {ρ : List AV} {σ : St} {nm : Nat} {K : AV → St → Prop}

theorem okN {ins : I} (h : ins.names = true → ¬ κ.dom nm ∧ nm < σ.next) (hh : ins.names = true) : ¬ κ.dom nm ∧ nm < σ.next := h hh

theorem ok_qcall (hI : Inv w0 F κ a w ρ σ) {c : Call} {f : Nat} {xs : List X} (hop : o.op = .call c) (hc : c.callee = .value (.func f)) (hx : opXs c.args.toList = some xs)
    (h : astep (ACalls P) nm ρ σ K (.qcall f xs)) : Good P w0 F o a w κ σ nm K := by
  simp only [astep] at h
  obtain ⟨v, h1, h2⟩ := h
  exact ok_call hI hop hc hx (h1.mono fun x σ' ⟨e1, e2⟩ => by rw [e1, e2]; exact h2)
theorem ok_callv' (hI : Inv w0 F κ a w ρ σ) {c : Call} {y : Operand} {x : X} {xs : List X} (hop : o.op = .call c) (hc : c.callee = .value y) (hy : opX y = some x) (hx : opXs c.args.toList = some xs)
    (h : astep (ACalls P) nm ρ σ K (.callv x xs)) : Good P w0 F o a w κ σ nm K := by
  simp only [astep] at h
  split at h
  · rename_i he; exact ok_callv hI hop hc hy hx he h
  · exact h.elim
theorem ok_qcallv (hI : Inv w0 F κ a w ρ σ) {c : Call} {y : Operand} {x : X} {xs : List X} (hop : o.op = .call c) (hc : c.callee = .value y) (hy : opX y = some x) (hx : opXs c.args.toList = some xs)
    (h : astep (ACalls P) nm ρ σ K (.qcallv x xs)) : Good P w0 F o a w κ σ nm K := by
  simp only [astep] at h
  split at h
  · rename_i he
    obtain ⟨v, h1, h2⟩ := h
    exact ok_callv hI hop hc hy hx he (h1.mono fun x σ' ⟨e1, e2⟩ => by rw [e1, e2]; exact h2)
  · exact h.elim

theorem compileCall_ok {A : Ann} {r i : Nat} {q : Bool} {c : Call} {ins : I} (hI : Inv w0 F κ a w ρ σ) (hN : ins.names = true → ¬ κ.dom nm ∧ nm < σ.next) (hop : o.op = .call c) (hc : compileCall P A q r i c = some ins)
    (h : astep (ACalls P) nm ρ σ K ins) : Good P w0 F o a w κ σ nm K := by
  unfold compileCall at hc
  split at hc
  · rename_i hcal
    split at hc
    · rename_i y t ts ha ht
      split at hc
      · rename_i x e hx hu
        simp only [Option.some.injEq] at hc; subst hc
        exact ok_len hI hop hcal ha ht hu hx h
      · rename_i x hx hu
        simp only [Option.some.injEq] at hc; subst hc
        exact ok_slen hI hop hcal ha ht hu hx h
      · rename_i x k e hx hu
        simp only [Option.some.injEq] at hc; subst hc
        exact ok_mlen hI hop hcal ha ht hu hx h
      · cases hc
    · cases hc
  · rename_i hcal
    split at hc
    · rename_i y z t u ha ht
      split at hc
      · rename_i x x' e u' hx hx' hu hd
        split at hc
        · rename_i ti hi
          split at hc
          · rename_i hcond
            simp only [Option.some.injEq] at hc; subst hc
            exact ok_app hI (hN rfl).1 (hN rfl).2 hop hcal ha ht hu hd (fun k hk => by cases hk) hi hcond.2.1 hcond.2.2 hx hx' h
          · cases hc
        · cases hc
      · rename_i x x' e hx hx' hu hd
        split at hc
        · rename_i ti hi
          split at hc
          · rename_i hcond
            simp only [Option.some.injEq] at hc; subst hc
            exact ok_app hI (hN rfl).1 (hN rfl).2 hop hcal ha ht hu hd (fun k hk => by cases hk) hi hcond.2.1 hcond.2.2 hx hx' h
          · cases hc
        · cases hc
      · rename_i x x' e k hx hx' hu hd
        split at hc
        · rename_i ti z0 hi hz
          split at hc
          · rename_i hcond
            simp only [Option.some.injEq] at hc; subst hc
            exact ok_appZ hI (hN rfl).1 (hN rfl).2 hop hcal ha ht hu hd hi hz hcond.1 hcond.2.1 hcond.2.2 hx hx' h
          · cases hc
        · cases hc
      · cases hc
    · cases hc
  · rename_i hcal
    split at hc
    · rename_i y t ts ha ht
      split at hc
      · rename_i x e hx hu
        simp only [Option.some.injEq] at hc; subst hc
        exact ok_cap hI hop hcal ha ht hu hx h
      · cases hc
    · cases hc
  · simp only [Option.some.injEq] at hc; subst hc
    exact h.elim
  · rename_i hcal
    split at hc
    · rename_i y z t ts ha ht
      split at hc
      · rename_i x x' e hx hx' hu
        rw [Option.map_eq_some_iff] at hc; obtain ⟨k, hk, rfl⟩ := hc
        exact ok_copy hI hop hcal ha ht hu hk hx hx' h
      · cases hc
    · cases hc
  · rename_i hcal
    rw [Option.map_eq_some_iff] at hc
    obtain ⟨xs, hx, rfl⟩ := hc
    exact ok_mn hI hop hcal hx h
  · rename_i hcal
    rw [Option.map_eq_some_iff] at hc
    obtain ⟨xs, hx, rfl⟩ := hc
    exact ok_mx hI hop hcal hx h
  · rename_i hcal
    split at hc
    · rename_i y y' t ts ha ht
      split at hc
      · rename_i x x' kt e hx hx' hu
        rw [Option.map_eq_some_iff] at hc
        obtain ⟨kk, hk, rfl⟩ := hc
        exact ok_del hI hop hcal ha ht hu hk hx hx' h
      · cases hc
    · cases hc
  · rename_i f hcal
    split at hc
    · rename_i xs hx
      simp only [Option.some.injEq] at hc
      cases q with
      | true => simp only [if_true] at hc; subst hc; exact ok_qcall hI hop hcal hx h
      | false => simp only [Bool.false_eq_true, if_false] at hc; subst hc; simp only [astep] at h; exact ok_call hI hop hcal hx h
    · cases hc
  · rename_i y _ hcal
    split at hc
    · rename_i x xs hy hx
      simp only [Option.some.injEq] at hc
      cases q with
      | true => simp only [if_true] at hc; subst hc; exact ok_qcallv hI hop hcal hy hx h
      | false => simp only [Bool.false_eq_true, if_false] at hc; subst hc; exact ok_callv' hI hop hcal hy hx h
    · cases hc
  · cases hc

theorem step_ok {A : Ann} {q : Bool} {r i : Nat} {ins : I} (hI : Inv w0 F κ a w ρ σ) (hN : ins.names = true → ¬ κ.dom nm ∧ nm < σ.next) (hc : compileOp P A q r i o = some ins)
    (h : astep (ACalls P) nm ρ σ K ins) : Good P w0 F o a w κ σ nm K := by
  have hV : ∀ {hd : Hold} {k : Nat} {xs : List X}, ins = .bslice k hd xs → hd ≠ .val → hd ≠ .zero → ¬ κ.dom nm ∧ nm < σ.next := by
    intro hd k xs e hne hnz; subst e; exact hN (by cases hd <;> simp [I.names] at hne hnz ⊢)
  have hV2 : ∀ {hd : Hold} {x : X}, ins = .convSB hd x → hd ≠ .val → hd ≠ .zero → ¬ κ.dom nm ∧ nm < σ.next := by
    intro hd x e hne hnz; subst e; exact hN (by cases hd <;> simp [I.names] at hne hnz ⊢)
  have hV3 : ∀ {hd : Hold} {k b : Nat} {z : AV} {x y : X}, ins = .mkS k b hd z x y → hd ≠ .val → hd ≠ .zero → ¬ κ.dom nm ∧ nm < σ.next := by
    intro hd k b z x y e hne hnz; subst e; exact hN (by cases hd <;> simp [I.names] at hne hnz ⊢)
  unfold compileOp at hc
  split at hc
  · -- move
    rename_i y hop
    rw [Option.map_eq_some_iff] at hc; obtain ⟨x, hx, rfl⟩ := hc
    exact ok_mv hI (.inl hop) hx h
  · rename_i y hop
    rw [Option.map_eq_some_iff] at hc; obtain ⟨x, hx, rfl⟩ := hc
    exact ok_mv hI (.inr hop) hx h
  · rename_i c y z hop
    split at hc
    · rename_i hc' hy hz
      simp only [Option.some.injEq] at hc; subst hc
      exact ok_pick hI hop hc' hy hz h
    · cases hc
  · rename_i t y hop
    rw [Option.map_eq_some_iff] at hc; obtain ⟨x, hx, rfl⟩ := hc
    exact ok_box hI (hN rfl).1 (hN rfl).2 hop hx h
  · rename_i t hop
    rw [Option.map_eq_some_iff] at hc; obtain ⟨z, hz, rfl⟩ := hc
    exact ok_alloc hI (hN rfl).1 (hN rfl).2 hop hz h
  · rename_i t parts hop
    split at hc
    · rename_i z fs hz hu
      split at hc
      · rename_i tab ht
        rw [Option.map_eq_some_iff] at hc; obtain ⟨ps, hp, rfl⟩ := hc
        exact ok_build hI hop hz hu ht hp h
      · cases hc
    · cases hc
  · rename_i t n parts hop
    split at hc
    · rename_i e hu
      split at hc
      · rename_i k z ps hk hz hp
        split at hc
        · rename_i hcond
          simp only [Option.some.injEq] at hc
          subst hc
          exact ok_bslice hI (hV rfl) hop hu hk hz hp hcond.1 hcond.2 h
        · cases hc
      · cases hc
    · cases hc
  · rename_i t y hop
    split at hc
    · rename_i k x hk hx
      simp only [Option.some.injEq] at hc
      split at hc
      · subst hc
        refine ok_load hI hop hk hx ?_
        simp only [astep] at h ⊢
        split at h
        · rename_i hn
          split at h
          · first | exact h | (simp only [hn]; exact h)
          · exact h.elim
        · rename_i hn; first | exact h | (simp only [hn]; exact h)
        · exact h.elim
      · subst hc
        exact ok_load hI hop hk hx h
    · cases hc
  · rename_i t y z hop
    split at hc
    · rename_i k x x' hk hx hx'
      simp only [Option.some.injEq] at hc; subst hc
      exact ok_store hI hop hk hx hx' h
    · cases hc
  · rename_i y hop
    rw [Option.map_eq_some_iff] at hc; obtain ⟨x, hx, rfl⟩ := hc
    exact ok_nilCheck hI hop hx h
  · rename_i op t y z t' hop
    split at hc
    · rename_i x x' hx hx'
      split at hc
      · rename_i k hu
        simp only [Option.some.injEq] at hc; subst hc
        exact ok_bin hI hop hx hx' h
      · rename_i hu
        simp only [Option.some.injEq] at hc; subst hc
        exact ok_sbin hI hop hx hx' h
      · rename_i hu
        split at hc
        · simp only [Option.some.injEq] at hc; subst hc
          exact ok_bbin hI (neg := false) hop hu hx hx' h
        · simp only [Option.some.injEq] at hc; subst hc
          exact ok_bbin hI (neg := true) hop hu hx hx' h
        · cases hc
      · rename_i ms hu
        split at hc
        · rename_i hts
          split at hc
          · simp only [Option.some.injEq] at hc; subst hc
            exact ok_eqI hI (neg := false) hop hu hts rfl hx hx' h
          · simp only [Option.some.injEq] at hc; subst hc
            exact ok_eqI hI (neg := true) hop hu hts rfl hx hx' h
          · cases hc
        · cases hc
      · rename_i e hu
        split at hc
        · rename_i k hk
          simp only [Option.some.injEq] at hc; subst hc
          exact ok_eqP hI (neg := false) hop hu hk hx hx' h
        · rename_i k hk
          simp only [Option.some.injEq] at hc; subst hc
          exact ok_eqP hI (neg := true) hop hu hk hx hx' h
        · cases hc
      · rename_i e hu
        split at hc
        · cases hc
        · split at hc
          · rename_i hz
            simp only [Option.some.injEq] at hc; subst hc
            exact ok_eqS hI (neg := false) hop hu hz hx h
          · rename_i hz
            simp only [Option.some.injEq] at hc; subst hc
            exact ok_eqS hI (neg := true) hop hu hz hx h
          · cases hc
      · cases hc
    · cases hc
  · rename_i op t y hop
    split at hc
    · rename_i x hx hu
      split at hc
      · simp only [Option.some.injEq] at hc; subst hc
        exact ok_not hI hop hx h
      · cases hc
    · rename_i x k hx hu
      split at hc
      · simp only [Option.some.injEq] at hc; subst hc
        exact ok_un hI hop hx h
      · simp only [Option.some.injEq] at hc; subst hc
        exact ok_un hI hop hx h
      · cases hc
    · cases hc
  · rename_i s d y hop
    split at hc
    · rename_i x k' k hx hs hd
      simp only [Option.some.injEq] at hc; subst hc
      exact ok_conv hI hop hs hd hx h
    · rename_i x e hx hs hd
      split at hc
      · rename_i he
        simp only [Option.some.injEq] at hc; subst hc
        exact ok_convBS hI hop hs he hd hx h
      · cases hc
    · rename_i x e' e hx hs hd
      split at hc
      · rename_i hsd he
        simp only [Option.some.injEq] at hc; subst hc
        have : s = d := by simpa using hsd
        subst this
        exact ok_cvt hI hop hd he hx h
      · cases hc
    · rename_i x e hx hs hd
      split at hc
      · rename_i he
        simp only [Option.some.injEq] at hc; subst hc
        exact ok_convSB hI (hV2 rfl) hop hs he hd hx h
      · cases hc
    · cases hc
  · rename_i t y hop
    split at hc
    · cases hc
    · rename_i x d hne hx ht
      simp only [Option.some.injEq] at hc; subst hc
      exact ok_mkI hI hop ht (fun ms he => hne ms he) hx h
    · cases hc
  · rename_i f p q' hop
    split at hc
    · rename_i x y hx hy
      simp only [Option.some.injEq] at hc; subst hc
      exact ok_mkF hI hop hx hy h
    · cases hc
  · rename_i t hop
    simp only [Option.some.injEq] at hc; subst hc
    exact ok_mkMap hI (hN rfl).1 (hN rfl).2 hop h
  · rename_i t l c hop
    split at hc
    · rename_i e hu
      split at hc
      · rename_i ti z x x' hi hz hx hx'
        split at hc
        · rename_i hcond
          simp only [Option.some.injEq] at hc; subst hc
          exact ok_mkS hI (hV3 rfl) hop hu hi hz hcond.1 hcond.2 hx hx' h
        · cases hc
      · cases hc
    · cases hc
  · rename_i t y lo hi hop
    split at hc
    · rename_i x lo' hi' hx hlo hhi
      split at hc
      · rename_i e hu
        rw [Option.map_eq_some_iff] at hc; obtain ⟨k, hk, rfl⟩ := hc
        exact ok_slice hI hop hu hk hx hlo hhi h
      · rename_i hu
        simp only [Option.some.injEq] at hc; subst hc
        exact ok_sslice hI hop hu hx hlo hhi h
      · cases hc
    · cases hc
  · rename_i s y f hop
    split at hc
    · rename_i fd x hf hx
      split at hc
      · rename_i k hk
        simp only [Option.some.injEq] at hc; subst hc
        exact ok_faddr hI hop hf hk hx h
      · cases hc
    · cases hc
  · rename_i s y f hop
    split at hc
    · rename_i fd x hf hx
      split at hc
      · rename_i k hk
        simp only [Option.some.injEq] at hc; subst hc
        exact ok_fld hI hop hf hk hx h
      · cases hc
    · cases hc
  · rename_i t y z hop
    split at hc
    · rename_i x x' e hx hx' hu
      rw [Option.map_eq_some_iff] at hc; obtain ⟨k, hk, rfl⟩ := hc
      exact ok_iaddr hI hop hu hk hx hx' h
    · rename_i x x' n e hx hx' hu
      rw [Option.map_eq_some_iff] at hc; obtain ⟨k, hk, rfl⟩ := hc
      exact ok_iaddrA hI hop hu hk hx hx' h
    · cases hc
  · rename_i t y z hop
    split at hc
    · rename_i x x' hx hx' hu
      simp only [Option.some.injEq] at hc; subst hc
      exact ok_idxS hI hop hu hx hx' h
    · cases hc
  · rename_i t m k ok hop
    split at hc
    · rename_i x x' kt e hx hx' hu
      split at hc
      · rename_i kk z hk hz
        simp only [Option.some.injEq] at hc; subst hc
        exact ok_look hI hop hu hk hz hx hx' h
      · cases hc
    · cases hc
  · rename_i t m k v hop
    split at hc
    · rename_i x x' x'' kt e hx hx' hx'' hu
      rw [Option.map_eq_some_iff] at hc; obtain ⟨kk, hk, rfl⟩ := hc
      exact ok_mapUp hI hop hu hk hx hx' hx'' h
    · cases hc
  · rename_i y j hop
    rw [Option.map_eq_some_iff] at hc; obtain ⟨x, hx, rfl⟩ := hc
    exact ok_ext hI hop hx h
  · rename_i c hop
    exact compileCall_ok hI hN hop hc h
  · simp only [Option.some.injEq] at hc; subst hc
    exact h.elim
  · rename_i t y hop
    split at hc
    · rename_i x kt e hx hu
      simp only [Option.some.injEq] at hc; subst hc
      exact ok_range hI (hN rfl).1 (hN rfl).2 hop hu hx h
    · rename_i x hx hu
      simp only [Option.some.injEq] at hc; subst hc
      exact ok_srange hI (hN rfl).1 (hN rfl).2 hop hu hx h
    · cases hc
  · rename_i y st hop
    split at hc
    · rename_i x hx
      split at hc
      · cases hc
      · simp only [Option.some.injEq] at hc
        cases st with
        | true => simp only [if_true] at hc; subst hc; exact ok_snext hI hop hx h
        | false => simp only [Bool.false_eq_true, if_false] at hc; subst hc; exact ok_next hI hop hx h
    · cases hc
  · rename_i y hop
    split at hc
    · rename_i x hx
      split at hc
      · cases hc
      · simp only [Option.some.injEq] at hc; subst hc
        exact ok_entry hI hop hx h
    · cases hc
  · cases hc
end
end Go.VL
