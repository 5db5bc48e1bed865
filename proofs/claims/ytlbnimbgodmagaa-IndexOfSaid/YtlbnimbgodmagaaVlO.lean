/- The value logic, part O: of operations that do not see each other any order comes to the same. -/
import Derived.Test.YtlbnimbgodmagaaVlN
namespace Go.VL

theorem opt_mono {α : Type} {K K' : α → Prop} (h : ∀ v, K v → K' v) : ∀ {z : Option α}, opt K z → opt K' z
  | some _, k => h _ k
  | none, k => k
theorem held_mono {k nm : Nat} {σ : St} {K K' : AV → St → Prop} (h : ∀ v σ, K v σ → K' v σ) {xs : List AV} : ∀ {hd : Hold}, held k nm σ K xs hd → held k nm σ K' xs hd
  | .val, x => h _ _ x
  | .tip, x => h _ _ x
  | .own, x => h _ _ x
  | .zero, x => x
  | .room, x => h _ _ x
theorem opt_det {α : Type} {K : α → Prop} {z : Option α} (h : opt K z) : ∃ v, z = some v ∧ K v := opt_some h
theorem held_det {k nm : Nat} {σ : St} {K : AV → St → Prop} {xs : List AV} : ∀ {hd : Hold}, held k nm σ K xs hd → ∃ v σ', held k nm σ (fun v' σ'' => v' = v ∧ σ'' = σ') xs hd ∧ K v σ'
  | .val, x => ⟨_, _, ⟨rfl, rfl⟩, x⟩
  | .tip, x => ⟨_, _, ⟨rfl, rfl⟩, x⟩
  | .own, x => ⟨_, _, ⟨rfl, rfl⟩, x⟩
  | .zero, x => x.elim
  | .room, x => ⟨_, _, ⟨rfl, rfl⟩, x⟩

def I.isCall : I → Bool
  | .call .. | .callv .. | .eqS .. | .next _ | .entry _ => true
  | _ => false

/-- what an instruction that is no call comes to, as a relation -/
def W (CP : CallP) (nm : Nat) (i : I) (ρ : List AV) (σ : St) (v : AV) (σ' : St) : Prop := astep CP nm ρ σ (fun v' σ'' => v' = v ∧ σ'' = σ') i

theorem det {CP : CallP} {nm : Nat} {ρ : List AV} {σ : St} {K : AV → St → Prop} {i : I} (hc : i.isCall = false) (h : astep CP nm ρ σ K i) : ∃ v σ', W CP nm i ρ σ v σ' ∧ K v σ' := by
  unfold W
  cases i
  case un op k x =>
    simp only [astep] at h ⊢
    split at h
    · rename_i k1 n he
      split at h
      · rename_i hk
        subst hk
        simp only [if_true]
        cases op <;> simp only at h ⊢ <;> first | exact h.elim | exact ⟨_, _, ⟨rfl, rfl⟩, h⟩ | (obtain ⟨v, e, hk⟩ := opt_det h; simp only [e, opt]; exact ⟨_, _, ⟨rfl, rfl⟩, hk⟩)
      · exact h.elim
    · exact h.elim
  case mkS k bytes hd z len cap =>
    simp only [astep] at h ⊢
    split at h
    · rename_i h1 h2
      split at h
      · rename_i hcond
        obtain ⟨v, σ', a, b⟩ := held_det h
        refine ⟨v, σ', ?_, b⟩
        rw [if_pos hcond]; exact a
      · exact h.elim
    · exact h.elim
  case slice k x lo hi =>
    simp only [astep] at h ⊢
    split at h
    · rename_i he
      split at h
      · rename_i h1 h2
        split at h
        · rename_i hcond
          refine ⟨_, _, ?_, h⟩
          rw [if_pos hcond]; exact ⟨rfl, rfl⟩
        · exact h.elim
      · exact h.elim
    · rename_i he
      split at h
      · rename_i h1 h2
        split at h
        · rename_i hcond
          refine ⟨_, _, ?_, h⟩
          rw [if_pos hcond]; exact ⟨rfl, rfl⟩
        · exact h.elim
      · exact h.elim
    · rename_i he
      split at h
      · rename_i h1 h2
        split at h
        · rename_i hcond
          refine ⟨_, _, ?_, h⟩
          rw [if_pos hcond]; exact ⟨rfl, rfl⟩
        · exact h.elim
      · exact h.elim
    · exact h.elim
  all_goals simp only [I.isCall, Bool.true_eq_false] at hc
  all_goals simp only [astep] at h ⊢
  all_goals try (exact ⟨_, _, ⟨rfl, rfl⟩, h⟩)
  all_goals (repeat' (split at h))
  all_goals first | exact h.elim | skip
  all_goals try simp only [*]
  all_goals first | exact ⟨_, _, ⟨rfl, rfl⟩, h⟩ | (obtain ⟨v, e, hk⟩ := opt_det h; simp only [e, opt]; exact ⟨_, _, ⟨rfl, rfl⟩, hk⟩) | exact held_det h | (obtain ⟨v, e, hk⟩ := h; exact ⟨_, _, ⟨v, e, rfl, rfl⟩, hk⟩) | skip

def CPMono (CP : CallP) : Prop := ∀ f args σ (K K' : AV → St → Prop), (∀ v σ', K v σ' → K' v σ') → CP f args σ K → CP f args σ K'

theorem astep_mono {CP : CallP} (hCP : CPMono CP) {nm : Nat} {ρ : List AV} {σ : St} {K K' : AV → St → Prop} (hk : ∀ v σ', K v σ' → K' v σ') {i : I} (h : astep CP nm ρ σ K i) : astep CP nm ρ σ K' i := by
  cases i
  case un op k x =>
    simp only [astep] at h ⊢
    split at h
    · rename_i k1 n he
      split at h
      · rename_i hk1
        subst hk1
        simp only [if_true]
        cases op <;> simp only at h ⊢ <;> first | exact h.elim | exact hk _ _ h | exact opt_mono (fun _ h => hk _ _ h) h
      · exact h.elim
    · exact h.elim
  case mkS k bytes hd z len cap =>
    simp only [astep] at h ⊢
    split at h
    · split at h
      · rename_i hcond
        rw [if_pos hcond]; exact held_mono hk h
      · exact h.elim
    · exact h.elim
  case slice k x lo hi =>
    simp only [astep] at h ⊢
    split at h
    · split at h
      · split at h
        · rename_i hcond
          rw [if_pos hcond]; exact hk _ _ h
        · exact h.elim
      · exact h.elim
    · split at h
      · split at h
        · rename_i hcond
          rw [if_pos hcond]; exact hk _ _ h
        · exact h.elim
      · exact h.elim
    · split at h
      · split at h
        · rename_i hcond
          rw [if_pos hcond]; exact hk _ _ h
        · exact h.elim
      · exact h.elim
    · exact h.elim
  case next x =>
    simp only [astep] at h ⊢
    split at h
    · split at h
      · exact hk _ _ h
      · split at h
        · split at h
          · rename_i hc
            rw [if_pos hc]; exact ⟨fun i p t h1 h2 h3 => hk _ _ (h.1 i p t h1 h2 h3), fun h1 => hk _ _ (h.2 h1)⟩
          · exact h.elim
        · exact h.elim
      · exact h.elim
    · exact h.elim
  case entry x =>
    simp only [astep] at h ⊢
    split at h
    · split at h
      · split at h
        · split at h
          · rename_i hc
            obtain ⟨i, p, t, h1, h2, h3, h4⟩ := h
            rw [if_pos hc]; exact ⟨i, p, t, h1, h2, h3, hk _ _ h4⟩
          · exact h.elim
        · exact h.elim
      · exact h.elim
    · exact h.elim
  case eqS neg x =>
    simp only [astep] at h ⊢
    split at h
    · exact hk _ _ h
    · split at h
      · rename_i hc
        rw [if_pos hc]; exact fun b => hk _ _ (h b)
      · rename_i hc
        rw [if_neg hc]; exact hk _ _ h
    · exact hk _ _ h
    · exact hk _ _ h
    · exact h.elim
  all_goals simp only [astep] at h ⊢
  all_goals try (exact hk _ _ h)
  all_goals (repeat' (split at h))
  all_goals first | exact h.elim | skip
  all_goals try simp only [*]
  all_goals first | exact hk _ _ h | exact opt_mono (fun _ h => hk _ _ h) h | exact held_mono hk h | exact hCP _ _ _ _ _ hk h | (obtain ⟨v, e, h⟩ := h; exact ⟨v, e, hk _ _ h⟩) | (simp; done)

theorem W.use {CP : CallP} (hCP : CPMono CP) {nm : Nat} {ρ : List AV} {σ σ' : St} {v : AV} {K : AV → St → Prop} {i : I} (h : W CP nm i ρ σ v σ') (hk : K v σ') : astep CP nm ρ σ K i :=
  astep_mono hCP (fun _ _ ⟨e1, e2⟩ => by rw [e1, e2]; exact hk) h

theorem held_ro {k nm : Nat} {σ : St} {K : AV → St → Prop} {xs : List AV} (h : held k nm σ K xs .val) : K (.sl (xs.map AV.er) .none) σ := h

/-- what a reading operation leaves is what it found -/
theorem W.ro {CP : CallP} {nm : Nat} {ρ : List AV} {σ σ' : St} {v : AV} {i : I} (hc : i.cat = 0 ∨ i.cat = 1 ∨ i.cat = 4 ∨ i.cat = 5) (h : W CP nm i ρ σ v σ') : σ' = σ := by
  have key : ∀ (K : AV → St → Prop), astep CP nm ρ σ K i → ∃ v, K v σ := by
    clear h
    intro K h
    cases i
    case bslice k hd ps => cases hd <;> simp [I.cat] at hc <;> simp only [astep, held] at h <;> split at h <;> first | exact ⟨_, h⟩ | exact h.elim
    case convSB hd x => cases hd <;> simp [I.cat] at hc; simp only [astep, held] at h; split at h; exact ⟨_, h⟩; exact h.elim
    case mkS k b hd z x y => cases hd <;> simp [I.cat] at hc; simp only [astep, held] at h; split at h; split at h; exact ⟨_, h⟩; exact h.elim; exact h.elim
    case un op k x =>
      simp only [astep] at h
      split at h
      · split at h
        · cases op <;> simp only at h <;> first | exact h.elim | exact ⟨_, h⟩ | (obtain ⟨v, e, h⟩ := opt_det h; exact ⟨_, h⟩)
        · exact h.elim
      · exact h.elim
    all_goals simp [I.cat] at hc
    all_goals simp only [astep] at h
    all_goals try (exact ⟨_, h⟩)
    all_goals (repeat' (split at h))
    all_goals first | exact h.elim | exact ⟨_, h⟩ | (obtain ⟨v, e, h⟩ := opt_det h; exact ⟨_, h⟩) | (obtain ⟨v, e, h⟩ := h; exact ⟨_, h⟩) | skip
  obtain ⟨_, h1, h2⟩ := key _ h
  exact h2.symm

/-- what comes of its operands alone does not hang on what is owned -/
theorem W.pure {CP : CallP} {nm : Nat} {ρ : List AV} {σ σ' : St} {v : AV} {i : I} (hc : i.cat = 0) (h : W CP nm i ρ σ v σ') (σ2 : St) : W CP nm i ρ σ2 v σ2 := by
  unfold W at *
  cases i
  case bslice k hd ps => cases hd <;> simp [I.cat] at hc <;> simp only [astep, held] at h ⊢ <;> split at h <;> simp_all
  case convSB hd x => cases hd <;> simp [I.cat] at hc; simp only [astep, held] at h ⊢; split at h <;> simp_all
  case mkS k b hd z x y =>
    cases hd <;> simp [I.cat] at hc; simp only [astep, held] at h ⊢
    split at h
    · split at h
      · rename_i hcond; rw [if_pos hcond]; exact ⟨h.1, by trivial⟩
      · exact h.elim
    · exact h.elim
  case un op k x =>
    simp only [astep] at h ⊢
    split at h
    · split at h
      · rename_i hk1; subst hk1
        simp only [if_true]
        cases op <;> simp only at h ⊢ <;> first | exact h.elim | (refine ⟨h.1, ?_⟩; trivial) | exact opt_mono (fun _ h => ⟨h.1, by trivial⟩) h
      · exact h.elim
    · exact h.elim
  case slice k x lo hi =>
    simp only [astep] at h ⊢
    split at h
    · split at h
      · split at h
        · rename_i hcond
          rw [if_pos hcond]; refine ⟨h.1, ?_⟩; trivial
        · exact h.elim
      · exact h.elim
    · split at h
      · split at h
        · rename_i hcond
          rw [if_pos hcond]; refine ⟨h.1, ?_⟩; trivial
        · exact h.elim
      · exact h.elim
    · split at h
      · split at h
        · rename_i hcond
          rw [if_pos hcond]; refine ⟨h.1, ?_⟩; trivial
        · exact h.elim
      · exact h.elim
    · exact h.elim
  all_goals simp [I.cat] at hc
  all_goals simp only [astep] at h ⊢
  all_goals (repeat' (split at h))
  all_goals first | exact h.elim | skip
  all_goals try simp only [*]
  all_goals first | exact opt_mono (fun _ h => ⟨h.1, by trivial⟩) h | (simp; done) | skip

/-- what makes a name alone sets it, whatever is owned -/
theorem W.made {CP : CallP} {nm : Nat} {ρ : List AV} {σ σ' : St} {v : AV} {i : I} (hc : i.cat = 2) (h : W CP nm i ρ σ v σ') : ∃ r, σ' = σ.set nm r ∧ ∀ σ2, W CP nm i ρ σ2 v (σ2.set nm r) := by
  unfold W at *
  have hheld : ∀ {k : Nat} {xs : List AV} {hd : Hold}, hd ≠ .val → held k nm σ (fun v' σ'' => v' = v ∧ σ'' = σ') xs hd → ∃ r, σ' = σ.set nm r ∧ ∀ σ2, held k nm σ2 (fun v' σ'' => v' = v ∧ σ'' = σ2.set nm r) xs hd := by
    intro k xs hd hne hh
    cases hd
    · exact absurd rfl hne
    · exact ⟨_, hh.2.symm, fun σ2 => ⟨hh.1, rfl⟩⟩
    · exact ⟨_, hh.2.symm, fun σ2 => ⟨hh.1, rfl⟩⟩
    · exact hh.elim
    · exact ⟨_, hh.2.symm, fun σ2 => ⟨hh.1, rfl⟩⟩
  cases i
  case box x =>
    simp only [astep] at h ⊢
    split at h
    · exact h.elim
    · rename_i hx
      exact ⟨_, h.2.symm, fun σ2 => by rw [if_neg hx]; exact ⟨h.1, rfl⟩⟩
  case alloc z => exact ⟨_, h.2.symm, fun σ2 => ⟨h.1, rfl⟩⟩
  case mkMap => exact ⟨_, h.2.symm, fun σ2 => ⟨h.1, rfl⟩⟩
  case bslice k hd ps =>
    cases hd <;> simp only [I.cat] at hc <;> try (cases hc; done)
    all_goals
      simp only [astep] at h ⊢
      split at h
      · rename_i hx
        obtain ⟨r, e1, e2⟩ := hheld (by simp) h
        exact ⟨r, e1, fun σ2 => by rw [if_pos hx]; exact e2 σ2⟩
      · exact h.elim
  case convSB hd x =>
    have hne : hd ≠ .val := by rintro rfl; simp [I.cat] at hc
    simp only [astep] at h ⊢
    split at h
    · exact hheld hne h
    · exact h.elim
  case mkS k b hd z x y =>
    have hne : hd ≠ .val := by rintro rfl; simp [I.cat] at hc
    simp only [astep] at h ⊢
    split at h
    · split at h
      · rename_i hcond
        obtain ⟨r, e1, e2⟩ := hheld hne h
        exact ⟨r, e1, fun σ2 => by rw [if_pos hcond]; exact e2 σ2⟩
      · exact h.elim
    · exact h.elim
  all_goals simp [I.cat] at hc

/-- a checked load looks at what stood ahead of its region -/
theorem W.checked {CP : CallP} {nm : Nat} {ρ : List AV} {σ σ' : St} {v : AV} {i : I} {j base : Nat} (hc : i.cat = 5) (hp : i.placed j = true) (hnm : nm = base + j) (h : W CP nm i ρ σ v σ') :
    σ' = σ ∧ ∀ σ2, (∀ n, n < base → σ2.res n = σ.res n) → W CP nm i ρ σ2 v σ2 := by
  unfold W at *
  cases i
  case qload c k x =>
    simp only [I.placed, beq_iff_eq] at hp
    subst hp
    simp only [astep] at h ⊢
    split at h
    · rename_i n off hx
      split at h
      · rename_i hlt
        have hb : n < base := by omega
        split at h
        · rename_i cs hr
          obtain ⟨u, hu, e1, e2⟩ := opt_det h
          refine ⟨e2.symm, fun σ2 h2 => ?_⟩
          rw [if_pos hlt, h2 n hb, hr]
          simp only [hu, opt]
          exact ⟨e1, by trivial⟩
        · exact h.elim
      · exact h.elim
    · rename_i cs hx
      obtain ⟨u, hu, e1, e2⟩ := opt_det h
      refine ⟨e2.symm, fun σ2 h2 => ?_⟩
      simp only [hu, opt]
      exact ⟨e1, by trivial⟩
    · exact h.elim
  case bslice k hd ps => cases hd <;> simp [I.cat] at hc
  case convSB hd x => cases hd <;> simp [I.cat] at hc
  case mkS k b hd z x y => cases hd <;> simp [I.cat] at hc
  all_goals simp [I.cat] at hc

end Go.VL
