/- The value logic, part P: two operations that do not see each other change places; a drawn order comes to the same as the written one. -/
import Derived.Test.YtlbnimbgodmagaaVlO
namespace Go.VL

def Agree (ρ ρ' : List AV) (l : List Nat) : Prop := ∀ t ∈ l, ρ.getD t .any = ρ'.getD t .any

theorem ev_eq {ρ ρ' : List AV} {x : X} (h : Agree ρ ρ' x.tmps) : ev ρ x = ev ρ' x := by
  cases x with
  | t i => exact h i (by simp [X.tmps])
  | c v => rfl
theorem evs_eq {ρ ρ' : List AV} : ∀ {xs : List X}, Agree ρ ρ' (xs.flatMap X.tmps) → xs.map (ev ρ) = xs.map (ev ρ')
  | [], _ => rfl
  | x :: r, h => by
    simp only [List.map_cons]
    rw [ev_eq (x := x) (fun t ht => h t (by simp [ht])), evs_eq (xs := r) (fun t ht => h t (by simp only [List.flatMap_cons, List.mem_append]; exact .inr ht))]
theorem idx_eq {ρ ρ' : List AV} {d : Int} {x : Option X} (h : Agree ρ ρ' (Xo.tmps x)) : idx ρ d x = idx ρ' d x := by
  cases x with
  | none => rfl
  | some x => simp only [idx]; rw [ev_eq (x := x) h]
theorem fillA_eq {ρ ρ' : List AV} : ∀ {ps : List (Nat × Nat × X)} {cs : List AV}, Agree ρ ρ' (ps.flatMap fun p => p.2.2.tmps) → fillA ρ cs ps = fillA ρ' cs ps
  | [], _, _ => rfl
  | (off, k, x) :: r, cs, h => by
    simp only [fillA]
    rw [ev_eq (x := x) (fun t ht => h t (by simp [ht]))]
    split
    · exact fillA_eq (fun t ht => h t (by simp only [List.flatMap_cons, List.mem_append]; exact .inr ht))
    · rfl

theorem Agree.left {ρ ρ' : List AV} {a b : List Nat} (h : Agree ρ ρ' (a ++ b)) : Agree ρ ρ' a := fun t ht => h t (by simp [ht])
theorem Agree.right {ρ ρ' : List AV} {a b : List Nat} (h : Agree ρ ρ' (a ++ b)) : Agree ρ ρ' b := fun t ht => h t (by simp [ht])

theorem astep_uses {CP : CallP} {nm : Nat} {ρ ρ' : List AV} {σ : St} {K : AV → St → Prop} {i : I} (h : Agree ρ ρ' i.uses) : astep CP nm ρ σ K i = astep CP nm ρ' σ K i := by
  cases i <;> simp only [I.uses] at h
  case alloc => rfl
  case mkMap => rfl
  case panic => rfl
  case build => simp only [astep]; rw [fillA_eq h]
  case bslice => simp only [astep]; rw [evs_eq h]
  case mn => simp only [astep]; rw [evs_eq h]
  case mx => simp only [astep]; rw [evs_eq h]
  case call => simp only [astep]; rw [evs_eq h]
  case qcall => simp only [astep]; rw [evs_eq h]
  case mkF => simp only [astep]; rw [evs_eq h.left, evs_eq h.right]
  case callv => simp only [astep]; rw [ev_eq h.left, evs_eq h.right]
  case qcallv => simp only [astep]; rw [ev_eq h.left, evs_eq h.right]
  case slice => simp only [astep]; rw [ev_eq h.left.left, idx_eq h.left.right]; simp only [idx_eq h.right]
  case sslice => simp only [astep]; rw [ev_eq h.left.left, idx_eq h.left.right]; simp only [idx_eq h.right]
  case pick => simp only [astep]; rw [ev_eq h.left.left, ev_eq h.left.right, ev_eq h.right]
  case mapUp => simp only [astep]; rw [ev_eq h.left.left, ev_eq h.left.right, ev_eq h.right]
  all_goals first
    | (simp only [astep]; rw [ev_eq h]; done)
    | (simp only [astep]; rw [ev_eq h.left, ev_eq h.right]; done)

/-! ### One operation, its guard too -/
def gd (ρ : List AV) : Option (Nat × Bool) → Option Bool
  | none => some true
  | some (t, b) => match ρ.getD t .any with
    | .bool c => some (c == b)
    | .tup [] => some false
    | _ => none

def aone (CP : CallP) (nm : Nat) (o : O) (ρ : List AV) (σ : St) (K : List AV → St → Prop) : Prop :=
  match gd ρ o.g with
  | some true => astep CP nm ρ σ (fun v σ' => K (setd ρ v o.dst) σ') o.i
  | some false => K (setd ρ (.tup []) o.dst) σ
  | none => False

theorem aops_aone {CP : CallP} {base i : Nat} {o : O} {r : List O} {ρ : List AV} {σ : St} {K : List AV → St → Prop} (h : aops CP base i (o :: r) ρ σ K) : aone CP (base + i) o ρ σ (fun ρ' σ' => aops CP base (i + 1) r ρ' σ' K) := by
  unfold aone
  simp only [aops] at h
  cases hg : o.g with
  | none => simp only [hg, gd] at h ⊢; exact h
  | some p =>
    obtain ⟨t, b⟩ := p
    simp only [hg, gd] at h ⊢
    split at h
    · rename_i c hc
      simp only [hc]
      by_cases hcb : c = b
      · have h2 : (c == b) = true := by simpa using hcb
        rw [h2]; exact h.1 hcb
      · have : c = !b := by cases c <;> cases b <;> simp_all
        have h2 : (c == b) = false := by simpa using hcb
        rw [h2]; exact h.2 this
    · rename_i hc; simp only [hc]; exact h
    · exact h.elim

def Yv (CP : CallP) (nm : Nat) (o : O) (ρ : List AV) (σ : St) (v : AV) (σ' : St) : Prop :=
  match gd ρ o.g with
  | some true => W CP nm o.i ρ σ v σ'
  | some false => v = .tup [] ∧ σ' = σ
  | none => False

theorem aone_det {CP : CallP} {nm : Nat} {o : O} {ρ : List AV} {σ : St} {K : List AV → St → Prop} (hc : o.i.isCall = false) (h : aone CP nm o ρ σ K) : ∃ v σ', Yv CP nm o ρ σ v σ' ∧ K (setd ρ v o.dst) σ' := by
  unfold aone at h; unfold Yv
  split at h
  · exact det hc h
  · exact ⟨_, _, ⟨rfl, rfl⟩, h⟩
  · exact h.elim
theorem Yv.use {CP : CallP} (hCP : CPMono CP) {nm : Nat} {o : O} {ρ : List AV} {σ σ' : St} {v : AV} {K : List AV → St → Prop} (h : Yv CP nm o ρ σ v σ') (hk : K (setd ρ v o.dst) σ') : aone CP nm o ρ σ K := by
  unfold Yv at h; unfold aone
  split at h
  · exact h.use hCP hk
  · rw [h.1, h.2] at hk; exact hk
  · exact h.elim
theorem Yv.ro {CP : CallP} {nm : Nat} {o : O} {ρ : List AV} {σ σ' : St} {v : AV} (hc : o.i.cat = 0 ∨ o.i.cat = 1 ∨ o.i.cat = 4 ∨ o.i.cat = 5) (h : Yv CP nm o ρ σ v σ') : σ' = σ := by
  unfold Yv at h
  split at h
  · exact h.ro hc
  · exact h.2
  · exact h.elim
theorem Yv.pure {CP : CallP} {nm : Nat} {o : O} {ρ : List AV} {σ σ' : St} {v : AV} (hc : o.i.cat = 0) (h : Yv CP nm o ρ σ v σ') (σ2 : St) : Yv CP nm o ρ σ2 v σ2 := by
  unfold Yv at *
  split at h
  · exact h.pure hc σ2
  · exact ⟨h.1, rfl⟩
  · exact h.elim
theorem Yv.made {CP : CallP} {nm : Nat} {o : O} {ρ : List AV} {σ σ' : St} {v : AV} (hc : o.i.cat = 2) (h : Yv CP nm o ρ σ v σ') :
    (∃ r, σ' = σ.set nm r ∧ ∀ σ2, Yv CP nm o ρ σ2 v (σ2.set nm r)) ∨ (σ' = σ ∧ ∀ σ2, Yv CP nm o ρ σ2 v σ2) := by
  unfold Yv at *
  split at h
  · exact .inl (h.made hc)
  · exact .inr ⟨h.2, fun σ2 => ⟨h.1, rfl⟩⟩
  · exact h.elim
theorem Yv.checked {CP : CallP} {nm : Nat} {o : O} {ρ : List AV} {σ σ' : St} {v : AV} {j base : Nat} (hc : o.i.cat = 5) (hp : o.i.placed j = true) (hnm : nm = base + j) (h : Yv CP nm o ρ σ v σ') :
    σ' = σ ∧ ∀ σ2, (∀ n, n < base → σ2.res n = σ.res n) → Yv CP nm o ρ σ2 v σ2 := by
  unfold Yv at *
  split at h
  · exact h.checked hc hp hnm
  · exact ⟨h.2, fun σ2 _ => ⟨h.1, rfl⟩⟩
  · exact h.elim
theorem gd_eq {ρ ρ' : List AV} {o : O} (h : Agree ρ ρ' o.looks) : gd ρ o.g = gd ρ' o.g := by
  unfold O.looks at h
  cases hg : o.g with
  | none => rfl
  | some p =>
    rw [hg] at h
    simp only [gd]
    rw [h.right p.1 (by simp)]
theorem Yv.agree {CP : CallP} {nm : Nat} {o : O} {ρ ρ' : List AV} {σ σ' : St} {v : AV} (ha : Agree ρ ρ' o.looks) (h : Yv CP nm o ρ σ v σ') : Yv CP nm o ρ' σ v σ' := by
  unfold Yv at *
  rw [← gd_eq ha]
  split at h
  · unfold W at *; rw [← astep_uses (ρ := ρ) (ρ' := ρ') (show Agree ρ ρ' o.i.uses from (show Agree ρ ρ' (o.i.uses ++ _) from ha).left)]; exact h
  · exact h
  · exact h.elim

theorem getD_set_ne' {ρ : List AV} {d t : Nat} {v : AV} (h : d ≠ t) : (ρ.set d v).getD t .any = ρ.getD t .any := by
  simp [List.getD_eq_getElem?_getD, List.getElem?_set_ne h]
theorem agree_setd {ρ : List AV} {v : AV} {d : Option Nat} {l : List Nat} (h : (match d with | some d => !l.contains d | none => true) = true) : Agree (setd ρ v d) ρ l := by
  intro t ht
  cases d with
  | none => rfl
  | some d =>
    simp only [Bool.not_eq_true'] at h
    have : d ≠ t := fun e => by
      subst e
      have : l.contains d = true := by simpa using ht
      rw [this] at h; cases h
    exact getD_set_ne' this
theorem agree_sym {ρ ρ' : List AV} {l : List Nat} (h : Agree ρ ρ' l) : Agree ρ' ρ l := fun t ht => (h t ht).symm
theorem setd_comm {ρ : List AV} {u v : AV} {d e : Option Nat} (h : (match d, e with | some d, some e => d != e | _, _ => true) = true) : setd (setd ρ u d) v e = setd (setd ρ v e) u d := by
  cases d <;> cases e <;> simp only [setd]
  simp only [bne_iff_ne, ne_eq] at h
  exact List.set_comm _ _ h

theorem swap {CP : CallP} (hCP : CPMono CP) {base j1 j2 : Nat} {o1 o2 : O} {ρ : List AV} {σ : St} {K : List AV → St → Prop} (hi : indep o1 o2 = true) (hj : j1 ≠ j2) (hp1 : o1.i.placed j1 = true) (hp2 : o2.i.placed j2 = true) (hc1 : o1.i.isCall = false) (hc2 : o2.i.isCall = false)
    (h : aone CP (base + j1) o1 ρ σ (fun ρ' σ' => aone CP (base + j2) o2 ρ' σ' K)) : aone CP (base + j2) o2 ρ σ (fun ρ' σ' => aone CP (base + j1) o1 ρ' σ' K) := by
  unfold indep at hi
  simp only [Bool.and_eq_true] at hi
  obtain ⟨⟨⟨hcat, hd1⟩, hd2⟩, hdd⟩ := hi
  obtain ⟨v1, σ1, y1, h⟩ := aone_det hc1 h
  obtain ⟨v2, σ2, y2, hk⟩ := aone_det hc2 h
  have z2 : Yv CP (base + j2) o2 ρ σ1 v2 σ2 := y2.agree (agree_setd hd1)
  have z1 : ∀ {σ σ1}, Yv CP (base + j1) o1 ρ σ v1 σ1 → Yv CP (base + j1) o1 (setd ρ v2 o2.dst) σ v1 σ1 := fun y => y.agree (agree_sym (agree_setd hd2))
  rw [setd_comm hdd] at hk
  unfold catOk at hcat
  simp only [Bool.or_eq_true, Bool.and_eq_true, beq_iff_eq] at hcat
  have both : (o1.i.cat = 0 ∨ o1.i.cat = 1 ∨ o1.i.cat = 4 ∨ o1.i.cat = 5) → (o2.i.cat = 0 ∨ o2.i.cat = 1 ∨ o2.i.cat = 4 ∨ o2.i.cat = 5) → aone CP (base + j2) o2 ρ σ (fun ρ' σ' => aone CP (base + j1) o1 ρ' σ' K) := by
    intro c1 c2
    have e1 := y1.ro c1; subst e1
    have e2 := z2.ro c2; subst e2
    exact z2.use hCP ((z1 y1).use hCP hk)
  have hlt : ∀ n j, n < base → n ≠ base + j := fun n j h => by omega
  have h52 : o1.i.cat = 5 → o2.i.cat = 2 → aone CP (base + j2) o2 ρ σ (fun ρ' σ' => aone CP (base + j1) o1 ρ' σ' K) := by
    intro c1 c2
    obtain ⟨e1, q⟩ := y1.checked c1 hp1 rfl
    subst e1
    have hs : ∀ n, n < base → σ2.res n = σ1.res n := by
      intro n hn
      rcases z2.made c2 with ⟨r, e, _⟩ | ⟨e, _⟩
      · rw [e, St.set_other _ _ (hlt n j2 hn)]
      · rw [e]
    exact z2.use hCP ((z1 (q σ2 hs)).use hCP hk)
  have h25 : o1.i.cat = 2 → o2.i.cat = 5 → aone CP (base + j2) o2 ρ σ (fun ρ' σ' => aone CP (base + j1) o1 ρ' σ' K) := by
    intro c1 c2
    obtain ⟨e2, q⟩ := z2.checked c2 hp2 rfl
    subst e2
    have hs : ∀ n, n < base → σ.res n = σ2.res n := by
      intro n hn
      rcases y1.made c1 with ⟨r, e, _⟩ | ⟨e, _⟩
      · rw [e, St.set_other _ _ (hlt n j1 hn)]
      · rw [e]
    exact (q σ hs).use hCP ((z1 y1).use hCP hk)
  have h22 : o1.i.cat = 2 → o2.i.cat = 2 → aone CP (base + j2) o2 ρ σ (fun ρ' σ' => aone CP (base + j1) o1 ρ' σ' K) := by
    intro c1 c2
    rcases y1.made c1 with ⟨r1, e1, q1⟩ | ⟨e1, q1⟩
    · rcases z2.made c2 with ⟨r2, e2, q2⟩ | ⟨e2, q2⟩
      · refine (q2 σ).use hCP ((z1 (q1 _)).use hCP ?_)
        rw [St.set_comm _ _ _ (by omega), ← e1, ← e2]; exact hk
      · refine (q2 σ).use hCP ((z1 (q1 _)).use hCP ?_)
        rw [← e1, ← e2]; exact hk
    · subst e1
      exact z2.use hCP ((z1 (q1 σ2)).use hCP hk)
  rcases hcat with ((((((hcat | hcat) | hcat) | hcat) | hcat) | hcat) | hcat) | hcat
  · have e1 := y1.ro (.inl hcat); subst e1
    exact z2.use hCP (((z1 y1).pure hcat σ2).use hCP hk)
  · have e2 := z2.ro (.inl hcat); subst e2
    exact (z2.pure hcat σ).use hCP ((z1 y1).use hCP hk)
  · exact both (.inr (.inl hcat.1)) (.inr (.inl hcat.2))
  · exact both (.inr (.inl hcat.1)) (.inr (.inr (.inl hcat.2)))
  · exact both (.inr (.inr (.inl hcat.1))) (.inr (.inl hcat.2))
  · exact h22 hcat.1 hcat.2
  · obtain ⟨c1, c2⟩ := hcat
    rcases c2 with ((c2 | c2) | c2) | c2
    · exact both (.inr (.inr (.inr c1))) (.inr (.inl c2))
    · exact h52 c1 c2
    · exact both (.inr (.inr (.inr c1))) (.inr (.inr (.inl c2)))
    · exact both (.inr (.inr (.inr c1))) (.inr (.inr (.inr c2)))
  · obtain ⟨c2, c1⟩ := hcat
    rcases c1 with (c1 | c1) | c1
    · exact both (.inr (.inl c1)) (.inr (.inr (.inr c2)))
    · exact h25 c1 c2
    · exact both (.inr (.inr (.inl c1))) (.inr (.inr (.inr c2)))

/-! ### Whatever order -/
def aSeq (CP : CallP) (base : Nat) (l : List O) : List Nat → List AV → St → (List AV → St → Prop) → Prop
  | [], ρ, σ, K => K ρ σ
  | i :: is, ρ, σ, K => match l[i]? with
    | some o => aone CP (base + i) o ρ σ (fun ρ' σ' => aSeq CP base l is ρ' σ' K)
    | none => False

theorem aone_mono {CP : CallP} (hCP : CPMono CP) {nm : Nat} {o : O} {ρ : List AV} {σ : St} {K K' : List AV → St → Prop} (hk : ∀ ρ σ, K ρ σ → K' ρ σ) (h : aone CP nm o ρ σ K) : aone CP nm o ρ σ K' := by
  unfold aone at *
  split at h
  · exact astep_mono hCP (fun _ _ h => hk _ _ h) h
  · exact hk _ _ h
  · exact h.elim

/-- an operation that none ahead of it sees comes first -/
theorem front {CP : CallP} (hCP : CPMono CP) {base : Nat} {l : List O} (hc : ∀ o ∈ l, o.i.isCall = false) {i : Nat} {o : O} (ho : l[i]? = some o) {K : List AV → St → Prop} :
    ∀ (is js : List Nat) {ρ : List AV} {σ : St}, (∀ j ∈ is, ∀ p, l[j]? = some p → j ≠ i ∧ (indep p o && p.i.placed j && o.i.placed i) = true) → aSeq CP base l (is ++ i :: js) ρ σ K → aone CP (base + i) o ρ σ (fun ρ' σ' => aSeq CP base l (is ++ js) ρ' σ' K)
  | [], js, ρ, σ, _, h => by simpa [aSeq, ho] using h
  | j :: is, js, ρ, σ, hin, h => by
    simp only [List.cons_append, aSeq] at h ⊢
    cases hj : l[j]? with
    | none => rw [hj] at h; exact h.elim
    | some p =>
      rw [hj] at h
      simp only at h ⊢
      have h' := aone_mono hCP (fun ρ σ h => front hCP hc ho is js (fun j' hj' => hin j' (List.mem_cons_of_mem _ hj')) h) h
      obtain ⟨hji, hx⟩ := hin j (by simp) p hj
      simp only [Bool.and_eq_true] at hx
      exact swap hCP hx.1.1 hji hx.1.2 hx.2 (hc p (List.mem_of_getElem? hj)) (hc o (List.mem_of_getElem? ho)) h'

def aAny (CP : CallP) (ops : Array Oper) (base : Nat) (l : List O) (K : List AV → St → Prop) : Nat → Array Bool → List AV → St → Prop
  | 0, listed, ρ, σ => Region.ready .any ops listed = [] ∧ K ρ σ
  | fuel + 1, listed, ρ, σ => (Region.ready .any ops listed = [] → K ρ σ) ∧ ∀ i ∈ Region.ready .any ops listed, match l[i]? with
    | some o => aone CP (base + i) o ρ σ (fun ρ' σ' => aAny CP ops base l K fuel (listed.setIfInBounds i true) ρ' σ')
    | none => False

def left (ops : Array Oper) (listed : Array Bool) : List Nat := (List.range ops.size).filter fun i => !listed.getD i true

/-- what a mask tells of an operation -/
def MaskOk (listed : Array Bool) (i m : Nat) : Prop := ∀ j, m.testBit j = true → listed.getD i false = true → listed.getD j false = true

theorem mask_fold {listed : Array Bool} {i : Nat} {acc : List Nat} (hacc : ∀ k m, acc[k]? = some m → MaskOk listed k m) : ∀ (es : List Edge) (m : Nat), (∀ e ∈ es, Region.binds .any e = true → listed.getD i false = true → listed.getD e.on false = true) → MaskOk listed i m →
    MaskOk listed i (es.foldl (fun m e => if Region.binds .any e then m ||| (2 ^ e.on ||| acc.getD e.on 0) else m) m)
  | [], m, _, h => h
  | e :: es, m, he, h => by
    simp only [List.foldl_cons]
    refine mask_fold hacc es _ (fun e' he' => he e' (List.mem_cons_of_mem _ he')) ?_
    split
    · rename_i hb
      intro j hj hi
      simp only [Nat.testBit_or, Bool.or_eq_true, Nat.testBit_two_pow, decide_eq_true_eq] at hj
      have hon := he e (List.mem_cons_self ..) hb hi
      rcases hj with hj | hj | hj
      · exact h j hj hi
      · rw [← hj]; exact hon
      · cases ha : acc[e.on]? with
        | none => rw [List.getD_eq_getElem?_getD, ha] at hj; simp at hj
        | some m' =>
          rw [List.getD_eq_getElem?_getD, ha] at hj
          exact hacc e.on m' ha j hj hon
    · exact h

theorem masks_ok {listed : Array Bool} : ∀ (ops : List Oper) (acc : List Nat), (∀ k o, ops[k]? = some o → listed.getD (acc.length + k) false = true → ∀ e ∈ o.after, Region.binds .any e = true → listed.getD e.on false = true) →
    (∀ k m, acc[k]? = some m → MaskOk listed k m) → ∀ k m, (masks ops acc)[k]? = some m → MaskOk listed k m
  | [], acc, _, h => h
  | o :: r, acc, hcl, h => by
    unfold masks
    refine masks_ok r _ (fun k o' hk => ?_) (fun k m hk => ?_)
    · have := hcl (k + 1) o' (by simpa using hk)
      rwa [List.length_append, List.length_singleton, Nat.add_assoc, Nat.add_comm 1 k]
    · rw [List.getElem?_append] at hk
      split at hk
      · exact h k m hk
      · rename_i hge
        have hk0 : k = acc.length := by
          have := (List.getElem?_eq_some_iff.1 hk).1
          simp only [List.length_singleton] at this
          omega
        subst hk0
        simp only [Nat.sub_self, List.getElem?_cons_zero, Option.some.injEq] at hk
        subst hk
        refine mask_fold h _ _ (fun e he hb hi => hcl 0 o rfl (by simpa using hi) e (by simpa using he) hb) (fun j hj => ?_)
        simp at hj

theorem any_of_seq {CP : CallP} (hCP : CPMono CP) {ops : Array Oper} {base : Nat} {l : List O} {K : List AV → St → Prop} (hlen : l.length = ops.size) (hc : ∀ o ∈ l, o.i.isCall = false) (hcomm : commOk ops l = true) (hback : backOk ops = true) :
    ∀ (fuel : Nat) (listed : Array Bool) (ρ : List AV) (σ : St), listed.size = ops.size → (left ops listed).length = fuel →
      (∀ i o, ops[i]? = some o → listed.getD i false = true → ∀ e ∈ o.after, Region.binds .any e = true → listed.getD e.on false = true) →
      aSeq CP base l (left ops listed) ρ σ K → aAny CP ops base l K fuel listed ρ σ := by
  have hrl : ∀ listed i, i ∈ Region.ready .any ops listed → i ∈ left ops listed := by
    intro listed i hi
    obtain ⟨h1, o, ho, _⟩ := mem_ready.1 hi
    simp only [left, List.mem_filter, List.mem_range, h1, Bool.not_false, and_true]
    exact (Array.getElem?_eq_some_iff.1 ho).1
  intro fuel
  induction fuel with
  | zero =>
    intro listed ρ σ hsz hf hcl h
    have hnil : left ops listed = [] := List.length_eq_zero_iff.1 hf
    rw [hnil] at h
    refine ⟨?_, h⟩
    cases hr : Region.ready .any ops listed with
    | nil => rfl
    | cons i r =>
      have := hrl listed i (by rw [hr]; simp)
      rw [hnil] at this; cases this
  | succ fuel ih =>
    intro listed ρ σ hsz hf hcl h
    refine ⟨fun hnil => ?_, fun i hi => ?_⟩
    · exfalso
      cases hl : left ops listed with
      | nil => rw [hl] at hf; cases hf
      | cons i r =>
        have hmem : i ∈ left ops listed := by rw [hl]; simp
        simp only [left, List.mem_filter, List.mem_range, Bool.not_eq_true'] at hmem
        have hmin : ∀ j, j < i → listed.getD j true = true := by
          intro j hj
          cases hx : listed.getD j true with
          | true => rfl
          | false =>
            exfalso
            have hjm : j ∈ left ops listed := by
              simp only [left, List.mem_filter, List.mem_range, hx, Bool.not_false, and_true]; omega
            have hs : (left ops listed).Pairwise (· < ·) := List.Pairwise.filter _ List.pairwise_lt_range
            rw [hl] at hs hjm
            rcases List.mem_cons.1 hjm with rfl | hjm
            · omega
            · have := (List.pairwise_cons.1 hs).1 j hjm
              omega
        have : i ∈ Region.ready .any ops listed := by
          obtain ⟨o, ho⟩ : ∃ o, ops[i]? = some o := ⟨ops[i], by simp [hmem.1]⟩
          refine mem_ready.2 ⟨hmem.2, o, ho, fun e he hb => ?_⟩
          unfold backOk at hback
          have h1 := List.all_eq_true.1 hback i (by simpa using hmem.1)
          rw [ho] at h1
          have h2 := (Array.all_eq_true_iff_forall_mem.1 h1) e he
          simp only [hb, Bool.not_true, Bool.false_or, decide_eq_true_eq] at h2
          have h3 := hmin _ h2
          have hlt : e.on < listed.size := by rw [hsz]; omega
          simpa [hlt] using h3
        rw [hnil] at this; cases this
    · have him := hrl listed i hi
      obtain ⟨h1, oo, hoo, hdeps⟩ := mem_ready.1 hi
      have hilt : i < ops.size := (Array.getElem?_eq_some_iff.1 hoo).1
      obtain ⟨o, ho⟩ : ∃ o, l[i]? = some o := ⟨l[i], by simp [hlen, hilt]⟩
      rw [ho]
      simp only
      obtain ⟨is, js, hsplit⟩ := List.append_of_mem him
      have hs : (left ops listed).Pairwise (· < ·) := List.Pairwise.filter _ List.pairwise_lt_range
      have hlt : ∀ j ∈ is, j < i := by
        intro j hj
        rw [hsplit] at hs
        exact (List.pairwise_append.1 hs).2.2 j hj i (by simp)
      have hgt : ∀ j ∈ js, i < j := by
        intro j hj
        rw [hsplit] at hs
        exact (List.pairwise_cons.1 (List.pairwise_append.1 hs).2.1).1 j hj
      have hleft : left ops (listed.setIfInBounds i true) = is ++ js := by
        have e1 : left ops (listed.setIfInBounds i true) = (left ops listed).filter (fun j => j != i) := by
          simp only [left, List.filter_filter]
          apply List.filter_congr
          intro j hj
          by_cases hji : j = i
          · subst hji
            have hjl : j < listed.size := by rw [hsz]; exact hilt
            simp [hjl]
          · rw [getD_set_ne true (Ne.symm hji)]; simp [hji]
        rw [e1, hsplit, List.filter_append, List.filter_cons]
        simp only [bne_self_eq_false, Bool.false_eq_true, if_false]
        rw [List.filter_eq_self.2 (fun j hj => by have := hlt j hj; simp; omega), List.filter_eq_self.2 (fun j hj => by have := hgt j hj; simp; omega)]
      rw [hsplit] at h
      have hfr := front hCP hc ho is js (fun j hj p hp => ?_) h
      · refine aone_mono hCP (fun ρ' σ' h' => ih (listed.setIfInBounds i true) ρ' σ' (by simp [hsz]) ?_ ?_ (by rw [hleft]; exact h')) hfr
        · rw [hleft]; rw [hsplit] at hf; simp at hf ⊢; omega
        · intro k ok hk hkl e he hb
          have hun : ∀ m, listed.getD m false = true → (listed.setIfInBounds i true).getD m false = true := by
            intro m hm
            by_cases hmi : i = m
            · subst hmi
              have : i < listed.size := by rw [hsz]; exact hilt
              simp [this]
            · rw [getD_set_ne false hmi]; exact hm
          by_cases hki : i = k
          · subst hki
            have : ok = oo := Option.some.inj (hk.symm.trans hoo)
            subst this
            exact hun _ (hdeps e he hb)
          · rw [getD_set_ne false hki] at hkl
            exact hun _ (hcl k ok hk hkl e he hb)
      · have hjm : j ∈ left ops listed := by rw [hsplit]; simp [hj]
        simp only [left, List.mem_filter, List.mem_range, Bool.not_eq_true'] at hjm
        unfold commOk at hcomm
        have h2 := List.all_eq_true.1 (List.all_eq_true.1 hcomm i (by simpa using hilt)) j (by simpa using hlt j hj)
        simp only [Bool.or_eq_true] at h2
        rcases h2 with h2 | h2
        · exfalso
          have hjl : listed.getD j false = true := by
            -- what i waits for is listed
            have hil : ∀ e ∈ oo.after, Region.binds .any e = true → listed.getD e.on false = true := hdeps
            have hmk := masks_ok (listed := listed.setIfInBounds i true) ops.toList [] (fun k ok hk hkl e he hb => ?_) (fun k m hk => by simp at hk)
            · cases hm : (masks ops.toList [])[i]? with
              | none => rw [List.getD_eq_getElem?_getD, hm] at h2; simp at h2
              | some m =>
                rw [List.getD_eq_getElem?_getD, hm] at h2
                have hii : (listed.setIfInBounds i true).getD i false = true := by
                  have : i < listed.size := by rw [hsz]; exact hilt
                  simp [this]
                have := hmk i m hm j h2 hii
                rwa [getD_set_ne false (Ne.symm (Nat.ne_of_lt (hlt j hj)))] at this
            · have hok : ops[k]? = some ok := by simpa using hk
              rw [List.length_nil, Nat.zero_add] at hkl
              have hon : listed.getD e.on false = true := by
                by_cases hki : i = k
                · subst hki
                  have : ok = oo := Option.some.inj (hok.symm.trans hoo)
                  subst this
                  exact hil e he hb
                · rw [getD_set_ne false hki] at hkl
                  exact hcl k ok hok hkl e he hb
              by_cases hei : i = e.on
              · have : i < listed.size := by rw [hsz]; exact hilt
                rw [← hei]; simp [this]
              · rw [getD_set_ne false hei]; exact hon
          have hjlt : j < listed.size := by rw [hsz]; exact hjm.1
          have h4 := hjm.2
          simp [hjlt] at hjl h4
          rw [h4] at hjl; cases hjl
        · rw [hp, ho] at h2; exact ⟨Nat.ne_of_lt (hlt j hj), h2⟩

theorem aSeq_of_aops {CP : CallP} (hCP : CPMono CP) {base : Nat} {l : List O} {K : List AV → St → Prop} : ∀ (r : List O) (k : Nat) {ρ : List AV} {σ : St}, (∀ j, r[j]? = l[k + j]?) → aops CP base k r ρ σ K → aSeq CP base l (List.range' k r.length) ρ σ K
  | [], k, ρ, σ, _, h => h
  | o :: r, k, ρ, σ, hl, h => by
    have h0 : l[k]? = some o := by simpa using (hl 0).symm
    simp only [List.length_cons, List.range'_succ, aSeq, h0]
    exact aone_mono hCP (fun ρ σ h => aSeq_of_aops hCP r (k + 1) (fun j => by have := hl (j + 1); simpa [Nat.add_assoc, Nat.add_comm 1 j] using this) h) (aops_aone h)

theorem aAny_of_aops {CP : CallP} (hCP : CPMono CP) {ops : Array Oper} {base : Nat} {l : List O} {K : List AV → St → Prop} (hlen : l.length = ops.size) (hc : ∀ o ∈ l, o.i.isCall = false) (hcomm : commOk ops l = true) (hback : backOk ops = true)
    {ρ : List AV} {σ : St} (h : aops CP base 0 l ρ σ K) : aAny CP ops base l K ops.size (Array.replicate ops.size false) ρ σ := by
  have hleft : left ops (Array.replicate ops.size false) = List.range ops.size := by
    unfold left
    apply List.filter_eq_self.2
    intro i hi
    have : i < ops.size := by simpa using hi
    simp [this]
  refine any_of_seq hCP hlen hc hcomm hback _ _ _ _ (by simp) (by rw [hleft]; simp) (fun i o _ h => ?_) ?_
  · exfalso
    rcases Nat.lt_or_ge i ops.size with h' | h'
    · simp [h'] at h
    · simp [h'] at h
  · rw [hleft, List.range_eq_range', ← hlen]
    exact aSeq_of_aops hCP l 0 (by simp) h

end Go.VL
