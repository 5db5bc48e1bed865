/- The value logic, part S: walking. -/
import Derived.Test.YtlbnimbgodmagaaVlR
namespace Go.VL

/-- what stands at a place of a list -/
theorem gd0 {x : AV} {l : List AV} : (x :: l).getD 0 .any = x := rfl
theorem gds {x : AV} {l : List AV} {n : Nat} : (x :: l).getD (n + 1) .any = l.getD n .any := rfl

/-- a value list's length is any -/
theorem T.seq_k {P : Program} {A : Ann} {x y : C} {Q : Ex → List AV → St → Prop} {ρ : List AV} {σ : St} (h : ∀ K : List AV → St → Prop, (∀ ρ σ, T P A y Q ρ σ → K ρ σ) → T P A x (Ex.then K Q) ρ σ) : T P A (.seq x y) Q ρ σ :=
  T.seq (h _ fun _ _ h => h)

/-- (the thing itself is looked at first: else what follows is walked once too often at each step) -/
theorem opt_def {α : Type} (K : α → Prop) (z : Option α) : opt K z = (match z with | some v => K v | none => False) := by cases z <;> rfl
theorem then_normal {K : List AV → St → Prop} {Q : Ex → List AV → St → Prop} : Ex.then K Q .normal = K := rfl
theorem then_ret {K : List AV → St → Prop} {Q : Ex → List AV → St → Prop} : Ex.then K Q .ret = Q .ret := rfl
theorem then_exit {K : List AV → St → Prop} {Q : Ex → List AV → St → Prop} {i : Nat} : Ex.then K Q (.exit i) = Q (.exit i) := rfl
theorem inBlock_normal {Q : Ex → List AV → St → Prop} {i : Nat} : Ex.inBlock i Q .normal = Q .normal := rfl
theorem inBlock_ret {Q : Ex → List AV → St → Prop} {i : Nat} : Ex.inBlock i Q .ret = Q .ret := rfl
theorem inBlock_exit {Q : Ex → List AV → St → Prop} {i : Nat} : Ex.inBlock i Q (.exit i) = Q .normal := by funext ρ σ; simp [Ex.inBlock]
theorem lt_len {α : Type} (i : Nat) (l : List α) : ((i : Int) < (l.length : Int)) = (i < l.length) := by simp
theorem le_len {α : Type} (i : Nat) (l : List α) : ((i : Int) ≤ (l.length : Int)) = (i ≤ l.length) := by simp
/-- a long row of one thing -/
def zeros (n : Nat) (x : AV) : List AV := List.replicate n x

theorem er_int (k : IntKind) (n : Int) : (AV.int k n).er = .int k n := rfl
theorem er_bool (b : Bool) : (AV.bool b).er = .bool b := rfl
theorem er_str (s : ByteArray) : (AV.str s).er = .str s := rfl
theorem up_zero (σ : St) : σ.up 0 = σ := rfl

theorem Fin.ret {σ0 : St} {rs : List RX} {K : AV → St → Prop} {ρ : List AV} {σ : St} {xs : List AV} (h1 : rvals ρ σ rs = some xs) (h2 : K (pack xs) σ) : Fin σ0 rs K .ret ρ σ :=
  ⟨ρ, σ, xs, _, σ, .refl, h1, .refl, h2⟩
theorem Fin.retn {σ0 : St} {rs : List RX} {K : AV → St → Prop} {ρ : List AV} {σ : St} {xs : List AV} (h1 : rvals ρ σ rs = some xs) (h2 : K (pack xs) σ) : Fin σ0 rs K .normal ρ σ :=
  ⟨ρ, σ, xs, _, σ, .refl, h1, .refl, h2⟩
theorem Fin.retw {σ0 : St} {rs : List RX} {K : AV → St → Prop} {ρ : List AV} {σ : St} {xs : List AV} {y : AV} (h1 : rvals ρ σ rs = some xs) (hw : Wk (pack xs) y) (h2 : K y σ) : Fin σ0 rs K .ret ρ σ :=
  ⟨ρ, σ, xs, y, σ, .refl, h1, .wk hw, h2⟩
theorem Fin.quiet {σ0 : St} {rs : List RX} {K : AV → St → Prop} {ρ : List AV} {σ : St} {xs : List AV} (h1 : rvals ρ σ rs = some xs) (hx : (pack xs).nb σ0.next) (hr : ∀ n r, σ0.res n = some r → σ.res n = some r) (h2 : K (pack xs) σ0) : Fin σ0 rs K .ret ρ σ :=
  ⟨ρ, σ, xs, _, σ0, .refl, h1, .quiet hx hr, h2⟩

/-- the same, a guard as 'if': it is looked at before what it guards -/
def aopsI (CP : CallP) (base : Nat) : Nat → List O → List AV → St → (List AV → St → Prop) → Prop
  | _, [], ρ, σ, K => K ρ σ
  | i, o :: r, ρ, σ, K =>
    match o.g with
    | none => astep CP (base + i) ρ σ (fun v σ' => aopsI CP base (i + 1) r (setd ρ v o.dst) σ' K) o.i
    | some (t, b) => match ρ.getD t .any with
      | .bool c => if c = b then astep CP (base + i) ρ σ (fun v σ' => aopsI CP base (i + 1) r (setd ρ v o.dst) σ' K) o.i else aopsI CP base (i + 1) r (setd ρ (.tup []) o.dst) σ K
      | .tup [] => aopsI CP base (i + 1) r (setd ρ (.tup []) o.dst) σ K
      | _ => False

theorem aops_of_I {CP : CallP} (hCP : CPMono CP) {base : Nat} {K : List AV → St → Prop} : ∀ {i : Nat} {l : List O} {ρ : List AV} {σ : St}, aopsI CP base i l ρ σ K → aops CP base i l ρ σ K
  | _, [], _, _, h => h
  | i, o :: r, ρ, σ, h => by
    simp only [aopsI] at h
    simp only [aops]
    cases hg : o.g with
    | none => rw [hg] at h; exact astep_mono hCP (fun v σ' h => aops_of_I hCP h) h
    | some p =>
      obtain ⟨t, b⟩ := p
      simp only [hg] at h ⊢
      split at h
      · rename_i c hc
        simp only [hc]
        split at h
        · rename_i hcb
          exact ⟨fun _ => astep_mono hCP (fun v σ' h => aops_of_I hCP h) h, fun h2 => by subst hcb; cases c <;> cases h2⟩
        · rename_i hcb
          exact ⟨fun h2 => absurd h2 hcb, fun _ => aops_of_I hCP h⟩
      · rename_i hc; simp only [hc]; exact aops_of_I hCP h
      · exact h.elim

theorem T.regi {P : Program} {A : Ann} {Q : Ex → List AV → St → Prop} {ρ : List AV} {σ : St} (hm : P.follows .mixedOrders = true) {l : List O} (h : aopsI (ACalls P) σ.next 0 l ρ (σ.up (namesOf l)) (Q .normal)) : T P A (.reg l) Q ρ σ :=
  T.reg hm (aops_of_I ACalls_mono h)

/-- what a call comes to may be told in another way -/
theorem ACalls.gv {P : Program} {f : Nat} {args : List AV} {σ : St} {K K' : AV → St → Prop} (h : ACalls P f args σ K) (hk : WF σ → ∀ v σ', K v σ' → ∃ v' σ'', Gv σ v σ' v' σ'' ∧ K' v' σ'') : ACalls P f args σ K' := by
  refine ⟨h.1, fun κ w vs B F hR hv => (h.2 κ w vs B F hR hv).mono ?_⟩
  rintro e w' ⟨v, x, κ', σ', rfl, h2, h3, h4, h5, h6, h7, h8⟩
  have hwf : WF σ := fun n hn => by
    cases hx : σ.res n with
    | none => rfl
    | some r => have := hR.dom n (hR.own n r hx).1; omega
  obtain ⟨x', σ'', hg, hk'⟩ := hk hwf x σ' h8
  obtain ⟨κ2, g1, g2, g3, g4, g5⟩ := hg κ w B F (ownd κ σ) κ' w' v hR h4 h2 h3 h6 h7
  exact ⟨v, x', κ2, σ'', rfl, g2, g3, g1, h5, g4, g5, hk'⟩

/-- but for one named end what is owned is as it was -/
structure OneTip (σ σ' : St) (g k : Nat) : Prop where
  lo : σ.next ≤ g
  hi : g < σ'.next
  res : σ'.res = (σ.set g (.tip k)).res

theorem OneTip.at_ {σ σ' : St} {g k : Nat} (h : OneTip σ σ' g k) : σ'.res g = some (.tip k) := by rw [h.res]; simp
theorem OneTip.new {σ : St} {n i k : Nat} (hi : i < n) : OneTip σ ((σ.up n).set (σ.next + i) (.tip k)) (σ.next + i) k := ⟨by omega, by simp; omega, rfl⟩
theorem OneTip.app {σ σ' : St} {g k n i : Nat} (wf : WF σ) (h : OneTip σ σ' g k) (hi : i < n) : OneTip σ (((σ'.up n).del g).set (σ'.next + i) (.tip k)) (σ'.next + i) k := by
  have h1 := h.lo
  have h2 := h.hi
  refine ⟨by omega, by simp; omega, ?_⟩
  funext m
  have hr := congrFun h.res m
  simp only [St.set, St.del, St.up] at hr ⊢
  by_cases hm : m = σ'.next + i
  · simp [hm]
  · simp only [hm, if_false]
    by_cases hg : m = g
    · subst hg; simp; exact (wf m h1).symm
    · simp [hg] at hr ⊢; exact hr
theorem OneTip.mv {σ σ' : St} {g g2 k : Nat} (wf : WF σ) (h : OneTip σ σ' g k) (hlo : σ.next ≤ g2) (hhi : g2 < σ'.next) : OneTip σ ((σ'.del g).set g2 (.tip k)) g2 k := by
  have h1 := h.lo
  refine ⟨hlo, by simpa using hhi, ?_⟩
  funext m
  have hr := congrFun h.res m
  simp only [St.set, St.del] at hr ⊢
  by_cases hm : m = g2
  · simp [hm]
  · simp only [hm, if_false]
    by_cases hg : m = g
    · subst hg; simp; exact (wf m h1).symm
    · simp [hg] at hr ⊢; exact hr
theorem OneTip.up {σ σ' : St} {g k : Nat} (h : OneTip σ σ' g k) (n : Nat) : OneTip σ (σ'.up n) g k := ⟨h.lo, Nat.lt_of_lt_of_le h.hi (Nat.le_add_right _ _), h.res⟩
theorem OneTip.down {σ σ' : St} {g k n : Nat} (h : OneTip (σ.up n) σ' g k) : OneTip σ σ' g k := ⟨Nat.le_trans (Nat.le_add_right _ _) h.lo, h.hi, h.res⟩
theorem OneTip.quiet {σ σ' : St} {g k : Nat} (wf : WF σ) (h : OneTip σ σ' g k) : ∀ n r, σ.res n = some r → σ'.res n = some r := by
  intro n r hr
  rw [h.res]
  have : n ≠ g := fun e => by subst e; rw [wf n h.lo] at hr; cases hr
  rw [St.set_other _ _ this]; exact hr

/-! ### A table of what quiet calls come to -/
def PureC (P : Program) (f : Nat) (g : List AV → Option AV) : Prop := ∀ args σ v, g args = some v → ACalls P f args σ (fun x σ' => x = v ∧ σ' = σ)

abbrev Tbl := List (Nat × (List AV → Option AV))
def Tbl.get : Tbl → Nat → Option (List AV → Option AV)
  | [], _ => none
  | p :: r, f => if p.1 = f then some p.2 else Tbl.get r f
def CPt (P : Program) (tbl : Tbl) (f : Nat) (args : List AV) (σ : St) (K : AV → St → Prop) : Prop :=
  match tbl.get f with
  | some g => opt (fun v => K v σ) (g args)
  | none => ACalls P f args σ K
def Tbl.ok (P : Program) (tbl : Tbl) : Prop := ∀ p ∈ tbl, PureC P p.1 p.2
theorem Tbl.ok_nil {P : Program} : Tbl.ok P [] := fun _ h => by cases h
theorem Tbl.ok_cons {P : Program} {f : Nat} {g : List AV → Option AV} {tbl : Tbl} (h : PureC P f g) (t : Tbl.ok P tbl) : Tbl.ok P ((f, g) :: tbl) := fun p hp => by
  rcases List.mem_cons.1 hp with rfl | hp
  · exact h
  · exact t p hp
theorem Tbl.get_ok {P : Program} : ∀ {tbl : Tbl}, tbl.ok P → ∀ {f : Nat} {g : List AV → Option AV}, tbl.get f = some g → PureC P f g
  | [], _, _, _, h => by cases h
  | p :: r, hok, f, g, h => by
    simp only [Tbl.get] at h
    split at h
    · rename_i he
      simp only [Option.some.injEq] at h
      subst he; subst h
      exact hok p (by simp)
    · exact Tbl.get_ok (fun q hq => hok q (List.mem_cons_of_mem _ hq)) h
theorem CPt_le {P : Program} {tbl : Tbl} (hok : tbl.ok P) {f : Nat} {args : List AV} {σ : St} {K : AV → St → Prop} (h : CPt P tbl f args σ K) : ACalls P f args σ K := by
  unfold CPt at h
  split at h
  · rename_i g hg
    obtain ⟨v, hv, hk⟩ := opt_some h
    exact (Tbl.get_ok hok hg args σ v hv).mono fun x σ' ⟨e1, e2⟩ => by rw [e1, e2]; exact hk
  · exact h
theorem CPt_mono {P : Program} {tbl : Tbl} : CPMono (CPt P tbl) := by
  intro f args σ K K' hk h
  unfold CPt at *
  split at h
  · exact opt_mono (fun v h => hk v σ h) h
  · exact h.mono hk

/-- a quiet call, as a table tells it -/
def qstep (CP : CallP) (nm : Nat) (ρ : List AV) (σ : St) (K : AV → St → Prop) (Q : Nat → List AV → St → (AV → St → Prop) → Prop) : I → Prop
  | .qcall f args => Q f (args.map (ev ρ)) σ K
  | .qcallv x args => match ev ρ x with
    | .func f first captured => Q f (first ++ args.map (ev ρ) ++ captured) σ K
    | _ => False
  | i => astep CP nm ρ σ K i

def qget (P : Program) (tbl : Tbl) (f : Nat) (args : List AV) (σ : St) (K : AV → St → Prop) : Prop :=
  match tbl.get f with
  | some g => opt (fun v => K v σ) (g args)
  | none => ∃ v, ACalls P f args σ (fun v' σ' => v' = v ∧ σ' = σ) ∧ K v σ
theorem qget_ok {P : Program} {tbl : Tbl} (hok : tbl.ok P) {f : Nat} {args : List AV} {σ : St} {K : AV → St → Prop} (h : qget P tbl f args σ K) : ∃ v, ACalls P f args σ (fun v' σ' => v' = v ∧ σ' = σ) ∧ K v σ := by
  unfold qget at h
  split at h
  · rename_i g hg
    obtain ⟨v, hv, hk⟩ := opt_some h
    exact ⟨v, Tbl.get_ok hok hg args σ v hv, hk⟩
  · exact h

theorem step_le {P : Program} {tbl : Tbl} (hok : tbl.ok P) {nm : Nat} {ρ : List AV} {σ : St} {K : AV → St → Prop} {i : I} (h : qstep (CPt P tbl) nm ρ σ K (qget P tbl) i) : astep (ACalls P) nm ρ σ K i := by
  by_cases hc : i.isCall = true
  · cases i <;> simp only [I.isCall, Bool.false_eq_true] at hc
    case eqS => exact h
    case next => exact h
    case entry => exact h
    · simp only [qstep, astep] at h ⊢; exact CPt_le hok h
    · simp only [qstep, astep] at h ⊢
      split at h
      · exact CPt_le hok h
      · exact h.elim
  · cases i
    case qcall f args => simp only [qstep] at h; simp only [astep]; exact qget_ok hok h
    case qcallv x args =>
      simp only [qstep] at h; simp only [astep]
      split at h
      · rename_i he; try simp only [he]
        exact qget_ok hok h
      · exact h.elim
    case call => simp [I.isCall] at hc
    case callv => simp [I.isCall] at hc
    all_goals exact h

def aopsT (P : Program) (tbl : Tbl) (base : Nat) : Nat → List O → List AV → St → (List AV → St → Prop) → Prop
  | _, [], ρ, σ, K => K ρ σ
  | i, o :: r, ρ, σ, K =>
    match o.g with
    | none => qstep (CPt P tbl) (base + i) ρ σ (fun v σ' => aopsT P tbl base (i + 1) r (setd ρ v o.dst) σ' K) (qget P tbl) o.i
    | some (t, b) => match ρ.getD t .any with
      | .bool c => if c = b then qstep (CPt P tbl) (base + i) ρ σ (fun v σ' => aopsT P tbl base (i + 1) r (setd ρ v o.dst) σ' K) (qget P tbl) o.i else aopsT P tbl base (i + 1) r (setd ρ (.tup []) o.dst) σ K
      | .tup [] => aopsT P tbl base (i + 1) r (setd ρ (.tup []) o.dst) σ K
      | _ => False

theorem aopsI_of_T {P : Program} {tbl : Tbl} (hok : tbl.ok P) {base : Nat} {K : List AV → St → Prop} : ∀ {i : Nat} {l : List O} {ρ : List AV} {σ : St}, aopsT P tbl base i l ρ σ K → aopsI (ACalls P) base i l ρ σ K
  | _, [], _, _, h => h
  | i, o :: r, ρ, σ, h => by
    simp only [aopsT] at h
    simp only [aopsI]
    cases hg : o.g with
    | none => rw [hg] at h; exact astep_mono ACalls_mono (fun v σ' h => aopsI_of_T hok h) (step_le hok h)
    | some p =>
      obtain ⟨t, b⟩ := p
      simp only [hg] at h ⊢
      split at h
      · rename_i c hc
        try simp only [hc]
        split at h
        · rename_i hcb
          rw [if_pos hcb]; exact astep_mono ACalls_mono (fun v σ' h => aopsI_of_T hok h) (step_le hok h)
        · rename_i hcb
          rw [if_neg hcb]; exact aopsI_of_T hok h
      · rename_i hc; try simp only [hc]
        exact aopsI_of_T hok h
      · exact h.elim

/-- a region, the first n operations ahead of the others -/
theorem aopsT_cut {P : Program} {tbl : Tbl} {base : Nat} : ∀ (n : Nat) {i : Nat} {l : List O} {ρ : List AV} {σ : St} {K : List AV → St → Prop},
    (∀ K1 : List AV → St → Prop, (∀ ρ' σ', aopsT P tbl base (i + n) (l.drop n) ρ' σ' K → K1 ρ' σ') → aopsT P tbl base i (l.take n) ρ σ K1) → aopsT P tbl base i l ρ σ K := by
  intro n i l ρ σ K h0
  have h := h0 _ fun _ _ h => h
  clear h0
  induction n generalizing i l ρ σ with
  | zero => simpa [aopsT] using h
  | succ n ih =>
    cases l with
    | nil => simpa [aopsT] using h
    | cons o r =>
      have hmono : ∀ {ρ : List AV} {σ : St}, aopsT P tbl base (i + 1) (r.take n) ρ σ (fun ρ' σ' => aopsT P tbl base (i + (n + 1)) (r.drop n) ρ' σ' K) → aopsT P tbl base (i + 1) r ρ σ K :=
        fun h => ih (by rw [Nat.add_assoc, Nat.add_comm 1 n]; exact h)
      simp only [List.take_succ_cons, List.drop_succ_cons, aopsT] at h ⊢
      have hq : ∀ {i0 : I} {nm : Nat} {ρ : List AV} {σ : St} {K1 K2 : AV → St → Prop}, (∀ v σ', K1 v σ' → K2 v σ') → qstep (CPt P tbl) nm ρ σ K1 (qget P tbl) i0 → qstep (CPt P tbl) nm ρ σ K2 (qget P tbl) i0 := by
        intro i0 nm ρ σ K1 K2 hk hh
        have hg : ∀ {f : Nat} {args : List AV}, qget P tbl f args σ K1 → qget P tbl f args σ K2 := by
          intro f args hh
          unfold qget at hh ⊢
          split at hh
          · exact opt_mono (fun v h => hk v σ h) hh
          · obtain ⟨v, h1, h2⟩ := hh; exact ⟨v, h1, hk _ _ h2⟩
        by_cases hc : (∃ f a, i0 = .qcall f a) ∨ ∃ x a, i0 = .qcallv x a
        · rcases hc with ⟨f, a, rfl⟩ | ⟨x, a, rfl⟩
          · exact hg hh
          · simp only [qstep] at hh ⊢
            split at hh
            · exact hg hh
            · exact hh.elim
        · have e : ∀ K3, qstep (CPt P tbl) nm ρ σ K3 (qget P tbl) i0 = astep (CPt P tbl) nm ρ σ K3 i0 := by
            intro K3
            cases i0 <;> first | rfl | (exact absurd (.inl ⟨_, _, rfl⟩) hc) | (exact absurd (.inr ⟨_, _, rfl⟩) hc)
          rw [e] at hh ⊢
          exact astep_mono CPt_mono hk hh
      split at h
      · exact hq (fun v σ' h => hmono h) h
      · split at h
        · split at h
          · rename_i hc; rw [if_pos hc]; exact hq (fun v σ' h => hmono h) h
          · rename_i hc; rw [if_neg hc]; exact hmono h
        · exact hmono h
        · exact h.elim

theorem T.regt {P : Program} {A : Ann} {Q : Ex → List AV → St → Prop} {ρ : List AV} {σ : St} (hm : P.follows .mixedOrders = true) {tbl : Tbl} (hok : tbl.ok P) {l : List O} (h : aopsT P tbl σ.next 0 l ρ (σ.up (namesOf l)) (Q .normal)) : T P A (.reg l) Q ρ σ :=
  T.regi hm (aopsI_of_T hok h)

end Go.VL
