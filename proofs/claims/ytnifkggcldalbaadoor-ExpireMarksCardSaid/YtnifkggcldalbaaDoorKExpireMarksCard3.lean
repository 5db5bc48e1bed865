/- Texts put together, of these what the theorem needs: The value logic, part S: walking. The value logic, part X: code that is run at given values (the kernel reckons it). The value logic, part T: what an argument's reading is, over values; and a law's frame. The value logic, part U: a law that returns true, whatever its arguments: the contract of its row. The compiled code of functions of this seat. MADE BY PROGRAM (mkc.py). Contracts: small things. Contracts: numbers as bytes. PLAIN LAW: a checksum by a table is the checksum bit by bit. Contracts: checksums. Contracts: the checksum by a table. Contracts: sealing. Contracts: sealed bytes opened. Contracts: readers. A reader is an owned row of three: bytes, how far, where amiss. Contracts: small things that are used often; an error's number. Contracts: readers, told as functions. States that are alike but for new names; a named end among them; arithmetic of words. The compiled code of functions of this seat. MADE BY PROGRAM (mkc.py). Contracts: a store's small parts. Contracts: a store's names; a new store. Contracts: what is done with a store. The law StoreKeeps, walked. Contracts: spans and traces that are few; what may be. Plain: heaps of entries, as lists: what is least comes first; pushed and popped. -/
import Derived.Test.YtnifkggcldalbaaDoorKExpireMarksCard2
import Derived.Test.YtnifkggcldalbaaDoorChecked

set_option linter.unusedSimpArgs false
set_option linter.unusedVariables false

namespace Go.VL

/-- a value list's length is any -/
theorem T.seq_k {P : Program} {A : Ann} {x y : C} {Q : Ex → List AV → St → Prop} {ρ : List AV} {σ : St} (h : ∀ K : List AV → St → Prop, (∀ ρ σ, T P A y Q ρ σ → K ρ σ) → T P A x (Ex.then K Q) ρ σ) : T P A (.seq x y) Q ρ σ :=
  T.seq (h _ fun _ _ h => h)

/-- (the thing itself is looked at first: else what follows is walked once too often at each step) -/
theorem opt_def {α : Type} (K : α → Prop) (z : Option α) : opt K z = (match z with | some v => K v | none => False) := by cases z <;> rfl

theorem then_normal {K : List AV → St → Prop} {Q : Ex → List AV → St → Prop} : Ex.then K Q .normal = K := rfl

theorem then_exit {K : List AV → St → Prop} {Q : Ex → List AV → St → Prop} {i : Nat} : Ex.then K Q (.exit i) = Q (.exit i) := rfl

theorem inBlock_normal {Q : Ex → List AV → St → Prop} {i : Nat} : Ex.inBlock i Q .normal = Q .normal := rfl

theorem inBlock_exit {Q : Ex → List AV → St → Prop} {i : Nat} : Ex.inBlock i Q (.exit i) = Q .normal := by funext ρ σ; simp [Ex.inBlock]

theorem lt_len {α : Type} (i : Nat) (l : List α) : ((i : Int) < (l.length : Int)) = (i < l.length) := by simp

theorem le_len {α : Type} (i : Nat) (l : List α) : ((i : Int) ≤ (l.length : Int)) = (i ≤ l.length) := by simp

/-- a long row of one thing -/
def zeros (n : Nat) (x : AV) : List AV := List.replicate n x

theorem er_int (k : IntKind) (n : Int) : (AV.int k n).er = .int k n := rfl

theorem er_bool (b : Bool) : (AV.bool b).er = .bool b := rfl

theorem er_str (s : ByteArray) : (AV.str s).er = .str s := rfl

theorem up_zero (σ : St) : σ.up 0 = σ := rfl

theorem Fin.ret {σ0 : St} {rs : List RX} {K : AV → St → Prop} {ρ : List AV} {σ : St} {xs : List AV} (h1 : rvals ρ σ rs = some xs) (h2 : K (pack xs) σ) : Fin σ0 rs K .ret ρ σ :=
  ⟨ρ, σ, xs, _, σ, .refl, h1, .refl, h2⟩

theorem Fin.retn {σ0 : St} {rs : List RX} {K : AV → St → Prop} {ρ : List AV} {σ : St} {xs : List AV} (h1 : rvals ρ σ rs = some xs) (h2 : K (pack xs) σ) : Fin σ0 rs K .normal ρ σ :=
  ⟨ρ, σ, xs, _, σ, .refl, h1, .refl, h2⟩

theorem Fin.retw {σ0 : St} {rs : List RX} {K : AV → St → Prop} {ρ : List AV} {σ : St} {xs : List AV} {y : AV} (h1 : rvals ρ σ rs = some xs) (hw : Wk (pack xs) y) (h2 : K y σ) : Fin σ0 rs K .ret ρ σ :=
  ⟨ρ, σ, xs, y, σ, .refl, h1, .wk hw, h2⟩

theorem Fin.quiet {σ0 : St} {rs : List RX} {K : AV → St → Prop} {ρ : List AV} {σ : St} {xs : List AV} (h1 : rvals ρ σ rs = some xs) (hx : (pack xs).nb σ0.next) (hr : ∀ n r, σ0.res n = some r → σ.res n = some r) (h2 : K (pack xs) σ0) : Fin σ0 rs K .ret ρ σ :=
  ⟨ρ, σ, xs, _, σ0, .refl, h1, .quiet hx hr, h2⟩

/-- the same, a guard as 'if': it is looked at before what it guards -/
def aopsI (CP : CallP) (base : Nat) : Nat → List O → List AV → St → (List AV → St → Prop) → Prop
  | _, [], ρ, σ, K => K ρ σ
  | i, o :: r, ρ, σ, K =>
    match o.g with
    | none => astep CP (base + i) ρ σ (fun v σ' => aopsI CP base (i + 1) r (setd ρ v o.dst) σ' K) o.i
    | some (t, b) => match ρ.getD t .any with
      | .bool c => if c = b then astep CP (base + i) ρ σ (fun v σ' => aopsI CP base (i + 1) r (setd ρ v o.dst) σ' K) o.i else aopsI CP base (i + 1) r (setd ρ (.tup []) o.dst) σ K
      | .tup [] => aopsI CP base (i + 1) r (setd ρ (.tup []) o.dst) σ K
      | _ => False

theorem aops_of_I {CP : CallP} (hCP : CPMono CP) {base : Nat} {K : List AV → St → Prop} : ∀ {i : Nat} {l : List O} {ρ : List AV} {σ : St}, aopsI CP base i l ρ σ K → aops CP base i l ρ σ K
  | _, [], _, _, h => h
  | i, o :: r, ρ, σ, h => by
    simp only [aopsI] at h
    simp only [aops]
    cases hg : o.g with
    | none => rw [hg] at h; exact astep_mono hCP (fun v σ' h => aops_of_I hCP h) h
    | some p =>
      obtain ⟨t, b⟩ := p
      simp only [hg] at h ⊢
      split at h
      · rename_i c hc
        simp only [hc]
        split at h
        · rename_i hcb
          exact ⟨fun _ => astep_mono hCP (fun v σ' h => aops_of_I hCP h) h, fun h2 => by subst hcb; cases c <;> cases h2⟩
        · rename_i hcb
          exact ⟨fun h2 => absurd h2 hcb, fun _ => aops_of_I hCP h⟩
      · rename_i hc; simp only [hc]; exact aops_of_I hCP h
      · exact h.elim

theorem T.regi {P : Program} {A : Ann} {Q : Ex → List AV → St → Prop} {ρ : List AV} {σ : St} (hm : P.follows .mixedOrders = true) {l : List O} (h : aopsI (ACalls P) σ.next 0 l ρ (σ.up (namesOf l)) (Q .normal)) : T P A (.reg l) Q ρ σ :=
  T.reg hm (aops_of_I ACalls_mono h)

/-- what a call comes to may be told in another way -/
theorem ACalls.gv {P : Program} {f : Nat} {args : List AV} {σ : St} {K K' : AV → St → Prop} (h : ACalls P f args σ K) (hk : WF σ → ∀ v σ', K v σ' → ∃ v' σ'', Gv σ v σ' v' σ'' ∧ K' v' σ'') : ACalls P f args σ K' := by
  refine ⟨h.1, fun κ w vs B F hR hv => (h.2 κ w vs B F hR hv).mono ?_⟩
  rintro e w' ⟨v, x, κ', σ', rfl, h2, h3, h4, h5, h6, h7, h8⟩
  have hwf : WF σ := fun n hn => by
    cases hx : σ.res n with
    | none => rfl
    | some r => have := hR.dom n (hR.own n r hx).1; omega
  obtain ⟨x', σ'', hg, hk'⟩ := hk hwf x σ' h8
  obtain ⟨κ2, g1, g2, g3, g4, g5⟩ := hg κ w B F (ownd κ σ) κ' w' v hR h4 h2 h3 h6 h7
  exact ⟨v, x', κ2, σ'', rfl, g2, g3, g1, h5, g4, g5, hk'⟩

/-- but for one named end what is owned is as it was -/
structure OneTip (σ σ' : St) (g k : Nat) : Prop where
  lo : σ.next ≤ g
  hi : g < σ'.next
  res : σ'.res = (σ.set g (.tip k)).res

theorem OneTip.at_ {σ σ' : St} {g k : Nat} (h : OneTip σ σ' g k) : σ'.res g = some (.tip k) := by rw [h.res]; simp

theorem OneTip.new {σ : St} {n i k : Nat} (hi : i < n) : OneTip σ ((σ.up n).set (σ.next + i) (.tip k)) (σ.next + i) k := ⟨by omega, by simp; omega, rfl⟩

theorem OneTip.app {σ σ' : St} {g k n i : Nat} (wf : WF σ) (h : OneTip σ σ' g k) (hi : i < n) : OneTip σ (((σ'.up n).del g).set (σ'.next + i) (.tip k)) (σ'.next + i) k := by
  have h1 := h.lo
  have h2 := h.hi
  refine ⟨by omega, by simp; omega, ?_⟩
  funext m
  have hr := congrFun h.res m
  simp only [St.set, St.del, St.up] at hr ⊢
  by_cases hm : m = σ'.next + i
  · simp [hm]
  · simp only [hm, if_false]
    by_cases hg : m = g
    · subst hg; simp; exact (wf m h1).symm
    · simp [hg] at hr ⊢; exact hr

theorem OneTip.mv {σ σ' : St} {g g2 k : Nat} (wf : WF σ) (h : OneTip σ σ' g k) (hlo : σ.next ≤ g2) (hhi : g2 < σ'.next) : OneTip σ ((σ'.del g).set g2 (.tip k)) g2 k := by
  have h1 := h.lo
  refine ⟨hlo, by simpa using hhi, ?_⟩
  funext m
  have hr := congrFun h.res m
  simp only [St.set, St.del] at hr ⊢
  by_cases hm : m = g2
  · simp [hm]
  · simp only [hm, if_false]
    by_cases hg : m = g
    · subst hg; simp; exact (wf m h1).symm
    · simp [hg] at hr ⊢; exact hr

theorem OneTip.up {σ σ' : St} {g k : Nat} (h : OneTip σ σ' g k) (n : Nat) : OneTip σ (σ'.up n) g k := ⟨h.lo, Nat.lt_of_lt_of_le h.hi (Nat.le_add_right _ _), h.res⟩

theorem OneTip.down {σ σ' : St} {g k n : Nat} (h : OneTip (σ.up n) σ' g k) : OneTip σ σ' g k := ⟨Nat.le_trans (Nat.le_add_right _ _) h.lo, h.hi, h.res⟩

theorem OneTip.quiet {σ σ' : St} {g k : Nat} (wf : WF σ) (h : OneTip σ σ' g k) : ∀ n r, σ.res n = some r → σ'.res n = some r := by
  intro n r hr
  rw [h.res]
  have : n ≠ g := fun e => by subst e; rw [wf n h.lo] at hr; cases hr
  rw [St.set_other _ _ this]; exact hr

/-! ### A table of what quiet calls come to -/

def PureC (P : Program) (f : Nat) (g : List AV → Option AV) : Prop := ∀ args σ v, g args = some v → ACalls P f args σ (fun x σ' => x = v ∧ σ' = σ)

abbrev Tbl := List (Nat × (List AV → Option AV))

def Tbl.get : Tbl → Nat → Option (List AV → Option AV)
  | [], _ => none
  | p :: r, f => if p.1 = f then some p.2 else Tbl.get r f

def CPt (P : Program) (tbl : Tbl) (f : Nat) (args : List AV) (σ : St) (K : AV → St → Prop) : Prop :=
  match tbl.get f with
  | some g => opt (fun v => K v σ) (g args)
  | none => ACalls P f args σ K

def Tbl.ok (P : Program) (tbl : Tbl) : Prop := ∀ p ∈ tbl, PureC P p.1 p.2

theorem Tbl.ok_nil {P : Program} : Tbl.ok P [] := fun _ h => by cases h

theorem Tbl.ok_cons {P : Program} {f : Nat} {g : List AV → Option AV} {tbl : Tbl} (h : PureC P f g) (t : Tbl.ok P tbl) : Tbl.ok P ((f, g) :: tbl) := fun p hp => by
  rcases List.mem_cons.1 hp with rfl | hp
  · exact h
  · exact t p hp

theorem Tbl.get_ok {P : Program} : ∀ {tbl : Tbl}, tbl.ok P → ∀ {f : Nat} {g : List AV → Option AV}, tbl.get f = some g → PureC P f g
  | [], _, _, _, h => by cases h
  | p :: r, hok, f, g, h => by
    simp only [Tbl.get] at h
    split at h
    · rename_i he
      simp only [Option.some.injEq] at h
      subst he; subst h
      exact hok p (by simp)
    · exact Tbl.get_ok (fun q hq => hok q (List.mem_cons_of_mem _ hq)) h

theorem CPt_le {P : Program} {tbl : Tbl} (hok : tbl.ok P) {f : Nat} {args : List AV} {σ : St} {K : AV → St → Prop} (h : CPt P tbl f args σ K) : ACalls P f args σ K := by
  unfold CPt at h
  split at h
  · rename_i g hg
    obtain ⟨v, hv, hk⟩ := opt_some h
    exact (Tbl.get_ok hok hg args σ v hv).mono fun x σ' ⟨e1, e2⟩ => by rw [e1, e2]; exact hk
  · exact h

theorem CPt_mono {P : Program} {tbl : Tbl} : CPMono (CPt P tbl) := by
  intro f args σ K K' hk h
  unfold CPt at *
  split at h
  · exact opt_mono (fun v h => hk v σ h) h
  · exact h.mono hk

/-- a quiet call, as a table tells it -/
def qstep (CP : CallP) (nm : Nat) (ρ : List AV) (σ : St) (K : AV → St → Prop) (Q : Nat → List AV → St → (AV → St → Prop) → Prop) : I → Prop
  | .qcall f args => Q f (args.map (ev ρ)) σ K
  | .qcallv x args => match ev ρ x with
    | .func f first captured => Q f (first ++ args.map (ev ρ) ++ captured) σ K
    | _ => False
  | i => astep CP nm ρ σ K i

def qget (P : Program) (tbl : Tbl) (f : Nat) (args : List AV) (σ : St) (K : AV → St → Prop) : Prop :=
  match tbl.get f with
  | some g => opt (fun v => K v σ) (g args)
  | none => ∃ v, ACalls P f args σ (fun v' σ' => v' = v ∧ σ' = σ) ∧ K v σ

theorem qget_ok {P : Program} {tbl : Tbl} (hok : tbl.ok P) {f : Nat} {args : List AV} {σ : St} {K : AV → St → Prop} (h : qget P tbl f args σ K) : ∃ v, ACalls P f args σ (fun v' σ' => v' = v ∧ σ' = σ) ∧ K v σ := by
  unfold qget at h
  split at h
  · rename_i g hg
    obtain ⟨v, hv, hk⟩ := opt_some h
    exact ⟨v, Tbl.get_ok hok hg args σ v hv, hk⟩
  · exact h

theorem step_le {P : Program} {tbl : Tbl} (hok : tbl.ok P) {nm : Nat} {ρ : List AV} {σ : St} {K : AV → St → Prop} {i : I} (h : qstep (CPt P tbl) nm ρ σ K (qget P tbl) i) : astep (ACalls P) nm ρ σ K i := by
  by_cases hc : i.isCall = true
  · cases i <;> simp only [I.isCall, Bool.false_eq_true] at hc
    case eqS => exact h
    case next => exact h
    case entry => exact h
    · simp only [qstep, astep] at h ⊢; exact CPt_le hok h
    · simp only [qstep, astep] at h ⊢
      split at h
      · exact CPt_le hok h
      · exact h.elim
  · cases i
    case qcall f args => simp only [qstep] at h; simp only [astep]; exact qget_ok hok h
    case pcall f args =>
      simp only [qstep, astep] at h ⊢
      obtain ⟨v, e, h⟩ := h
      exact ⟨v, fun σ2 => CPt_le hok (e σ2), h⟩
    case mcall k f args =>
      simp only [qstep, astep] at h ⊢
      obtain ⟨xs, e, h⟩ := h
      exact ⟨xs, fun σ2 => CPt_le hok (e σ2), h⟩
    case qcallv x args =>
      simp only [qstep] at h; simp only [astep]
      split at h
      · rename_i he; try simp only [he]
        exact qget_ok hok h
      · exact h.elim
    case call => simp [I.isCall] at hc
    case callv => simp [I.isCall] at hc
    all_goals exact h

def aopsT (P : Program) (tbl : Tbl) (base : Nat) : Nat → List O → List AV → St → (List AV → St → Prop) → Prop
  | _, [], ρ, σ, K => K ρ σ
  | i, o :: r, ρ, σ, K =>
    match o.g with
    | none => qstep (CPt P tbl) (base + i) ρ σ (fun v σ' => aopsT P tbl base (i + 1) r (setd ρ v o.dst) σ' K) (qget P tbl) o.i
    | some (t, b) => match ρ.getD t .any with
      | .bool c => if c = b then qstep (CPt P tbl) (base + i) ρ σ (fun v σ' => aopsT P tbl base (i + 1) r (setd ρ v o.dst) σ' K) (qget P tbl) o.i else aopsT P tbl base (i + 1) r (setd ρ (.tup []) o.dst) σ K
      | .tup [] => aopsT P tbl base (i + 1) r (setd ρ (.tup []) o.dst) σ K
      | _ => False

theorem aopsI_of_T {P : Program} {tbl : Tbl} (hok : tbl.ok P) {base : Nat} {K : List AV → St → Prop} : ∀ {i : Nat} {l : List O} {ρ : List AV} {σ : St}, aopsT P tbl base i l ρ σ K → aopsI (ACalls P) base i l ρ σ K
  | _, [], _, _, h => h
  | i, o :: r, ρ, σ, h => by
    simp only [aopsT] at h
    simp only [aopsI]
    cases hg : o.g with
    | none => rw [hg] at h; exact astep_mono ACalls_mono (fun v σ' h => aopsI_of_T hok h) (step_le hok h)
    | some p =>
      obtain ⟨t, b⟩ := p
      simp only [hg] at h ⊢
      split at h
      · rename_i c hc
        try simp only [hc]
        split at h
        · rename_i hcb
          rw [if_pos hcb]; exact astep_mono ACalls_mono (fun v σ' h => aopsI_of_T hok h) (step_le hok h)
        · rename_i hcb
          rw [if_neg hcb]; exact aopsI_of_T hok h
      · rename_i hc; try simp only [hc]
        exact aopsI_of_T hok h
      · exact h.elim

/-- a region, the first n operations ahead of the others -/
theorem aopsT_cut {P : Program} {tbl : Tbl} {base : Nat} : ∀ (n : Nat) {i : Nat} {l : List O} {ρ : List AV} {σ : St} {K : List AV → St → Prop},
    (∀ K1 : List AV → St → Prop, (∀ ρ' σ', aopsT P tbl base (i + n) (l.drop n) ρ' σ' K → K1 ρ' σ') → aopsT P tbl base i (l.take n) ρ σ K1) → aopsT P tbl base i l ρ σ K := by
  intro n i l ρ σ K h0
  have h := h0 _ fun _ _ h => h
  clear h0
  induction n generalizing i l ρ σ with
  | zero => simpa [aopsT] using h
  | succ n ih =>
    cases l with
    | nil => simpa [aopsT] using h
    | cons o r =>
      have hmono : ∀ {ρ : List AV} {σ : St}, aopsT P tbl base (i + 1) (r.take n) ρ σ (fun ρ' σ' => aopsT P tbl base (i + (n + 1)) (r.drop n) ρ' σ' K) → aopsT P tbl base (i + 1) r ρ σ K :=
        fun h => ih (by rw [Nat.add_assoc, Nat.add_comm 1 n]; exact h)
      simp only [List.take_succ_cons, List.drop_succ_cons, aopsT] at h ⊢
      have hq : ∀ {i0 : I} {nm : Nat} {ρ : List AV} {σ : St} {K1 K2 : AV → St → Prop}, (∀ v σ', K1 v σ' → K2 v σ') → qstep (CPt P tbl) nm ρ σ K1 (qget P tbl) i0 → qstep (CPt P tbl) nm ρ σ K2 (qget P tbl) i0 := by
        intro i0 nm ρ σ K1 K2 hk hh
        have hg : ∀ {f : Nat} {args : List AV}, qget P tbl f args σ K1 → qget P tbl f args σ K2 := by
          intro f args hh
          unfold qget at hh ⊢
          split at hh
          · exact opt_mono (fun v h => hk v σ h) hh
          · obtain ⟨v, h1, h2⟩ := hh; exact ⟨v, h1, hk _ _ h2⟩
        by_cases hc : (∃ f a, i0 = .qcall f a) ∨ ∃ x a, i0 = .qcallv x a
        · rcases hc with ⟨f, a, rfl⟩ | ⟨x, a, rfl⟩
          · exact hg hh
          · simp only [qstep] at hh ⊢
            split at hh
            · exact hg hh
            · exact hh.elim
        · have e : ∀ K3, qstep (CPt P tbl) nm ρ σ K3 (qget P tbl) i0 = astep (CPt P tbl) nm ρ σ K3 i0 := by
            intro K3
            cases i0 <;> first | rfl | (exact absurd (.inl ⟨_, _, rfl⟩) hc) | (exact absurd (.inr ⟨_, _, rfl⟩) hc)
          rw [e] at hh ⊢
          exact astep_mono CPt_mono hk hh
      split at h
      · exact hq (fun v σ' h => hmono h) h
      · split at h
        · split at h
          · rename_i hc; rw [if_pos hc]; exact hq (fun v σ' h => hmono h) h
          · rename_i hc; rw [if_neg hc]; exact hmono h
        · exact hmono h
        · exact h.elim

theorem T.regt {P : Program} {A : Ann} {Q : Ex → List AV → St → Prop} {ρ : List AV} {σ : St} (hm : P.follows .mixedOrders = true) {tbl : Tbl} (hok : tbl.ok P) {l : List O} (h : aopsT P tbl σ.next 0 l ρ (σ.up (namesOf l)) (Q .normal)) : T P A (.reg l) Q ρ σ :=
  T.regi hm (aopsI_of_T hok h)

end Go.VL

namespace Go.VL

/-- What is owned, as a list; what lies below `low` is as it was. -/
structure DS where
  next : Nat
  l : List (Nat × Res)
  low : Nat

def rget (n : Nat) : List (Nat × Res) → Option Res
  | [] => none
  | p :: r => if p.1 = n then some p.2 else rget n r

def rdel (n : Nat) : List (Nat × Res) → List (Nat × Res)
  | [] => []
  | p :: r => if p.1 = n then rdel n r else p :: rdel n r

theorem rget_del (n m : Nat) : ∀ l, rget m (rdel n l) = if m = n then none else rget m l
  | [] => by simp [rdel, rget]
  | p :: r => by
    have ih := rget_del n m r
    unfold rdel
    by_cases h : p.1 = n
    · rw [if_pos h, ih]
      by_cases hm : m = n
      · rw [if_pos hm, if_pos hm]
      · rw [if_neg hm, if_neg hm, rget, if_neg (by rw [h]; exact fun e => hm e.symm)]
    · rw [if_neg h, rget, rget, ih]
      by_cases hm : m = n
      · rw [if_pos hm, if_pos hm, if_neg (by rw [hm]; exact h)]
      · rw [if_neg hm, if_neg hm]

def DS.st (s : DS) : St := ⟨s.next, fun n => rget n s.l⟩

def DS.res (s : DS) (n : Nat) : Option Res := rget n s.l

def DS.set (s : DS) (n : Nat) (r : Res) : DS := ⟨s.next, (n, r) :: rdel n s.l, if n < s.low then n else s.low⟩

def DS.del (s : DS) (n : Nat) : DS := ⟨s.next, rdel n s.l, if n < s.low then n else s.low⟩

def DS.up (s : DS) (k : Nat) : DS := ⟨s.next + k, s.l, s.low⟩

theorem DS.st_set (s : DS) (n : Nat) (r : Res) : (s.set n r).st = s.st.set n r := by
  simp only [DS.st, DS.set, St.set, St.mk.injEq, true_and]
  funext m
  by_cases h : m = n
  · simp [h, rget]
  · rw [if_neg h]
    have h' : ¬ n = m := fun e => h e.symm
    simp only [rget, h', if_false]
    rw [rget_del, if_neg h]

theorem DS.st_del (s : DS) (n : Nat) : (s.del n).st = s.st.del n := by
  simp only [DS.st, DS.del, St.del, St.mk.injEq, true_and]
  funext m
  rw [rget_del]

/-- what lies below is as it was -/
structure Sm (s s' : DS) : Prop where
  le : s'.low ≤ s.low
  eq : ∀ n, n < s'.low → s'.res n = s.res n

theorem Sm.refl (s : DS) : Sm s s := ⟨Nat.le_refl _, fun _ _ => rfl⟩

theorem Sm.trans {s s1 s2 : DS} (h : Sm s s1) (k : Sm s1 s2) : Sm s s2 := ⟨Nat.le_trans k.le h.le, fun n hn => (k.eq n hn).trans (h.eq n (Nat.lt_of_lt_of_le hn k.le))⟩

theorem Sm.set (s : DS) (n : Nat) (r : Res) : Sm s (s.set n r) := by
  refine ⟨by simp only [DS.set]; split <;> omega, fun m hm => ?_⟩
  have hne : m ≠ n := by
    simp only [DS.set] at hm
    split at hm <;> omega
  have := congrFun (congrArg St.res (DS.st_set s n r)) m
  rw [St.set_other _ _ hne] at this
  exact this

theorem Sm.del (s : DS) (n : Nat) : Sm s (s.del n) := by
  refine ⟨by simp only [DS.del]; split <;> omega, fun m hm => ?_⟩
  have hne : m ≠ n := by
    simp only [DS.del] at hm
    split at hm <;> omega
  have := congrFun (congrArg St.res (DS.st_del s n)) m
  rw [show (s.st.del n).res m = s.st.res m by simp [St.del, hne]] at this
  exact this

theorem Sm.up (s : DS) (k : Nat) : Sm s (s.up k) := ⟨Nat.le_refl _, fun _ _ => rfl⟩

/-- a function's code, its temporaries, its results -/
structure FnC where
  c : C
  nt : Nat
  rs : List RX

def FnOk (P : Program) (f : Nat) (F : FnC) : Prop := ∃ A, ∀ (args : List AV) (σ : St) (K : AV → St → Prop), (WF σ → T P A F.c (Fin σ F.rs K) (args ++ List.replicate (F.nt - args.length) (.tup [])) σ) → ACalls P f args σ K

abbrev FTab := List (Nat × FnC)

def FTab.get (f : Nat) : FTab → Option FnC
  | [] => none
  | p :: r => if p.1 = f then some p.2 else FTab.get f r

def FTab.ok (P : Program) (tb : FTab) : Prop := ∀ f F, FTab.get f tb = some F → FnOk P f F

theorem FTab.ok_nil {P : Program} : FTab.ok P [] := fun _ _ h => by cases h

theorem FTab.ok_cons {P : Program} {f nt : Nat} {c : C} {rs : List RX} {tb : FTab} {A : Ann} (h : ∀ {args : List AV} {σ : St} {K : AV → St → Prop}, (WF σ → T P A c (Fin σ rs K) (args ++ List.replicate (nt - args.length) (.tup [])) σ) → ACalls P f args σ K) (t : FTab.ok P tb) :
    FTab.ok P ((f, ⟨c, nt, rs⟩) :: tb) := fun g F hg => by
  simp only [FTab.get] at hg
  split at hg
  · rename_i he
    simp only [Option.some.injEq] at hg; subst hg; subst he
    exact ⟨A, fun _ _ _ hh => h hh⟩
  · exact t g F hg

def d0 : DS := ⟨0, [], 0⟩

end Go.VL

namespace Go.VL

def κ0 (W : World) : Kx := ⟨fun b _ => b < W.heap.size, fun _ => 0, fun _ => 0, fun _ => 0, fun _ => 0, fun _ => False⟩

def σ0 : St := ⟨0, fun _ => none⟩

def isStruct (P : Program) (t : TypeId) : Bool := match P.underlying t with
  | some (.struct _) => true
  | _ => false

def contig (P : Program) : Nat → List Field → Option Nat
  | off, [] => some off
  | off, f :: r => if f.offset = off then contig P (off + P.cellsOf f.type) r else none

/-- a type of numbers, bools, texts, rows and structs of such, n deep -/
def goodT (P : Program) : Nat → TypeId → Bool
  | 0, _ => false
  | n + 1, t => match P.underlying t with
    | some .bool | some (.int _) | some .string => true
    | some (.slice e) => goodT P n e && decide (0 < P.cellsOf e)
    | some (.struct fs) => fs.toList.all (fun f => goodT P n f.type) && (contig P 0 fs.toList == some (P.cellsOf t))
    | _ => false

mutual
def HasT (P : Program) : Nat → TypeId → List AV → Prop
  | 0, _, _ => False
  | n + 1, t, xs => match P.underlying t with
    | some .bool => ∃ b, xs = [.bool b]
    | some (.int k) => ∃ m, xs = [.int k m] ∧ k.min ≤ m ∧ m ≤ k.max
    | some .string => ∃ s, xs = [.str s] ∧ s.size ≤ maxLen
    | some (.slice e) => ∃ ys, xs = [.sl ys .none] ∧ ys.length ≤ maxLen ∧ ∀ y ∈ ys, HasE P n e y
    | some (.struct fs) => HasF P n fs.toList xs
    | _ => False
/-- an element of a row -/
def HasE (P : Program) : Nat → TypeId → AV → Prop
  | n, e, y => HasT P n e y.cells ∧ (isStruct P e = true → ∃ zs, y = .agg zs) ∧ (isStruct P e = false → y.cells = [y])
def HasF (P : Program) : Nat → List Field → List AV → Prop
  | _, [], xs => xs = []
  | n, f :: r, xs => ∃ ys zs, xs = ys ++ zs ∧ HasT P n f.type ys ∧ HasF P n r zs
end

theorem hasT_succ (P : Program) (n : Nat) (t : TypeId) (xs : List AV) : HasT P (n + 1) t xs = (match P.underlying t with
    | some .bool => ∃ b, xs = [.bool b]
    | some (.int k) => ∃ m, xs = [.int k m] ∧ k.min ≤ m ∧ m ≤ k.max
    | some .string => ∃ s, xs = [.str s] ∧ s.size ≤ maxLen
    | some (.slice e) => ∃ ys, xs = [.sl ys .none] ∧ ys.length ≤ maxLen ∧ ∀ y ∈ ys, HasE P n e y
    | some (.struct fs) => HasF P n fs.toList xs
    | _ => False) := by rw [HasT]

theorem hasE_iff (P : Program) (n : Nat) (e : TypeId) (y : AV) : HasE P n e y = (HasT P n e y.cells ∧ (isStruct P e = true → ∃ zs, y = .agg zs) ∧ (isStruct P e = false → y.cells = [y])) := by rw [HasE]

theorem hasF_nil (P : Program) (n : Nat) (xs : List AV) : HasF P n [] xs = (xs = []) := by rw [HasF]

theorem hasF_cons (P : Program) (n : Nat) (f : Field) (r : List Field) (xs : List AV) : HasF P n (f :: r) xs = ∃ ys zs, xs = ys ++ zs ∧ HasT P n f.type ys ∧ HasF P n r zs := by rw [HasF]

/-- what is no struct is one cell -/
theorem HasT.single {P : Program} {n : Nat} {t : TypeId} {xs : List AV} (h : HasT P n t xs) (hs : isStruct P t = false) : ∃ x, xs = [x] ∧ x.cells = [x] := by
  cases n with
  | zero => rw [HasT] at h; exact h.elim
  | succ n =>
    rw [hasT_succ] at h
    unfold isStruct at hs
    split at h
    · obtain ⟨b, rfl⟩ := h; exact ⟨_, rfl, rfl⟩
    · obtain ⟨m, rfl, _⟩ := h; exact ⟨_, rfl, rfl⟩
    · obtain ⟨s, rfl, _⟩ := h; exact ⟨_, rfl, rfl⟩
    · obtain ⟨ys, rfl, _⟩ := h; exact ⟨_, rfl, rfl⟩
    · rename_i hu; rw [hu] at hs; cases hs
    · exact h.elim

def mkE (P : Program) (e : TypeId) (xs : List AV) : AV := if isStruct P e then .agg xs else xs.headD .any

theorem mkE_has {P : Program} {n : Nat} {e : TypeId} {xs : List AV} (h : HasT P n e xs) : (mkE P e xs).cells = xs ∧ HasE P n e (mkE P e xs) := by
  unfold mkE
  by_cases hs : isStruct P e = true
  · simp only [hs, if_true]
    exact ⟨rfl, by rw [hasE_iff]; exact ⟨h, fun _ => ⟨_, rfl⟩, fun h => by rw [hs] at h; cases h⟩⟩
  · have hs' : isStruct P e = false := by simpa using hs
    obtain ⟨x, rfl, hx⟩ := h.single hs'
    simp only [hs', Bool.false_eq_true, if_false, List.headD_cons]
    exact ⟨hx, by rw [hasE_iff, hx]; exact ⟨h, fun h => (by rw [hs'] at h; cases h), fun _ => rfl⟩⟩

/-- a row out of its elements -/
theorem vs_elems {κ : Kx} {w : World} {b k : Nat} : ∀ {ys : List AV} {o : Nat} {f : Nat → List Value}, (∀ i y, ys[i]? = some y → Vl κ w (f i) y.cells ∧ y.cells.length = k ∧ ∀ j u, (f i)[j]? = some u → κ.I b (o + i * k + j) ∧ w.cell? ⟨b, o + i * k + j, none⟩ = some u) →
    Vs κ w b o (ys.flatMap AV.cells)
  | [], o, f, _ => .nil b o
  | y :: r, o, f, h => by
    obtain ⟨h1, h2, h3⟩ := h 0 y rfl
    rw [List.flatMap_cons]
    refine Vs.append (Vs.mk h1 (fun j u hj => by simpa using h3 j u hj)) ?_
    rw [h2]
    exact vs_elems (f := fun i => f (i + 1)) (fun i z hz => by
      obtain ⟨g1, g2, g3⟩ := h (i + 1) z (by simpa using hz)
      exact ⟨g1, g2, fun j u hj => by
        have := g3 j u hj
        rwa [show o + (i + 1) * k + j = o + k + i * k + j by rw [Nat.add_mul]; omega] at this⟩)

theorem has_slice {P : Program} {n : Nat} {t e : TypeId} {x : AV} (hu : P.underlying t = some (.slice e)) (h : HasE P (n + 1) t x) : ∃ ys, x = .sl ys .none ∧ ys.length ≤ maxLen ∧ ∀ y ∈ ys, HasE P n e y := by
  rw [hasE_iff] at h
  obtain ⟨h1, _, h3⟩ := h
  have hs : isStruct P t = false := by unfold isStruct; rw [hu]
  rw [h3 hs, hasT_succ, hu] at h1
  obtain ⟨ys, e, h⟩ := h1
  simp only [List.cons.injEq, and_true] at e
  exact ⟨ys, e, h⟩

theorem has_int {P : Program} {n : Nat} {t : TypeId} {k : IntKind} {x : AV} (hu : P.underlying t = some (.int k)) (h : HasE P (n + 1) t x) : ∃ m, x = .int k m ∧ k.min ≤ m ∧ m ≤ k.max := by
  rw [hasE_iff] at h
  obtain ⟨h1, _, h3⟩ := h
  have hs : isStruct P t = false := by unfold isStruct; rw [hu]
  rw [h3 hs, hasT_succ, hu] at h1
  obtain ⟨m, e, h⟩ := h1
  simp only [List.cons.injEq, and_true] at e
  exact ⟨m, e, h⟩

section

variable {H : Type} {enc : TypeId × Value → H} {P : Program} {W : World} {held : Bool}

theorem fields_has {n m : Nat} {cs : List Value} (ih : ∀ {t : TypeId} {cs : List Value} {x : DataW H × List MemPlace}, goodT P n t = true → DataW.trod enc P W 0 (fun _ => true) held m t cs = some x → ∃ xs, Vl (κ0 W) W cs xs ∧ HasT P n t xs) :
    ∀ {fs : List Field} {off tot : Nat}, contig P off fs = some tot → tot ≤ cs.length → (∀ f ∈ fs, goodT P n f.type = true ∧ ∃ x : DataW H × List MemPlace, DataW.trod enc P W 0 (fun _ => true) held m f.type ((cs.drop f.offset).take (P.cellsOf f.type)) = some x) →
      off ≤ tot ∧ ∃ xs, Vl (κ0 W) W ((cs.drop off).take (tot - off)) xs ∧ HasF P n fs xs
  | [], off, tot, hc, hl, h => by
    simp only [contig, Option.some.injEq] at hc; subst hc
    exact ⟨Nat.le_refl _, [], by simpa using Vl.nil, by rw [hasF_nil]⟩
  | f :: r, off, tot, hc, hl, h => by
    simp only [contig] at hc
    split at hc
    · rename_i ho
      subst ho
      obtain ⟨h1, x, hx⟩ := h f (by simp)
      obtain ⟨ys, hy1, hy2⟩ := ih h1 hx
      obtain ⟨hle, zs, hz1, hz2⟩ := fields_has ih hc hl (fun g hg => h g (List.mem_cons_of_mem _ hg))
      refine ⟨by omega, ys ++ zs, ?_, by rw [hasF_cons]; exact ⟨ys, zs, rfl, hy2, hz2⟩⟩
      have : (cs.drop f.offset).take (tot - f.offset) = (cs.drop f.offset).take (P.cellsOf f.type) ++ (cs.drop (f.offset + P.cellsOf f.type)).take (tot - (f.offset + P.cellsOf f.type)) := by
        rw [show tot - f.offset = P.cellsOf f.type + (tot - (f.offset + P.cellsOf f.type)) by omega, List.take_add, List.drop_drop]
      rw [this]
      exact hy1.append hz1
    · cases hc

/-- AN ARGUMENT THAT READS is a value of its type. -/
theorem trod_has : ∀ {n : Nat} {t : TypeId} {cs : List Value} {fuel : Nat} {x : DataW H × List MemPlace}, goodT P n t = true → DataW.trod enc P W 0 (fun _ => true) held fuel t cs = some x → ∃ xs, Vl (κ0 W) W cs xs ∧ HasT P n t xs
  | 0, _, _, _, _, hg, _ => by cases hg
  | n + 1, t, cs, fuel, x, hg, h => by
    unfold goodT at hg
    split at hg
    · rename_i hu
      obtain ⟨b, rfl, rfl⟩ := DataW.trod_bool hu h
      exact ⟨[.bool b], .cons _ _ _ _ (.bool b) .nil, by rw [hasT_succ, hu]; exact ⟨b, rfl⟩⟩
    · rename_i k hu
      obtain ⟨m, rfl, rfl, hw⟩ := DataW.trod_int hu h
      simp only [Lit.wf, Bool.and_eq_true, decide_eq_true_eq] at hw
      exact ⟨[.int k m], .cons _ _ _ _ (.int k m) .nil, by rw [hasT_succ, hu]; exact ⟨m, rfl, hw⟩⟩
    · rename_i hu
      obtain ⟨s, rfl, rfl, hs⟩ := DataW.trod_string hu h
      exact ⟨[.str s], .cons _ _ _ _ (.str s) .nil, by rw [hasT_succ, hu]; exact ⟨s, rfl, hs⟩⟩
    · rename_i e hu
      simp only [Bool.and_eq_true, decide_eq_true_eq] at hg
      obtain ⟨hge, hpos⟩ := hg
      rcases DataW.trod_slice hu h with ⟨rfl, rfl⟩ | ⟨a, len, cap, elems, rest, m, rfl, rfl, rfl, _, hlc, hcm, hel, he, hr, _⟩
      · exact ⟨[.sl [] .none], .cons _ _ _ _ (.slnil _ (.inr (.inl rfl))) .nil, by rw [hasT_succ, hu]; exact ⟨[], rfl, Nat.zero_le _, fun y hy => by cases hy⟩⟩
      · have hread : ∀ i, i < cap → ∃ cs y, W.cells? 0 (a.add (i * P.cellsOf e)) (P.cellsOf e) = some cs ∧ DataW.trod enc P W 0 (fun _ => true) held m e cs = some y := by
          intro i hi
          by_cases hil : i < len
          · have h1 := he i hil
            obtain ⟨y, hy⟩ : ∃ y, elems[i]? = some y := ⟨elems[i]'(by omega), by simp [show i < elems.length by omega]⟩
            rw [hy] at h1
            obtain ⟨cs, g1, g2⟩ := Option.bind_eq_some_iff.1 h1
            exact ⟨cs, y, g1, g2⟩
          · obtain ⟨hrl, hr'⟩ := hr rfl
            have h1 := hr' (i - len) (by omega)
            rw [show len + (i - len) = i by omega] at h1
            obtain ⟨y, hy⟩ : ∃ y, rest[i - len]? = some y := ⟨rest[i - len]'(by omega), by simp [show i - len < rest.length by omega]⟩
            rw [hy] at h1
            obtain ⟨cs, g1, g2⟩ := Option.bind_eq_some_iff.1 h1
            exact ⟨cs, y, g1, g2⟩
        by_cases hc0 : cap = 0
        · subst hc0
          have : len = 0 := by omega
          subst this
          exact ⟨[.sl [] .none], .cons _ _ _ _ (.slz a _ (.inl rfl)) .nil, by rw [hasT_succ, hu]; exact ⟨[], rfl, Nat.zero_le _, fun y hy => by cases hy⟩⟩
        · have hsp : a = ⟨a.block, a.off, none⟩ := by
            obtain ⟨cs, y, g1, _⟩ := hread 0 (by omega)
            obtain ⟨_, hl, hc⟩ := World.cells?_some g1
            have h0 := hc 0 hpos
            have hx : ∃ u, cs[0]? = some u := ⟨cs[0]'(by omega), by simp [show 0 < cs.length by omega]⟩
            obtain ⟨u, hux⟩ := hx
            rw [hux, Nat.zero_mul] at h0
            have e0 : (a.add 0).add 0 = a := rfl
            rw [e0] at h0
            obtain ⟨b, o, sp⟩ := a
            cases sp with
            | none => rfl
            | some s => unfold World.cell? at h0; split at h0 <;> simp at h0
          generalize hb : a.block = b at hsp
          generalize ho : a.off = o at hsp
          subst hsp
          have hsub : ∀ i, i < len → ∃ cs xs, Vl (κ0 W) W cs xs ∧ HasT P n e xs ∧ xs.length = P.cellsOf e ∧ ∀ j u, cs[j]? = some u → (κ0 W).I b (o + i * P.cellsOf e + j) ∧ W.cell? ⟨b, o + i * P.cellsOf e + j, none⟩ = some u := by
            intro i hi
            obtain ⟨cs, y, g1, g2⟩ := hread i (by omega)
            obtain ⟨xs, k1, k2⟩ := trod_has hge g2
            obtain ⟨_, hl, hc⟩ := World.cells?_some g1
            refine ⟨cs, xs, k1, k2, by rw [← k1.length, hl], fun j u hj => ?_⟩
            have hjl : j < P.cellsOf e := by rw [← hl]; exact (List.getElem?_eq_some_iff.1 hj).1
            have := hc j hjl
            rw [hj, add_spot, add_spot] at this
            refine ⟨?_, this⟩
            show b < W.heap.size
            rcases Nat.lt_or_ge b W.heap.size with hlt | hge
            · exact hlt
            · unfold World.cell? at this; simp [Array.getElem?_eq_none hge] at this
          let f : Nat → List Value := fun i => if h : i < len then (hsub i h).choose else []
          let g : Nat → List AV := fun i => if h : i < len then (hsub i h).choose_spec.choose else []
          have hfg : ∀ i, i < len → Vl (κ0 W) W (f i) (g i) ∧ HasT P n e (g i) ∧ (g i).length = P.cellsOf e ∧ ∀ j u, (f i)[j]? = some u → (κ0 W).I b (o + i * P.cellsOf e + j) ∧ W.cell? ⟨b, o + i * P.cellsOf e + j, none⟩ = some u := by
            intro i hi
            have := (hsub i hi).choose_spec.choose_spec
            simp only [f, g, hi, dif_pos]
            exact this
          let ys : List AV := (List.range len).map fun i => mkE P e (g i)
          have hyl : ys.length = len := by simp [ys]
          have hyi : ∀ i y, ys[i]? = some y → i < len ∧ y = mkE P e (g i) := by
            intro i y hy
            have hi : i < len := by rw [← hyl]; exact (List.getElem?_eq_some_iff.1 hy).1
            refine ⟨hi, ?_⟩
            simp [ys, hi] at hy
            exact hy.symm
          refine ⟨[.sl ys .none], .cons _ _ _ _ ?_ .nil, ?_⟩
          · rw [← hyl]
            refine .sl b o cap (P.cellsOf e) ys (fun y hy => ?_) (by rw [hyl]; exact hlc) (vs_elems (k := P.cellsOf e) (f := f) (fun i y hy => ?_))
            · obtain ⟨i, hi⟩ := List.getElem?_of_mem hy
              obtain ⟨hil, rfl⟩ := hyi i y hi
              obtain ⟨_, h2, h3, _⟩ := hfg i hil
              rw [(mkE_has h2).1, h3]
            · obtain ⟨hil, rfl⟩ := hyi i y hy
              obtain ⟨h1, h2, h3, h4⟩ := hfg i hil
              rw [(mkE_has h2).1]
              exact ⟨h1, h3, h4⟩
          · rw [hasT_succ, hu]
            refine ⟨ys, rfl, by rw [hyl]; omega, fun y hy => ?_⟩
            obtain ⟨i, hi⟩ := List.getElem?_of_mem hy
            obtain ⟨hil, rfl⟩ := hyi i y hi
            obtain ⟨_, h2, _⟩ := hfg i hil
            exact (mkE_has h2).2
    · rename_i fs hu
      simp only [Bool.and_eq_true, List.all_eq_true, beq_iff_eq] at hg
      obtain ⟨xs, m, rfl, rfl, hl, hxl, hf⟩ := DataW.trod_struct hu h
      obtain ⟨_, zs, hz1, hz2⟩ := fields_has (cs := cs) (n := n) (m := m) (fun hg h => trod_has hg h) (fs := fs.toList) hg.2 (by omega) (fun f hfm => by
        refine ⟨hg.1 f hfm, ?_⟩
        obtain ⟨i, hi⟩ := List.getElem?_of_mem hfm
        have hi' : fs[i]? = some f := by simpa using hi
        have hil : i < fs.size := (Array.getElem?_eq_some_iff.1 hi').1
        exact ⟨xs[i]'(by omega), by rw [hf i f hi']; simp [show i < xs.length by omega]⟩)
      refine ⟨zs, ?_, by rw [hasT_succ, hu]; exact hz2⟩
      rw [Nat.sub_zero, List.drop_zero, ← hl, List.take_length] at hz1
      exact hz1
    · cases hg

end

end Go.VL

namespace Go.VL

open Go.RowKit

inductive HasAll (P : Program) (n : Nat) : List TypeId → List AV → Prop where
  | nil : HasAll P n [] []
  | cons {t : TypeId} {x : AV} {ts : List TypeId} {xs : List AV} (h : HasE P n t x) (r : HasAll P n ts xs) : HasAll P n (t :: ts) (x :: xs)

section

variable {H : Type} {enc : TypeId × Value → H} {P : Program} {W : World}

theorem arg_has {n : Nat} {r : Reach} {b0 : Nat} {t : TypeId} {v : Value} {d : DataW H} {ps : List MemPlace} (hg : goodT P n t = true) (hok : Value.okWide P W r b0 t v) (hd : DataW.Trod enc P W 0 (fun _ => true) true t v d ps) : ∃ x, V (κ0 W) W v x ∧ HasE P n t x := by
  obtain ⟨fuel, hf⟩ := hd
  obtain ⟨xs, h1, h2⟩ := trod_has hg hf
  refine ⟨mkE P t xs, ?_, (mkE_has h2).2⟩
  unfold mkE
  by_cases hs : isStruct P t = true
  · simp only [hs, if_true]
    unfold isStruct at hs
    split at hs
    · rename_i fs hu
      simp only [Value.okWide, hu] at hok
      obtain ⟨cs, rfl, _⟩ := hok
      obtain ⟨l⟩ := cs
      exact .agg _ _ (by simpa [Value.cells] using h1)
    · cases hs
  · have hs' : isStruct P t = false := by simpa using hs
    obtain ⟨x, rfl, hx⟩ := h2.single hs'
    simp only [hs', Bool.false_eq_true, if_false, List.headD_cons]
    have hna : ∀ cs, v ≠ .agg cs := by
      rintro cs rfl
      cases n with
      | zero => cases hg
      | succ n =>
        unfold goodT at hg
        split at hg
        · rename_i hu; simp [Value.okWide, hu, Cell.okWide, Cell.ok] at hok
        · rename_i hu; simp [Value.okWide, hu, Cell.okWide, Cell.ok] at hok
        · rename_i hu; simp [Value.okWide, hu, Cell.okWide, Cell.ok] at hok
        · rename_i hu; simp [Value.okWide, hu, Cell.okWide, Cell.ok] at hok
        · rename_i hu; unfold isStruct at hs'; rw [hu] at hs'; cases hs'
        · cases hg
    have hc : v.cells.toList = [v] := by
      cases v <;> first | rfl | exact absurd rfl (hna _)
    rw [hc] at h1
    cases h1 with
    | cons _ _ _ _ h _ => exact h

theorem args_has {n : Nat} {r : Reach} {b0 : Nat} : ∀ {ts : List TypeId} {vs : List Value} {ds : List (DataW H)} {ps : List MemPlace}, (∀ t ∈ ts, goodT P n t = true) → (∀ (j : Nat) t v, ts[j]? = some t → vs[j]? = some v → Value.okWide P W r b0 t v) →
    DataW.TrodAll enc P W 0 (fun _ => true) true ts vs ds ps → ∃ xs, Vl (κ0 W) W vs xs ∧ HasAll P n ts xs
  | [], [], [], _, _, _, _ => ⟨[], .nil, .nil⟩
  | t :: ts, v :: vs, d :: ds, ps, hg, hok, ⟨p, q, h1, h2, _⟩ => by
    obtain ⟨x, k1, k2⟩ := arg_has (hg t (by simp)) (hok 0 t v rfl rfl) h1
    obtain ⟨xs, k3, k4⟩ := args_has (fun t ht => hg t (List.mem_cons_of_mem _ ht)) (fun j t v ht hv => hok (j + 1) t v (by simpa using ht) (by simpa using hv)) h2
    exact ⟨x :: xs, .cons _ _ _ _ k1 k3, .cons k2 k4⟩
  | [], _ :: _, _, _, _, _, h => by simp [DataW.TrodAll] at h
  | [], [], _ :: _, _, _, _, h => by simp [DataW.TrodAll] at h
  | _ :: _, [], _, _, _, _, h => by simp [DataW.TrodAll] at h
  | _ :: _, _ :: _, [], _, _, _, h => by simp [DataW.TrodAll] at h

theorem trodAll_below (hl : laidOutB P = true) {W' : World} (hb : Below W.heap.size W W') : ∀ {ts : List TypeId} {vs : List Value} {ds : List (DataW H)} {ps : List MemPlace}, (∀ t ∈ ts, P.readableRec t = true ∧ t < P.types.size) →
    DataW.TrodAll enc P W 0 (fun _ => true) true ts vs ds ps → DataW.TrodAll enc P W' 0 (fun b => decide (b < W.heap.size)) true ts vs ds ps
  | [], [], [], _, _, h => by simpa [DataW.TrodAll] using h
  | t :: ts, v :: vs, d :: ds, ps, ht, ⟨p, q, h1, h2, e⟩ => by
    have hlt : ∀ x ∈ p, x.block < W.heap.size := by
      obtain ⟨n, hn⟩ := h1
      exact DataW.trod_lt n t _ _ hn
    exact ⟨p, q, Below.trod hl (ht t (by simp)).1 (ht t (by simp)).2 h1 hb hlt, trodAll_below hl hb (fun t h => ht t (List.mem_cons_of_mem _ h)) h2, e⟩
  | [], _ :: _, _, _, _, h => by simp [DataW.TrodAll] at h
  | [], [], _ :: _, _, _, h => by simp [DataW.TrodAll] at h
  | _ :: _, [], _, _, _, h => by simp [DataW.TrodAll] at h
  | _ :: _, _ :: _, [], _, _, h => by simp [DataW.TrodAll] at h

theorem trodAll_len {w : World} {b : Nat} {sp : Nat → Bool} {hd : Bool} : ∀ {ts : List TypeId} {vs : List Value} {ds : List (DataW H)} {ps : List MemPlace}, DataW.TrodAll enc P w b sp hd ts vs ds ps → ds.length = ts.length
  | [], [], [], _, _ => rfl
  | t :: ts, v :: vs, d :: ds, ps, ⟨p, q, h1, h2, e⟩ => by simp [trodAll_len h2]
  | [], _ :: _, _, _, h => by simp [DataW.TrodAll] at h
  | [], [], _ :: _, _, h => by simp [DataW.TrodAll] at h
  | _ :: _, [], _, _, h => by simp [DataW.TrodAll] at h
  | _ :: _, _ :: _, [], _, h => by simp [DataW.TrodAll] at h

end

end Go.VL

namespace Go.VL

open Go.Proofs

/-- the type of errors -/
abbrev tCode : Nat := 40

abbrev ann : Ann := { errs := [(40, .i64)] }

abbrev n_right : Nat := 72

def c_right : C := (.seq (.reg [⟨(some 2), (.mv (.c (.bool false))), none⟩]) (.seq (.reg [⟨(some 3), (.mv (.t 0)), none⟩, ⟨(some 4), (.bin .eql .i64 (.t 3) (.c (.int .i64 1))), none⟩, ⟨(some 5), (.mv (.t 4)), none⟩, ⟨(some 6), (.mv (.t 0)), (some (5, false))⟩, ⟨(some 7), (.bin .eql .i64 (.t 6) (.c (.int .i64 2))), (some (5, false))⟩, ⟨(some 8), (.pick (.t 5) (.c (.bool true)) (.t 7)), none⟩, ⟨(some 9), (.mv (.t 8)), none⟩, ⟨(some 10), (.mv (.t 0)), (some (9, false))⟩, ⟨(some 11), (.bin .eql .i64 (.t 10) (.c (.int .i64 4))), (some (9, false))⟩, ⟨(some 12), (.pick (.t 9) (.c (.bool true)) (.t 11)), none⟩, ⟨(some 13), (.mv (.t 12)), none⟩, ⟨(some 14), (.mv (.t 0)), (some (13, false))⟩, ⟨(some 15), (.bin .eql .i64 (.t 14) (.c (.int .i64 8))), (some (13, false))⟩, ⟨(some 16), (.pick (.t 13) (.c (.bool true)) (.t 15)), none⟩, ⟨(some 2), (.mv (.t 16)), none⟩]) .ret))

set_option maxRecDepth 100000 in
theorem k_right : compileC Tryd.prog ann (Tryd.f72.body.getD .skip) = some c_right := by kernel_rfl

theorem s_right {args : List AV} {σ : St} {K : AV → St → Prop} (h : WF σ → T Tryd.prog ann c_right (Fin σ [(.t 2)] K) (args ++ List.replicate (17 - args.length) (.tup [])) σ) : ACalls Tryd.prog n_right args σ K :=
  calls_ok Tryd.func72 (by kernel_rfl) (by kernel_rfl) k_right (by kernel_rfl) (by kernel_rfl) h

abbrev n_wput : Nat := 66

def c_wput : C := (.seq (.reg [⟨(some 6), (.mv (.c (.sl [] .nil))), none⟩, ⟨(some 7), (.mv (.c .nili)), none⟩]) (.seq (.seq (.reg [⟨(some 10), (.mv (.t 1)), none⟩, ⟨(some 11), (.call 72 [(.t 10)]), none⟩, ⟨(some 12), (.not (.t 11)), none⟩, ⟨(some 13), (.mv (.t 12)), none⟩, ⟨(some 14), (.mv (.t 1)), (some (13, false))⟩, ⟨(some 15), (.bin .lss .i64 (.t 14) (.c (.int .i64 8))), (some (13, false))⟩, ⟨(some 16), (.mv (.t 15)), (some (13, false))⟩, ⟨(some 17), (.mv (.t 2)), (some (16, true))⟩, ⟨(some 18), (.mv (.t 1)), (some (16, true))⟩, ⟨(some 19), (.bin .mul .i64 (.c (.int .i64 8)) (.t 18)), (some (16, true))⟩, ⟨(some 20), (.bin .shr .u64 (.t 17) (.t 19)), (some (16, true))⟩, ⟨(some 21), (.bin .neq .u64 (.t 20) (.c (.int .u64 0))), (some (16, true))⟩, ⟨(some 22), (.pick (.t 16) (.t 21) (.c (.bool false))), (some (13, false))⟩, ⟨(some 23), (.pick (.t 13) (.c (.bool true)) (.t 22)), none⟩]) (.cond (.t 23) (.seq (.reg [⟨(some 24), (.mkI 40 (.c (.int .i64 1))), none⟩, ⟨(some 6), (.mv (.c (.sl [] .nil))), none⟩, ⟨(some 7), (.mv (.t 24)), none⟩]) .ret) .skip)) (.seq (.reg [⟨(some 25), (.bslice 1 .tip []), none⟩, ⟨(some 26), (.mv (.t 0)), none⟩, ⟨(some 27), (.app 1 1 .tip (.t 25) (.t 26)), none⟩, ⟨(some 8), (.mv (.t 27)), none⟩]) (.seq (.seq (.reg [⟨(some 28), (.mv (.t 1)), none⟩, ⟨(some 29), (.bin .sub .i64 (.t 28) (.c (.int .i64 1))), none⟩, ⟨(some 9), (.mv (.t 29)), none⟩]) (.block 0 (.loop (.seq (.seq (.reg [⟨(some 30), (.mv (.t 9)), none⟩, ⟨(some 31), (.bin .geq .i64 (.t 30) (.c (.int .i64 0))), none⟩]) (.cond (.t 31) .skip (.exit 0))) (.seq (.block 1 (.reg [⟨(some 34), (.mv (.t 8)), none⟩, ⟨(some 35), (.mv (.t 2)), none⟩, ⟨(some 36), (.mv (.t 9)), none⟩, ⟨(some 37), (.bin .mul .i64 (.c (.int .i64 8)) (.t 36)), none⟩, ⟨(some 38), (.bin .shr .u64 (.t 35) (.t 37)), none⟩, ⟨(some 39), (.conv .u8 (.t 38)), none⟩, ⟨(some 40), (.bslice 1 .val [(.t 39)]), none⟩, ⟨(some 41), (.app 1 1 .tip (.t 34) (.t 40)), none⟩, ⟨(some 8), (.mv (.t 41)), none⟩])) (.reg [⟨(some 32), (.mv (.t 9)), none⟩, ⟨(some 33), (.bin .sub .i64 (.t 32) (.c (.int .i64 1))), none⟩, ⟨(some 9), (.mv (.t 33)), none⟩])))))) (.seq (.reg [⟨(some 42), (.mv (.t 8)), none⟩, ⟨(some 6), (.mv (.t 42)), none⟩, ⟨(some 7), (.mv (.c .nili)), none⟩]) .ret)))))

set_option maxRecDepth 100000 in
theorem k_wput : compileC Tryd.prog ann (Tryd.f66.body.getD .skip) = some c_wput := by kernel_rfl

theorem s_wput {args : List AV} {σ : St} {K : AV → St → Prop} (h : WF σ → T Tryd.prog ann c_wput (Fin σ [(.t 6), (.t 7)] K) (args ++ List.replicate (43 - args.length) (.tup [])) σ) : ACalls Tryd.prog n_wput args σ K :=
  calls_ok Tryd.func66 (by kernel_rfl) (by kernel_rfl) k_wput (by kernel_rfl) (by kernel_rfl) h

abbrev n_rbytes : Nat := 49

def c_rbytes : C := (.seq (.reg [⟨(some 4), (.mv (.c (.sl [] .nil))), none⟩]) (.seq (.seq (.reg [⟨(some 5), (.mv (.t 0)), none⟩, ⟨(some 6), (.bin .eql .i64 (.t 5) (.c (.int .i64 0))), none⟩]) (.cond (.t 6) (.seq (.reg [⟨(some 4), (.mv (.c (.sl [] .nil))), none⟩]) .ret) .skip)) (.seq (.reg [⟨(some 7), (.mv (.t 0)), none⟩, ⟨(some 8), (.bin .sub .i64 (.t 7) (.c (.int .i64 1))), none⟩, ⟨(some 9), (.mv (.t 1)), none⟩, ⟨(some 10), (.bin .quo .u64 (.t 9) (.c (.int .u64 256))), none⟩, ⟨(some 11), (.call 49 [(.t 8), (.t 10)]), none⟩, ⟨(some 12), (.mv (.t 1)), none⟩, ⟨(some 13), (.bin .rem .u64 (.t 12) (.c (.int .u64 256))), none⟩, ⟨(some 14), (.conv .u8 (.t 13)), none⟩, ⟨(some 15), (.bslice 1 .val [(.t 14)]), none⟩, ⟨(some 16), (.app 1 1 .tip (.t 11) (.t 15)), none⟩, ⟨(some 4), (.mv (.t 16)), none⟩]) .ret)))

set_option maxRecDepth 100000 in
theorem k_rbytes : compileC Tryd.prog ann (Tryd.f49.body.getD .skip) = some c_rbytes := by kernel_rfl

theorem s_rbytes {args : List AV} {σ : St} {K : AV → St → Prop} (h : WF σ → T Tryd.prog ann c_rbytes (Fin σ [(.t 4)] K) (args ++ List.replicate (17 - args.length) (.tup [])) σ) : ACalls Tryd.prog n_rbytes args σ K :=
  calls_ok Tryd.func49 (by kernel_rfl) (by kernel_rfl) k_rbytes (by kernel_rfl) (by kernel_rfl) h

abbrev n_step : Nat := 128

def c_step : C := (.seq (.reg [⟨(some 2), (.mv (.c (.int .u32 0))), none⟩]) (.seq (.seq (.reg [⟨(some 4), (.mv (.c (.int .i64 0))), none⟩]) (.block 0 (.loop (.seq (.reg [⟨(some 5), (.bin .lss .i64 (.t 4) (.c (.int .i64 8))), none⟩]) (.seq (.cond (.t 5) .skip (.exit 0)) (.seq (.block 1 (.seq (.reg [⟨(some 6), (.mv (.t 0)), none⟩, ⟨(some 7), (.bin .and .u32 (.t 6) (.c (.int .u32 1))), none⟩, ⟨(some 3), (.mv (.t 7)), none⟩]) (.seq (.reg [⟨(some 8), (.mv (.t 0)), none⟩, ⟨(some 9), (.bin .shr .u32 (.t 8) (.c (.int .u64 1))), none⟩, ⟨(some 0), (.mv (.t 9)), none⟩]) (.seq (.reg [⟨(some 10), (.mv (.t 3)), none⟩, ⟨(some 11), (.bin .eql .u32 (.t 10) (.c (.int .u32 1))), none⟩]) (.cond (.t 11) (.reg [⟨(some 12), (.mv (.t 0)), none⟩, ⟨(some 13), (.bin .xor .u32 (.t 12) (.c (.int .u32 3988292384))), none⟩, ⟨(some 0), (.mv (.t 13)), none⟩]) .skip))))) (.reg [⟨(some 14), (.bin .add .i64 (.t 4) (.c (.int .i64 1))), none⟩, ⟨(some 4), (.mv (.t 14)), none⟩]))))))) (.seq (.reg [⟨(some 15), (.mv (.t 0)), none⟩, ⟨(some 2), (.mv (.t 15)), none⟩]) .ret)))

set_option maxRecDepth 100000 in
theorem k_step : compileC Tryd.prog ann (Tryd.f128.body.getD .skip) = some c_step := by kernel_rfl

theorem s_step {args : List AV} {σ : St} {K : AV → St → Prop} (h : WF σ → T Tryd.prog ann c_step (Fin σ [(.t 2)] K) (args ++ List.replicate (16 - args.length) (.tup [])) σ) : ACalls Tryd.prog n_step args σ K :=
  calls_ok Tryd.func128 (by kernel_rfl) (by kernel_rfl) k_step (by kernel_rfl) (by kernel_rfl) h

abbrev n_con : Nat := 116

def c_con : C := (.seq (.reg [⟨(some 4), (.mv (.c (.int .u32 0))), none⟩]) (.seq (.reg [⟨(some 5), (.alloc (zeros 256 (.int .u32 0))), none⟩]) (.seq (.seq (.reg [⟨(some 10), (.mv (.c (.int .i64 0))), none⟩]) (.block 0 (.loop (.seq (.reg [⟨(some 11), (.bin .lss .i64 (.t 10) (.c (.int .i64 256))), none⟩]) (.seq (.cond (.t 11) .skip (.exit 0)) (.seq (.block 1 (.seq (.reg [⟨(some 12), (.mv (.t 10)), none⟩, ⟨(some 6), (.mv (.t 12)), none⟩]) (.reg [⟨(some 13), (.mv (.t 6)), none⟩, ⟨(some 14), (.mv (.t 6)), none⟩, ⟨(some 15), (.conv .u32 (.t 14)), none⟩, ⟨(some 16), (.call 128 [(.t 15)]), none⟩, ⟨(some 17), (.iaddrA 256 1 (.t 5) (.t 13)), none⟩, ⟨none, (.store 1 (.t 17) (.t 16)), none⟩]))) (.reg [⟨(some 18), (.bin .add .i64 (.t 10) (.c (.int .i64 1))), none⟩, ⟨(some 10), (.mv (.t 18)), none⟩]))))))) (.seq (.reg [⟨(some 19), (.mv (.t 0)), none⟩, ⟨(some 20), (.un .xor .u32 (.t 19)), none⟩, ⟨(some 7), (.mv (.t 20)), none⟩]) (.seq (.seq (.reg [⟨(some 21), (.mv (.t 1)), none⟩, ⟨(some 22), (.len (.t 21)), none⟩, ⟨(some 23), (.mv (.c (.int .i64 0))), none⟩]) (.block 2 (.loop (.seq (.reg [⟨(some 24), (.bin .lss .i64 (.t 23) (.t 22)), none⟩]) (.seq (.cond (.t 24) .skip (.exit 2)) (.seq (.block 3 (.seq (.reg [⟨(some 25), (.iaddr 1 (.t 21) (.t 23)), none⟩, ⟨(some 26), (.load none (.t 25)), none⟩, ⟨(some 9), (.mv (.t 26)), none⟩]) (.reg [⟨(some 27), (.mv (.t 7)), none⟩, ⟨(some 28), (.bin .shr .u32 (.t 27) (.c (.int .u64 8))), none⟩, ⟨(some 29), (.mv (.t 7)), none⟩, ⟨(some 30), (.conv .u8 (.t 29)), none⟩, ⟨(some 31), (.mv (.t 9)), none⟩, ⟨(some 32), (.bin .xor .u8 (.t 30) (.t 31)), none⟩, ⟨(some 33), (.iaddrA 256 1 (.t 5) (.t 32)), none⟩, ⟨(some 34), (.load none (.t 33)), none⟩, ⟨(some 35), (.bin .xor .u32 (.t 28) (.t 34)), none⟩, ⟨(some 7), (.mv (.t 35)), none⟩]))) (.reg [⟨(some 36), (.bin .add .i64 (.t 23) (.c (.int .i64 1))), none⟩, ⟨(some 23), (.mv (.t 36)), none⟩]))))))) (.seq (.reg [⟨(some 37), (.mv (.t 7)), none⟩, ⟨(some 38), (.un .xor .u32 (.t 37)), none⟩, ⟨(some 4), (.mv (.t 38)), none⟩]) .ret))))))

set_option maxRecDepth 100000 in
theorem k_con : compileC Tryd.prog ann (Tryd.f116.body.getD .skip) = some c_con := by kernel_rfl

theorem s_con {args : List AV} {σ : St} {K : AV → St → Prop} (h : WF σ → T Tryd.prog ann c_con (Fin σ [(.t 4)] K) (args ++ List.replicate (39 - args.length) (.tup [])) σ) : ACalls Tryd.prog n_con args σ K :=
  calls_ok Tryd.func116 (by kernel_rfl) (by kernel_rfl) k_con (by kernel_rfl) (by kernel_rfl) h

abbrev n_csum : Nat := 94

def c_csum : C := (.seq (.reg [⟨(some 2), (.mv (.c (.int .u32 0))), none⟩]) (.seq (.reg [⟨(some 3), (.mv (.t 0)), none⟩, ⟨(some 4), (.call 116 [(.c (.int .u32 0)), (.t 3)]), none⟩, ⟨(some 2), (.mv (.t 4)), none⟩]) .ret))

set_option maxRecDepth 100000 in
theorem k_csum : compileC Tryd.prog ann (Tryd.f94.body.getD .skip) = some c_csum := by kernel_rfl

theorem s_csum {args : List AV} {σ : St} {K : AV → St → Prop} (h : WF σ → T Tryd.prog ann c_csum (Fin σ [(.t 2)] K) (args ++ List.replicate (5 - args.length) (.tup [])) σ) : ACalls Tryd.prog n_csum args σ K :=
  calls_ok Tryd.func94 (by kernel_rfl) (by kernel_rfl) k_csum (by kernel_rfl) (by kernel_rfl) h

abbrev n_rsum : Nat := 50

def c_rsum : C := (.seq (.reg [⟨(some 2), (.mv (.c (.int .u32 0))), none⟩]) (.seq (.reg [⟨(some 3), (.mv (.c (.int .u32 4294967295))), none⟩]) (.seq (.seq (.reg [⟨(some 4), (.mv (.c (.int .i64 0))), none⟩]) (.block 0 (.loop (.seq (.seq (.reg [⟨(some 7), (.mv (.t 4)), none⟩, ⟨(some 8), (.mv (.t 0)), none⟩, ⟨(some 9), (.len (.t 8)), none⟩, ⟨(some 10), (.bin .lss .i64 (.t 7) (.t 9)), none⟩]) (.cond (.t 10) .skip (.exit 0))) (.seq (.block 1 (.seq (.reg [⟨(some 13), (.mv (.t 3)), none⟩, ⟨(some 14), (.mv (.t 0)), none⟩, ⟨(some 15), (.mv (.t 4)), none⟩, ⟨(some 16), (.iaddr 1 (.t 14) (.t 15)), none⟩, ⟨(some 17), (.load none (.t 16)), none⟩, ⟨(some 18), (.conv .u32 (.t 17)), none⟩, ⟨(some 19), (.bin .xor .u32 (.t 13) (.t 18)), none⟩, ⟨(some 3), (.mv (.t 19)), none⟩]) (.seq (.reg [⟨(some 5), (.mv (.c (.int .i64 0))), none⟩]) (.block 2 (.loop (.seq (.seq (.reg [⟨(some 20), (.mv (.t 5)), none⟩, ⟨(some 21), (.bin .lss .i64 (.t 20) (.c (.int .i64 8))), none⟩]) (.cond (.t 21) .skip (.exit 2))) (.seq (.block 3 (.seq (.reg [⟨(some 24), (.mv (.t 3)), none⟩, ⟨(some 25), (.bin .rem .u32 (.t 24) (.c (.int .u32 2))), none⟩, ⟨(some 26), (.bin .eql .u32 (.t 25) (.c (.int .u32 1))), none⟩, ⟨(some 6), (.mv (.t 26)), none⟩]) (.seq (.reg [⟨(some 27), (.mv (.t 3)), none⟩, ⟨(some 28), (.bin .quo .u32 (.t 27) (.c (.int .u32 2))), none⟩, ⟨(some 3), (.mv (.t 28)), none⟩]) (.seq (.reg [⟨(some 29), (.mv (.t 6)), none⟩]) (.cond (.t 29) (.reg [⟨(some 30), (.mv (.t 3)), none⟩, ⟨(some 31), (.bin .xor .u32 (.t 30) (.c (.int .u32 3988292384))), none⟩, ⟨(some 3), (.mv (.t 31)), none⟩]) .skip))))) (.reg [⟨(some 22), (.mv (.t 5)), none⟩, ⟨(some 23), (.bin .add .i64 (.t 22) (.c (.int .i64 1))), none⟩, ⟨(some 5), (.mv (.t 23)), none⟩])))))))) (.reg [⟨(some 11), (.mv (.t 4)), none⟩, ⟨(some 12), (.bin .add .i64 (.t 11) (.c (.int .i64 1))), none⟩, ⟨(some 4), (.mv (.t 12)), none⟩])))))) (.seq (.reg [⟨(some 32), (.mv (.t 3)), none⟩, ⟨(some 33), (.bin .sub .u32 (.c (.int .u32 4294967295)) (.t 32)), none⟩, ⟨(some 2), (.mv (.t 33)), none⟩]) .ret))))

set_option maxRecDepth 100000 in
theorem k_rsum : compileC Tryd.prog ann (Tryd.f50.body.getD .skip) = some c_rsum := by kernel_rfl

theorem s_rsum {args : List AV} {σ : St} {K : AV → St → Prop} (h : WF σ → T Tryd.prog ann c_rsum (Fin σ [(.t 2)] K) (args ++ List.replicate (34 - args.length) (.tup [])) σ) : ACalls Tryd.prog n_rsum args σ K :=
  calls_ok Tryd.func50 (by kernel_rfl) (by kernel_rfl) k_rsum (by kernel_rfl) (by kernel_rfl) h

abbrev n_cseal : Nat := 67

def c_cseal : C := (.seq (.reg [⟨(some 2), (.mv (.c (.sl [] .nil))), none⟩]) (.seq (.reg [⟨(some 6), (.mv (.t 0)), none⟩, ⟨(some 7), (.mv (.t 0)), none⟩, ⟨(some 8), (.call 94 [(.t 7)]), none⟩, ⟨(some 9), (.conv .u64 (.t 8)), none⟩, ⟨(some 10), (.call 66 [(.t 6), (.c (.int .i64 4)), (.t 9)]), none⟩, ⟨(some 5), (.mv (.t 10)), none⟩, ⟨(some 11), (.ext (.t 5) 0), none⟩, ⟨(some 12), (.ext (.t 5) 1), none⟩, ⟨(some 3), (.mv (.t 11)), none⟩, ⟨(some 4), (.mv (.t 12)), none⟩]) (.seq (.seq (.reg [⟨(some 13), (.mv (.t 4)), none⟩, ⟨(some 14), (.eqI true true [(40, .i64)] (.t 13) (.c .nili)), none⟩]) (.cond (.t 14) (.seq (.reg [⟨(some 2), (.mv (.c (.sl [] .nil))), none⟩]) .ret) .skip)) (.seq (.reg [⟨(some 15), (.mv (.t 3)), none⟩, ⟨(some 2), (.mv (.t 15)), none⟩]) .ret))))

set_option maxRecDepth 100000 in
theorem k_cseal : compileC Tryd.prog ann (Tryd.f67.body.getD .skip) = some c_cseal := by kernel_rfl

theorem s_cseal {args : List AV} {σ : St} {K : AV → St → Prop} (h : WF σ → T Tryd.prog ann c_cseal (Fin σ [(.t 2)] K) (args ++ List.replicate (16 - args.length) (.tup [])) σ) : ACalls Tryd.prog n_cseal args σ K :=
  calls_ok Tryd.func67 (by kernel_rfl) (by kernel_rfl) k_cseal (by kernel_rfl) (by kernel_rfl) h

abbrev n_rseal : Nat := 29

def c_rseal : C := (.seq (.reg [⟨(some 2), (.mv (.c (.sl [] .nil))), none⟩]) (.seq (.reg [⟨(some 3), (.bslice 1 .tip []), none⟩, ⟨(some 4), (.mv (.t 0)), none⟩, ⟨(some 5), (.app 1 1 .tip (.t 3) (.t 4)), none⟩, ⟨(some 6), (.mv (.t 0)), none⟩, ⟨(some 7), (.call 50 [(.t 6)]), none⟩, ⟨(some 8), (.conv .u64 (.t 7)), none⟩, ⟨(some 9), (.call 49 [(.c (.int .i64 4)), (.t 8)]), none⟩, ⟨(some 10), (.app 1 1 .tip (.t 5) (.t 9)), none⟩, ⟨(some 2), (.mv (.t 10)), none⟩]) .ret))

set_option maxRecDepth 100000 in
theorem k_rseal : compileC Tryd.prog ann (Tryd.f29.body.getD .skip) = some c_rseal := by kernel_rfl

theorem s_rseal {args : List AV} {σ : St} {K : AV → St → Prop} (h : WF σ → T Tryd.prog ann c_rseal (Fin σ [(.t 2)] K) (args ++ List.replicate (11 - args.length) (.tup [])) σ) : ACalls Tryd.prog n_rseal args σ K :=
  calls_ok Tryd.func29 (by kernel_rfl) (by kernel_rfl) k_rseal (by kernel_rfl) (by kernel_rfl) h

abbrev n_code : Nat := 14

def c_code : C := (.seq (.reg [⟨(some 2), (.mv (.c (.int .i64 0))), none⟩]) (.seq (.seq (.reg [⟨(some 4), (.mv (.t 0)), none⟩, ⟨(some 5), (.eqI false true [(40, .i64)] (.t 4) (.c .nili)), none⟩]) (.cond (.t 5) (.seq (.reg [⟨(some 2), (.mv (.c (.int .i64 0))), none⟩]) .ret) .skip)) (.seq (.seq (.reg [⟨(some 3), (.mv (.c (.int .i64 1))), none⟩]) (.block 0 (.loop (.seq (.seq (.reg [⟨(some 6), (.mv (.t 3)), none⟩, ⟨(some 7), (.bin .leq .i64 (.t 6) (.c (.int .i64 10))), none⟩]) (.cond (.t 7) .skip (.exit 0))) (.seq (.block 1 (.seq (.reg [⟨(some 10), (.mv (.t 0)), none⟩, ⟨(some 11), (.mv (.t 3)), none⟩, ⟨(some 12), (.mkI 40 (.t 11)), none⟩, ⟨(some 13), (.eqI false false [(40, .i64)] (.t 10) (.t 12)), none⟩]) (.cond (.t 13) (.seq (.reg [⟨(some 14), (.mv (.t 3)), none⟩, ⟨(some 2), (.mv (.t 14)), none⟩]) .ret) .skip))) (.reg [⟨(some 8), (.mv (.t 3)), none⟩, ⟨(some 9), (.bin .add .i64 (.t 8) (.c (.int .i64 1))), none⟩, ⟨(some 3), (.mv (.t 9)), none⟩])))))) (.seq (.reg [⟨(some 2), (.mv (.c (.int .i64 (-1)))), none⟩]) .ret))))

set_option maxRecDepth 100000 in
theorem k_code : compileC Tryd.prog ann (Tryd.f14.body.getD .skip) = some c_code := by kernel_rfl

theorem s_code {args : List AV} {σ : St} {K : AV → St → Prop} (h : WF σ → T Tryd.prog ann c_code (Fin σ [(.t 2)] K) (args ++ List.replicate (15 - args.length) (.tup [])) σ) : ACalls Tryd.prog n_code args σ K :=
  calls_ok Tryd.func14 (by kernel_rfl) (by kernel_rfl) k_code (by kernel_rfl) (by kernel_rfl) h

end Go.VL

namespace Go.VL

open Go.Proofs

theorem hm : Tryd.prog.follows .mixedOrders = true := by kernel_rfl

theorem wrap64 {n : Int} (h0 : -9223372036854775808 ≤ n) (h1 : n < 9223372036854775808) : IntKind.i64.wrap n = n := by
  simp [IntKind.wrap, IntKind.bits, IntKind.signed]; omega

def rightB (w : Int) : Bool := decide (w = 1 ∨ w = 2 ∨ w = 4 ∨ w = 8)

theorem right_ok {w : Int} {σ : St} : ACalls Tryd.prog n_right [.int .i64 w] σ (fun v σ' => v = .bool (rightB w) ∧ σ' = σ) := by
  refine s_right (fun wf => ?_)
  unfold c_right
  refine T.seq_k (fun K_h1 h1 => ?_)
  refine T.regi hm ?_
  simp only [↓reduceIte, namesOf, List.any, I.names, aopsI, astep, ev, setd, List.set, List.cons_append, List.nil_append, List.length_cons, List.length_nil, List.replicate, then_normal, Bool.or_false, Bool.false_eq_true, up_zero, Nat.reduceAdd, Nat.reduceSub]
  refine h1 _ _ ?_
  try clear h1 K_h1
  refine T.seq_k (fun K_h1 h1 => ?_)
  by_cases w1 : w = 1
  · subst w1
    refine T.regi hm ?_
    simp only [↓reduceIte, namesOf, List.any, I.names, aopsI, astep, ev, setd, List.set, List.getD, List.getElem?_cons_zero, List.getElem?_cons_succ, then_normal, Option.getD_some, Bool.or_false, Bool.false_eq_true, up_zero, binv, ↓opt_def, eq_self, reduceCtorEq, beq_self_eq_true, reduceCtorEq]
    refine h1 _ _ ?_
    try clear h1 K_h1
    exact T.ret (Fin.ret rfl ⟨by simp [pack, rightB], rfl⟩)
  by_cases w2 : w = 2
  · subst w2
    refine T.regi hm ?_
    simp only [↓reduceIte, namesOf, List.any, I.names, aopsI, astep, ev, setd, List.set, List.getD, List.getElem?_cons_zero, List.getElem?_cons_succ, then_normal, Option.getD_some, Bool.or_false, Bool.false_eq_true, up_zero, binv, ↓opt_def, eq_self, reduceCtorEq, beq_self_eq_true, reduceCtorEq, Int.reduceBEq]
    refine h1 _ _ ?_
    try clear h1 K_h1
    exact T.ret (Fin.ret rfl ⟨by simp [pack, rightB], rfl⟩)
  by_cases w4 : w = 4
  · subst w4
    refine T.regi hm ?_
    simp only [↓reduceIte, namesOf, List.any, I.names, aopsI, astep, ev, setd, List.set, List.getD, List.getElem?_cons_zero, List.getElem?_cons_succ, then_normal, Option.getD_some, Bool.or_false, Bool.false_eq_true, up_zero, binv, ↓opt_def, eq_self, reduceCtorEq, beq_self_eq_true, reduceCtorEq, Int.reduceBEq]
    refine h1 _ _ ?_
    try clear h1 K_h1
    exact T.ret (Fin.ret rfl ⟨by simp [pack, rightB], rfl⟩)
  · have e1 : (w == 1) = false := by simpa using w1
    have e2 : (w == 2) = false := by simpa using w2
    have e4 : (w == 4) = false := by simpa using w4
    refine T.regi hm ?_
    simp only [↓reduceIte, namesOf, List.any, I.names, aopsI, astep, ev, setd, List.set, List.getD, List.getElem?_cons_zero, List.getElem?_cons_succ, then_normal, Option.getD_some, Bool.or_false, Bool.false_eq_true, up_zero, binv, ↓opt_def, eq_self, e1, e2, e4]
    refine h1 _ _ ?_
    try clear h1 K_h1
    refine T.ret (Fin.ret rfl ⟨?_, rfl⟩)
    by_cases w8 : w = 8
    · subst w8; simp [pack, rightB]
    · have e8 : (w == 8) = false := by simpa using w8
      simp [pack, rightB, w1, w2, w4, w8]

end Go.VL

namespace Go.VL

open Go.Proofs

def g_right : List AV → Option AV
  | [.int .i64 w] => some (.bool (rightB w))
  | _ => none

theorem right_pure : PureC Tryd.prog n_right g_right := by
  intro args σ v h
  unfold g_right at h
  split at h
  · simp only [Option.some.injEq] at h; subst h; exact right_ok
  · cases h

def t1 : Tbl := [(n_right, g_right)]

theorem t1_ok : t1.ok Tryd.prog := Tbl.ok_cons right_pure Tbl.ok_nil

/-- a number's bytes, the highest first -/
def beB : Nat → Nat → List UInt8
  | 0, _ => []
  | w + 1, n => beB w (n / 256) ++ [UInt8.ofNat (n % 256)]

theorem beB_len : ∀ (w n : Nat), (beB w n).length = w
  | 0, _ => rfl
  | w + 1, n => by simp [beB, beB_len w]

theorem shr_byte (n i : Nat) (hi : i ≤ 8) : IntKind.u8.wrap (Int.fdiv (n : Int) (2 ^ min (8 * (i : Int)).toNat IntKind.u64.bits)) = ((UInt8.ofNat (n / 256 ^ i % 256)).toNat : Int) := by
  have h1 : min (8 * (i : Int)).toNat IntKind.u64.bits = 8 * i := by
    have : (8 * (i : Int)).toNat = 8 * i := by omega
    rw [this]; simp [IntKind.bits]; omega
  rw [h1]
  have h2 : (2 : Int) ^ (8 * i) = ((256 ^ i : Nat) : Int) := by
    rw [show (256 : Nat) = 2 ^ 8 from rfl, ← Nat.pow_mul]; simp
  rw [h2, Int.fdiv_eq_ediv_of_nonneg _ (Int.natCast_nonneg _), ← Int.natCast_ediv]
  simp [IntKind.wrap, IntKind.bits, IntKind.signed]

theorem shr_zero (n w : Nat) (hw : w ≤ 8) : (Int.fdiv (n : Int) (2 ^ min (8 * (w : Int)).toNat IntKind.u64.bits) != 0) = !decide (n / 256 ^ w = 0) := by
  have h1 : min (8 * (w : Int)).toNat IntKind.u64.bits = 8 * w := by
    have : (8 * (w : Int)).toNat = 8 * w := by omega
    rw [this]; simp [IntKind.bits]; omega
  rw [h1]
  have h2 : (2 : Int) ^ (8 * w) = ((256 ^ w : Nat) : Int) := by
    rw [show (256 : Nat) = 2 ^ 8 from rfl, ← Nat.pow_mul]; simp
  rw [h2, Int.fdiv_eq_ediv_of_nonneg _ (Int.natCast_nonneg _), ← Int.natCast_ediv]
  by_cases h : n / 256 ^ w = 0
  · rw [h]; rfl
  · rw [decide_eq_false h]
    have : ((n / 256 ^ w : Nat) : Int) ≠ 0 := by omega
    simpa using this

theorem byte1 (b : UInt8) : [AV.int .u8 (b.toNat : Int)] = bytesAV [b] := rfl

theorem bytesAV_app (x y : List UInt8) : bytesAV x ++ bytesAV y = bytesAV (x ++ y) := by simp [bytesAV]

theorem bytesAV_len (x : List UInt8) : (bytesAV x).length = x.length := by simp [bytesAV]

theorem bytesAV_er (x : List UInt8) : (bytesAV x).map AV.er = bytesAV x := by
  simp only [bytesAV, List.map_map]; rfl

theorem fits_byte (b : UInt8) : AV.fits 1 (.int .u8 (b.toNat : Int)) = true := rfl

/-- what word.Put comes to -/
theorem wput_ok {l : List UInt8} {g : Ver} {w n : Nat} {σ : St} (hl : l.length ≤ 1099511627776) (hw : rightB w = true) (hn : w < 8 → n / 256 ^ w = 0) :
    ACalls Tryd.prog n_wput [.sl (bytesAV l) g, .int .i64 w, .int .u64 n] σ (fun v σ' => ∃ h, OneTip σ σ' h 1 ∧ v = .tup [.sl (bytesAV (l ++ beB w n)) (.tip h), .nili]) := by
  have hw8 : w ≤ 8 := by simp [rightB] at hw; omega
  have hw1 : 1 ≤ w := by simp [rightB] at hw; omega
  refine s_wput (fun wf => ?_)
  unfold c_wput
  refine T.seq_k (fun K_h1 h1 => ?_)
  refine T.regi hm ?_
  simp only [↓reduceIte, namesOf, List.any, I.names, aopsI, astep, ev, setd, List.set, List.cons_append, List.nil_append, List.length_cons, List.length_nil, List.replicate, then_normal, Bool.or_false, Bool.false_eq_true, up_zero, Nat.reduceAdd, Nat.reduceSub]
  refine h1 _ _ ?_
  try clear h1 K_h1
  refine T.seq_k (fun K_h1 h1 => ?_)
  refine T.seq_k (fun K_h2 h2 => ?_)
  have main : ∀ ρ, keep [0, 1, 2] 0 ρ = [.sl (bytesAV l) g, .int .i64 w, .int .u64 n] ++ List.replicate 40 .any → K_h1 ρ σ := by
    intro ρ hρ
    refine h1 _ _ (T.gh (Gh.keep [0, 1, 2]) ?_)
    rw [hρ]
    clear h1 hρ h2 ρ
    refine T.seq_k (fun K_h1 h1 => ?_)
    refine T.regi hm ?_
    simp only [↓reduceIte, namesOf, List.any, I.names, aopsI, astep, ev, setd, List.set, List.getD, List.getElem?_cons_zero, List.getElem?_cons_succ, List.cons_append, List.nil_append, List.length_cons, List.length_nil, List.replicate, then_normal, Option.getD_some, Bool.or_false, Bool.or_true, Nat.reduceAdd, List.map_nil, St.set_same, eq_self, held, srcOf, St.set_same, bytesAV_er, bytes_all, List.all_nil, Bool.true_and]
    rw [if_pos (by simp only [bytesAV_len, decide_eq_true_eq]; omega)]
    have o1 : OneTip σ ((((σ.up 4).set (σ.next + 0) (Res.tip 1)).del (σ.next + 0)).set (σ.next + 2) (Res.tip 1)) (σ.next + 2) 1 :=
      (OneTip.new (n := 4) (i := 0) (by omega)).mv wf (by omega) (by simp)
    generalize ((((σ.up 4).set (σ.next + 0) (Res.tip 1)).del (σ.next + 0)).set (σ.next + 2) (Res.tip 1)) = σ1 at o1 ⊢
    generalize σ.next + 2 = g1 at o1 ⊢
    refine h1 _ _ ?_
    try clear h1 K_h1
    refine T.seq_k (fun K_h1 h1 => ?_)
    refine T.seq_k (fun K_h2 h2 => ?_)
    have e1 : IntKind.i64.wrap ((w : Int) - 1) = (w : Int) - 1 := wrap64 (by omega) (by omega)
    refine T.regi hm ?_
    simp only [↓reduceIte, namesOf, List.any, I.names, aopsI, astep, ev, setd, List.set, List.getD, List.getElem?_cons_zero, List.getElem?_cons_succ, then_normal, Option.getD_some, Bool.or_false, Bool.false_eq_true, up_zero, binv, ↓opt_def, eq_self, e1]
    refine h2 _ _ ?_
    try clear h2 K_h2
    refine T.block ?_
    refine T.gh (Gh.keep [0, 1, 2, 8, 9]) ?_
    refine T.loop (fun ρ σ' => ∃ (i g1 : Nat), i ≤ w ∧ OneTip σ σ' g1 1 ∧ ρ = [.sl (bytesAV l) g, .int .i64 w, .int .u64 n, .any, .any, .any, .any, .any, .sl (bytesAV (l ++ beB (w - i) (n / 256 ^ i))) (.tip g1), .int .i64 ((i : Int) - 1)] ++ List.replicate 33 .any)
      (fun ρ _ => match ρ.getD 9 .any with | .int _ m => (m + 1).toNat | _ => 0) ⟨w, g1, Nat.le_refl _, o1, ?_⟩ ?_
    · simp only [Nat.sub_self, beB, List.append_nil]; rfl
    clear o1
    rintro ρ σ' ⟨i, g1, hi, o1, rfl⟩
    refine T.seq_k (fun K_h2 h2 => ?_)
    refine T.seq_k (fun K_h3 h3 => ?_)
    refine T.regi hm ?_
    simp only [↓reduceIte, namesOf, List.any, I.names, aopsI, astep, ev, setd, List.set, List.getD, List.getElem?_cons_zero, List.getElem?_cons_succ, List.cons_append, List.nil_append, List.replicate, then_normal, Option.getD_some, Bool.or_false, Bool.false_eq_true, up_zero, binv, ↓opt_def, eq_self]
    refine h3 _ _ ?_
    try clear h3 K_h3
    refine T.cond rfl (fun hb => ?_) (fun hb => ?_)
    · refine T.skip ?_
      refine h2 _ _ ?_
      try clear h2 K_h2
      obtain ⟨i, rfl⟩ : ∃ j, i = j + 1 := ⟨i - 1, by simp at hb; omega⟩
      have e0 : ((i + 1 : Nat) : Int) - 1 = (i : Int) := by omega
      have e3 : IntKind.i64.wrap (8 * (i : Int)) = 8 * (i : Int) := wrap64 (by omega) (by omega)
      have e4 : ¬ (8 * (i : Int) < 0) := by omega
      have e5 := shr_byte n i (by omega)
      rw [e0]
      clear hb
      refine T.seq_k (fun K_h2 h2 => ?_)
      refine T.block ?_
      refine T.regi hm ?_
      simp only [↓reduceIte, namesOf, List.any, I.names, aopsI, astep, ev, setd, List.set, List.getD, List.getElem?_cons_zero, List.getElem?_cons_succ, List.cons_append, List.nil_append, List.length_cons, List.length_nil, List.replicate, then_normal, inBlock_normal, Option.getD_some, Bool.or_false, Bool.or_true, Nat.reduceAdd, binv, ↓opt_def, List.map_cons, List.map_nil, Int.natCast_nonneg, eq_self, decide_true, er_int, List.all_cons, held, srcOf, o1.at_, bytes_all, List.all_nil, Bool.true_and, e3, e4, e5, fits_byte, List.all_append, St.up_res]
      have hlen : (beB (w - (i + 1)) (n / 256 ^ (i + 1))).length ≤ 8 := by rw [beB_len]; omega
      rw [if_pos (by simp only [bytesAV_len, List.length_append, decide_eq_true_eq]; omega)]
      have o2 : OneTip σ (((σ'.up 9).del g1).set (σ'.next + 7) (Res.tip 1)) (σ'.next + 7) 1 := (o1.up 9).mv wf (by have := o1.lo; have := o1.hi; omega) (by simp)
      generalize (((σ'.up 9).del g1).set (σ'.next + 7) (Res.tip 1)) = σ2 at o2 ⊢
      generalize σ'.next + 7 = g2 at o2 ⊢
      have e6 : beB (w - (i + 1)) (n / 256 ^ (i + 1)) ++ [UInt8.ofNat (n / 256 ^ i % 256)] = beB (w - i) (n / 256 ^ i) := by
        rw [show w - i = w - (i + 1) + 1 by omega, beB, Nat.pow_succ, Nat.div_div_eq_div_mul]
      rw [byte1, bytesAV_app, List.append_assoc, e6]
      refine h2 _ _ ?_
      try clear h2 K_h2
      have e7 : IntKind.i64.wrap ((i : Int) - 1) = (i : Int) - 1 := wrap64 (by omega) (by omega)
      refine T.regi hm ?_
      simp only [↓reduceIte, namesOf, List.any, I.names, aopsI, astep, ev, setd, List.set, List.getD, List.getElem?_cons_zero, List.getElem?_cons_succ, List.cons_append, List.nil_append, List.replicate, then_normal, Option.getD_some, Bool.or_false, Bool.false_eq_true, up_zero, binv, ↓opt_def, eq_self, e7]
      refine ⟨_, _, Gh.keep [0, 1, 2, 8, 9], ⟨i, g2, by omega, o2, rfl⟩, ?_⟩
      show ((i : Int) - 1 + 1).toNat < ((i : Int) + 1).toNat
      omega
    · refine T.exit ?_
      have : i = 0 := by simp at hb; omega
      subst this
      try simp only [List.getD, List.getElem?_cons_zero, List.getElem?_cons_succ, List.cons_append, List.nil_append, List.replicate, Option.getD_some]
      refine h1 _ _ ?_
      try clear h1 K_h1
      refine T.seq_k (fun K_h1 h1 => ?_)
      refine T.regi hm ?_
      simp only [↓reduceIte, namesOf, List.any, I.names, aopsI, astep, ev, setd, List.set, List.getD, List.getElem?_cons_zero, List.getElem?_cons_succ, then_normal, Option.getD_some, Bool.or_false, Bool.false_eq_true, up_zero]
      refine h1 _ _ ?_
      try clear h1 K_h1
      refine T.ret (Fin.ret rfl ⟨g1, o1, ?_⟩)
      simp [pack]
  by_cases h8 : w < 8
  · have e1 : decide ((w : Int) < 8) = true := by simp; omega
    have e2 := shr_zero n w hw8
    rw [hn h8] at e2
    simp only [decide_true, Bool.not_true] at e2
    have e3 : IntKind.i64.wrap (8 * (w : Int)) = 8 * (w : Int) := wrap64 (by omega) (by omega)
    have e4 : ¬ (8 * (w : Int) < 0) := by omega
    refine T.regt hm t1_ok ?_
    simp only [↓reduceIte, namesOf, List.any, I.names, aopsT, qstep, CPt, Tbl.get, astep, ev, setd, List.set, List.getD, List.getElem?_cons_zero, List.getElem?_cons_succ, then_normal, Option.getD_some, Bool.or_false, Bool.false_eq_true, up_zero, binv, ↓opt_def, List.map_cons, List.map_nil, eq_self, t1, g_right, hw, Bool.not_true, e1, e3, e4, e2]
    refine h2 _ _ ?_
    try clear h2 K_h2
    refine T.cond rfl (fun hb => by cases hb) (fun hb => ?_)
    exact T.skip (main _ rfl)
  · have e1 : decide ((w : Int) < 8) = false := by simp; omega
    refine T.regt hm t1_ok ?_
    simp only [↓reduceIte, namesOf, List.any, I.names, aopsT, qstep, CPt, Tbl.get, astep, ev, setd, List.set, List.getD, List.getElem?_cons_zero, List.getElem?_cons_succ, then_normal, Option.getD_some, Bool.or_false, Bool.false_eq_true, up_zero, binv, ↓opt_def, List.map_cons, List.map_nil, eq_self, t1, g_right, hw, Bool.not_true, e1]
    refine h2 _ _ ?_
    try clear h2 K_h2
    refine T.cond rfl (fun hb => by cases hb) (fun hb => ?_)
    exact T.skip (main _ rfl)

end Go.VL

namespace Go.VL

def bitstep (x : BitVec 32) : BitVec 32 := if x.getLsbD 0 then (x >>> 1) ^^^ 0xEDB88320#32 else x >>> 1

def stepN : Nat → BitVec 32 → BitVec 32
  | 0, x => x
  | n + 1, x => stepN n (bitstep x)

theorem bitstep_xor (a b : BitVec 32) : bitstep (a ^^^ b) = bitstep a ^^^ bitstep b := by
  unfold bitstep
  rw [BitVec.getLsbD_xor, BitVec.ushiftRight_xor_distrib]
  cases a.getLsbD 0 <;> cases b.getLsbD 0 <;> simp only [Bool.xor_false, Bool.xor_true, Bool.not_true, Bool.not_false, if_true, if_false, Bool.false_eq_true]
  · rw [BitVec.xor_assoc]
  · rw [BitVec.xor_assoc, BitVec.xor_assoc, BitVec.xor_comm (b >>> 1)]
  · rw [BitVec.xor_assoc (a >>> 1), BitVec.xor_comm 0xEDB88320#32, BitVec.xor_assoc (b >>> 1), BitVec.xor_self, BitVec.xor_zero]

theorem stepN_xor : ∀ (n : Nat) (a b : BitVec 32), stepN n (a ^^^ b) = stepN n a ^^^ stepN n b
  | 0, _, _ => rfl
  | n + 1, a, b => by simp only [stepN]; rw [bitstep_xor, stepN_xor n]

theorem stepN_low : ∀ (n : Nat) (y : BitVec 32), (∀ i, i < n → y.getLsbD i = false) → stepN n y = y >>> n
  | 0, y, _ => by simp [stepN]
  | n + 1, y, h => by
    have h0 : bitstep y = y >>> 1 := by unfold bitstep; rw [h 0 (by omega)]; simp
    simp only [stepN]
    rw [h0, stepN_low n _ (fun i hi => by rw [BitVec.getLsbD_ushiftRight]; exact h (1 + i) (by omega))]
    rw [← BitVec.shiftRight_add, Nat.add_comm]

theorem split8 (y : BitVec 32) : y = (y &&& 0xff#32) ^^^ ((y >>> 8) <<< 8) := by
  apply BitVec.eq_of_getLsbD_eq
  intro i hi
  simp only [BitVec.getLsbD_xor, BitVec.getLsbD_and, BitVec.getLsbD_shiftLeft, BitVec.getLsbD_ushiftRight]
  have hff : (0xff#32).getLsbD i = decide (i < 8) := by
    have : ∀ j : _root_.Fin 32, (0xff#32).getLsbD j.val = decide (j.val < 8) := by decide
    exact this ⟨i, hi⟩
  rw [hff]
  by_cases h8 : i < 8
  · simp [h8]
  · have : 8 + (i - 8) = i := by omega
    simp [h8, this, hi]

/-- eight steps of a word and a byte: by the low byte's own -/
theorem table_step (x c : BitVec 32) (hc : c >>> 8 = 0#32) : stepN 8 (x ^^^ c) = (x >>> 8) ^^^ stepN 8 ((x ^^^ c) &&& 0xff#32) := by
  have h := split8 (x ^^^ c)
  have h2 : stepN 8 (((x ^^^ c) >>> 8) <<< 8) = (x ^^^ c) >>> 8 := by
    rw [stepN_low 8 _ (fun i hi => by rw [BitVec.getLsbD_shiftLeft]; simp [hi])]
    apply BitVec.eq_of_getLsbD_eq
    intro i hi
    simp only [BitVec.getLsbD_ushiftRight, BitVec.getLsbD_shiftLeft]
    by_cases h32 : 8 + i < 32
    · have : 8 + i - 8 = i := by omega
      simp [h32, this]
    · rw [BitVec.getLsbD_of_ge (x ^^^ c) (8 + i) (by omega)]
      simp [h32]
  conv => lhs; rw [h]
  rw [stepN_xor, h2, BitVec.ushiftRight_xor_distrib, hc, BitVec.xor_zero, BitVec.xor_comm]

/-- the checksum's run over bytes -/
def crcRun (x : BitVec 32) : List UInt8 → BitVec 32
  | [] => x
  | c :: r => crcRun (stepN 8 (x ^^^ BitVec.ofNat 32 c.toNat)) r

def crcOf (l : List UInt8) : Nat := (~~~ (crcRun 0xffffffff#32 l)).toNat

theorem crcOf_lt (l : List UInt8) : crcOf l < 4294967296 := (~~~ (crcRun 0xffffffff#32 l)).isLt

/-! ### The operations on words -/

theorem u32_shr1 (x : BitVec 32) : Int.fdiv (x.toNat : Int) (2 ^ min (1 : Int).toNat IntKind.u32.bits) = ((x >>> 1).toNat : Int) := by
  have : (2 : Int) ^ min (1 : Int).toNat IntKind.u32.bits = ((2 : Nat) : Int) := by simp [IntKind.bits]
  rw [this, Int.fdiv_eq_ediv_of_nonneg _ (by omega), ← Int.natCast_ediv, BitVec.toNat_ushiftRight, Nat.shiftRight_eq_div_pow]

theorem u32_shr8 (x : BitVec 32) : Int.fdiv (x.toNat : Int) (2 ^ min (8 : Int).toNat IntKind.u32.bits) = ((x >>> 8).toNat : Int) := by
  have : (2 : Int) ^ min (8 : Int).toNat IntKind.u32.bits = ((256 : Nat) : Int) := by simp [IntKind.bits]
  rw [this, Int.fdiv_eq_ediv_of_nonneg _ (by omega), ← Int.natCast_ediv, BitVec.toNat_ushiftRight, Nat.shiftRight_eq_div_pow]

theorem u32_of (x : BitVec 32) : BitVec.ofInt IntKind.u32.bits (x.toNat : Int) = x := by
  apply BitVec.eq_of_toNat_eq
  have := x.isLt
  simp [IntKind.bits]

theorem u32_wrap (x : BitVec 32) : IntKind.u32.wrap (x.toNat : Int) = (x.toNat : Int) := by
  have := x.isLt
  simp [IntKind.wrap, IntKind.bits, IntKind.signed]; omega

theorem u32_xor (x y : BitVec 32) : IntKind.u32.wrap ((BitVec.ofInt IntKind.u32.bits (x.toNat : Int) ^^^ BitVec.ofInt IntKind.u32.bits (y.toNat : Int)).toNat) = ((x ^^^ y).toNat : Int) := by
  rw [u32_of, u32_of]; exact u32_wrap _

theorem u32_poly : (3988292384 : Int) = ((0xEDB88320#32).toNat : Int) := rfl

theorem u32_odd (x : BitVec 32) : (IntKind.u32.wrap ((BitVec.ofInt IntKind.u32.bits (x.toNat : Int) &&& BitVec.ofInt IntKind.u32.bits 1).toNat) == 1) = x.getLsbD 0 := by
  rw [u32_of]
  have h1 : BitVec.ofInt IntKind.u32.bits 1 = 1#32 := rfl
  rw [h1]
  show (IntKind.u32.wrap (((x &&& 1#32 : BitVec 32).toNat : Nat) : Int) == 1) = x.getLsbD 0
  rw [u32_wrap]
  have h2 : x &&& 1#32 = if x.getLsbD 0 then 1#32 else 0#32 := by
    apply BitVec.eq_of_getLsbD_eq
    intro i hi
    rw [BitVec.getLsbD_and]
    have hone : (1#32).getLsbD i = decide (i = 0) := by
      have : ∀ j : _root_.Fin 32, (1#32).getLsbD j.val = decide (j.val = 0) := by decide
      exact this ⟨i, hi⟩
    rw [hone]
    by_cases h0 : i = 0
    · subst h0; cases x.getLsbD 0 <;> simp
    · cases x.getLsbD 0 <;> simp [h0]
  rw [h2]
  cases x.getLsbD 0 <;> rfl

theorem u32_rem2 (x : BitVec 32) : (Int.tmod (x.toNat : Int) 2 == 1) = x.getLsbD 0 := by
  have h1 : Int.tmod (x.toNat : Int) 2 = ((x.toNat % 2 : Nat) : Int) := by
    exact (Int.ofNat_tmod x.toNat 2).symm
  rw [h1]
  have h2 : x.getLsbD 0 = decide (x.toNat % 2 = 1) := by
    rw [BitVec.getLsbD, Nat.testBit_zero]
  rw [h2]
  rcases Nat.mod_two_eq_zero_or_one x.toNat with h | h <;> rw [h] <;> rfl

theorem u32_quo2 (x : BitVec 32) : IntKind.u32.wrap (Int.tdiv (x.toNat : Int) 2) = ((x >>> 1).toNat : Int) := by
  have h1 : Int.tdiv (x.toNat : Int) 2 = ((x.toNat / 2 : Nat) : Int) := by
    exact (Int.ofNat_tdiv x.toNat 2).symm
  have h2 : x.toNat / 2 = (x >>> 1).toNat := by rw [BitVec.toNat_ushiftRight, Nat.shiftRight_eq_div_pow]
  rw [h1, h2]; exact u32_wrap _

end Go.VL

namespace Go.VL

open Go.Proofs

theorem step_ok' {X : BitVec 32} {σ : St} : ACalls Tryd.prog n_step [.int .u32 (X.toNat : Int)] σ (fun v σ' => v = .int .u32 ((stepN 8 X).toNat : Int) ∧ σ' = σ) := by
  refine s_step (fun wf => ?_)
  unfold c_step
  refine T.seq_k (fun K_h1 h1 => ?_)
  refine T.regi hm ?_
  simp only [↓reduceIte, namesOf, List.any, I.names, aopsI, astep, ev, setd, List.set, List.cons_append, List.nil_append, List.length_cons, List.length_nil, List.replicate, then_normal, Bool.or_false, Bool.false_eq_true, up_zero, Nat.reduceAdd, Nat.reduceSub]
  refine h1 _ _ ?_
  try clear h1 K_h1
  refine T.seq_k (fun K_h1 h1 => ?_)
  refine T.seq_k (fun K_h2 h2 => ?_)
  refine T.regi hm ?_
  simp only [↓reduceIte, namesOf, List.any, I.names, aopsI, astep, ev, setd, List.set, then_normal, Bool.or_false, Bool.false_eq_true, up_zero]
  refine h2 _ _ ?_
  try clear h2 K_h2
  refine T.block ?_
  refine T.gh (Gh.keep [0, 4]) ?_
  refine T.loop (fun ρ σ' => σ' = σ ∧ ∃ (i : Nat) (Y : BitVec 32), i ≤ 8 ∧ stepN (8 - i) Y = stepN 8 X ∧ ρ = [.int .u32 (Y.toNat : Int), .any, .any, .any, .int .i64 (i : Int)] ++ List.replicate 11 .any)
    (fun ρ _ => match ρ.getD 4 .any with | .int _ m => (8 - m).toNat | _ => 0) ⟨rfl, 0, X, by omega, rfl, rfl⟩ ?_
  rintro ρ σ' ⟨rfl, i, Y, hi, hY, rfl⟩
  refine T.seq_k (fun K_h2 h2 => ?_)
  refine T.regi hm ?_
  simp only [↓reduceIte, namesOf, List.any, I.names, aopsI, astep, ev, setd, List.set, List.getD, List.getElem?_cons_zero, List.getElem?_cons_succ, List.cons_append, List.nil_append, List.replicate, then_normal, Option.getD_some, Bool.or_false, Bool.false_eq_true, up_zero, binv, ↓opt_def, eq_self]
  refine h2 _ _ ?_
  try clear h2 K_h2
  refine T.seq_k (fun K_h2 h2 => ?_)
  refine T.cond rfl (fun hb => ?_) (fun hb => ?_)
  · refine T.skip ?_
    refine h2 _ _ ?_
    try clear h2 K_h2
    have hi8 : i < 8 := by simp at hb; omega
    clear hb
    have e1 : stepN (8 - (i + 1)) (bitstep Y) = stepN 8 X := by rw [← hY, show 8 - i = 8 - (i + 1) + 1 by omega]; rfl
    refine T.seq_k (fun K_h2 h2 => ?_)
    refine T.block ?_
    refine T.seq_k (fun K_h3 h3 => ?_)
    refine T.regi hm ?_
    simp only [↓reduceIte, namesOf, List.any, I.names, aopsI, astep, ev, setd, List.set, List.getD, List.getElem?_cons_zero, List.getElem?_cons_succ, List.cons_append, List.nil_append, List.replicate, then_normal, Option.getD_some, Bool.or_false, Bool.false_eq_true, up_zero, binv, ↓opt_def, eq_self]
    refine h3 _ _ ?_
    try clear h3 K_h3
    refine T.seq_k (fun K_h3 h3 => ?_)
    have e2 := u32_shr1 Y
    refine T.regi hm ?_
    simp only [↓reduceIte, namesOf, List.any, I.names, aopsI, astep, ev, setd, List.set, List.getD, List.getElem?_cons_zero, List.getElem?_cons_succ, List.cons_append, List.nil_append, List.replicate, then_normal, Option.getD_some, Bool.or_false, Bool.false_eq_true, up_zero, binv, ↓opt_def, eq_self, e2, show ¬ ((1 : Int) < 0) by omega]
    refine h3 _ _ ?_
    try clear h3 K_h3
    refine T.seq_k (fun K_h3 h3 => ?_)
    have e3 := u32_odd Y
    refine T.regi hm ?_
    simp only [↓reduceIte, namesOf, List.any, I.names, aopsI, astep, ev, setd, List.set, List.getD, List.getElem?_cons_zero, List.getElem?_cons_succ, List.cons_append, List.nil_append, List.replicate, then_normal, Option.getD_some, Bool.or_false, Bool.false_eq_true, up_zero, binv, ↓opt_def, eq_self, e3]
    refine h3 _ _ ?_
    try clear h3 K_h3
    have e4 : IntKind.i64.wrap ((i : Int) + 1) = (i : Int) + 1 := wrap64 (by omega) (by omega)
    refine T.cond rfl (fun hb => ?_) (fun hb => ?_)
    · have e5 := u32_xor (Y >>> 1) 0xEDB88320#32
      rw [← u32_poly] at e5
      refine T.regi hm ?_
      simp only [↓reduceIte, namesOf, List.any, I.names, aopsI, astep, ev, setd, List.set, List.getD, List.getElem?_cons_zero, List.getElem?_cons_succ, List.cons_append, List.nil_append, List.replicate, then_normal, inBlock_normal, Option.getD_some, Bool.or_false, Bool.false_eq_true, up_zero, binv, ↓opt_def, eq_self, e5]
      refine h2 _ _ ?_
      try clear h2 K_h2
      refine T.regi hm ?_
      simp only [↓reduceIte, namesOf, List.any, I.names, aopsI, astep, ev, setd, List.set, List.getD, List.getElem?_cons_zero, List.getElem?_cons_succ, List.cons_append, List.nil_append, List.replicate, then_normal, Option.getD_some, Bool.or_false, Bool.false_eq_true, up_zero, binv, ↓opt_def, eq_self, e4]
      refine ⟨_, _, Gh.keep [0, 4], ⟨rfl, i + 1, bitstep Y, by omega, e1, ?_⟩, ?_⟩
      · have : bitstep Y = (Y >>> 1) ^^^ 0xEDB88320#32 := by unfold bitstep; rw [if_pos hb]
        rw [this]; rfl
      · show ((8 : Int) - ((i : Int) + 1)).toNat < (8 - (i : Int)).toNat
        omega
    · refine T.skip ?_
      refine h2 _ _ ?_
      try clear h2 K_h2
      refine T.regi hm ?_
      simp only [↓reduceIte, namesOf, List.any, I.names, aopsI, astep, ev, setd, List.set, List.getD, List.getElem?_cons_zero, List.getElem?_cons_succ, List.cons_append, List.nil_append, List.replicate, then_normal, Option.getD_some, Bool.or_false, Bool.false_eq_true, up_zero, binv, ↓opt_def, eq_self, e4]
      refine ⟨_, _, Gh.keep [0, 4], ⟨rfl, i + 1, bitstep Y, by omega, e1, ?_⟩, ?_⟩
      · have : bitstep Y = Y >>> 1 := by unfold bitstep; rw [hb]; rfl
        rw [this]; rfl
      · show ((8 : Int) - ((i : Int) + 1)).toNat < (8 - (i : Int)).toNat
        omega
  · refine T.exit ?_
    have : i = 8 := by simp at hb; omega
    subst this
    try simp only [List.getD, List.getElem?_cons_zero, List.getElem?_cons_succ, List.cons_append, List.nil_append, List.replicate, then_normal, Option.getD_some, inBlock_exit, then_exit]
    refine h1 _ _ ?_
    try clear h1 K_h1
    refine T.seq_k (fun K_h1 h1 => ?_)
    refine T.regi hm ?_
    simp only [↓reduceIte, namesOf, List.any, I.names, aopsI, astep, ev, setd, List.set, List.getD, List.getElem?_cons_zero, List.getElem?_cons_succ, then_normal, Option.getD_some, Bool.or_false, Bool.false_eq_true, up_zero]
    refine h1 _ _ ?_
    try clear h1 K_h1
    refine T.ret (Fin.ret rfl ⟨?_, rfl⟩)
    rw [← hY]; rfl

theorem bytes_get {l : List UInt8} {i : Nat} (h : i < l.length) : (bytesAV l)[i]? = some (.int .u8 (l[i].toNat : Int)) := by simp [bytesAV, h]

theorem u32_byte (c : UInt8) : IntKind.u32.wrap (c.toNat : Int) = ((BitVec.ofNat 32 c.toNat).toNat : Int) := by
  have := c.toNat_lt
  simp [IntKind.wrap, IntKind.bits, IntKind.signed]; omega

theorem u32_not (x : BitVec 32) : IntKind.u32.wrap (4294967295 - (x.toNat : Int)) = ((~~~ x).toNat : Int) := by
  have := x.isLt
  rw [BitVec.toNat_not]
  simp [IntKind.wrap, IntKind.bits, IntKind.signed]; omega

set_option maxHeartbeats 1000000 in
theorem rsum_ok {l : List UInt8} {g : Ver} {σ : St} (hl : l.length ≤ 1099511627776) : ACalls Tryd.prog n_rsum [.sl (bytesAV l) g] σ (fun v σ' => v = .int .u32 (crcOf l : Int) ∧ σ' = σ) := by
  refine s_rsum (fun wf => ?_)
  unfold c_rsum
  refine T.seq_k (fun K_h1 h1 => ?_)
  refine T.regi hm ?_
  simp only [↓reduceIte, namesOf, List.any, I.names, aopsI, astep, ev, setd, List.set, List.cons_append, List.nil_append, List.length_cons, List.length_nil, List.replicate, then_normal, Bool.or_false, Bool.false_eq_true, up_zero, Nat.reduceAdd, Nat.reduceSub]
  refine h1 _ _ ?_
  try clear h1 K_h1
  refine T.seq_k (fun K_h1 h1 => ?_)
  refine T.regi hm ?_
  simp only [↓reduceIte, namesOf, List.any, I.names, aopsI, astep, ev, setd, List.set, then_normal, Bool.or_false, Bool.false_eq_true, up_zero]
  refine h1 _ _ ?_
  try clear h1 K_h1
  refine T.seq_k (fun K_h1 h1 => ?_)
  refine T.seq_k (fun K_h2 h2 => ?_)
  refine T.regi hm ?_
  simp only [↓reduceIte, namesOf, List.any, I.names, aopsI, astep, ev, setd, List.set, then_normal, Bool.or_false, Bool.false_eq_true, up_zero]
  refine h2 _ _ ?_
  try clear h2 K_h2
  refine T.block ?_
  refine T.gh (Gh.keep [0, 3, 4]) ?_
  refine T.loop (fun ρ σ' => σ' = σ ∧ ∃ (i : Nat) (Y : BitVec 32), i ≤ l.length ∧ crcRun Y (l.drop i) = crcRun 0xffffffff#32 l ∧ ρ = [.sl (bytesAV l) g, .any, .any, .int .u32 (Y.toNat : Int), .int .i64 (i : Int)] ++ List.replicate 29 .any)
    (fun ρ _ => match ρ.getD 4 .any with | .int _ m => (l.length - m).toNat | _ => 0) ⟨rfl, 0, 0xffffffff#32, Nat.zero_le _, rfl, rfl⟩ ?_
  rintro ρ σ' ⟨rfl, i, Y, hi, hY, rfl⟩
  refine T.seq_k (fun K_h2 h2 => ?_)
  refine T.seq_k (fun K_h3 h3 => ?_)
  refine T.regi hm ?_
  simp only [↓reduceIte, namesOf, List.any, I.names, aopsI, astep, ev, setd, List.set, List.getD, List.getElem?_cons_zero, List.getElem?_cons_succ, List.cons_append, List.nil_append, List.replicate, then_normal, Option.getD_some, Bool.or_false, Bool.false_eq_true, up_zero, binv, ↓opt_def, lt_len, eq_self]
  refine h3 _ _ ?_
  try clear h3 K_h3
  refine T.cond rfl (fun hb => ?_) (fun hb => ?_)
  · refine T.skip ?_
    refine h2 _ _ ?_
    try clear h2 K_h2
    have hil : i < l.length := by simp [bytesAV_len] at hb; omega
    clear hb
    refine T.seq_k (fun K_h2 h2 => ?_)
    refine T.block ?_
    refine T.seq_k (fun K_h3 h3 => ?_)
    have e1 := u32_xor Y (BitVec.ofNat 32 l[i].toNat)
    rw [← u32_byte] at e1
    refine T.regi hm ?_
    simp only [↓reduceIte, namesOf, List.any, I.names, aopsI, astep, ev, setd, List.set, List.getD, List.getElem?_cons_zero, List.getElem?_cons_succ, List.cons_append, List.nil_append, List.length_cons, List.length_nil, List.replicate, then_normal, Option.getD_some, Bool.or_false, Bool.false_eq_true, up_zero, Nat.reduceAdd, binv, ↓opt_def, AV.cells, ldc, Int.natCast_nonneg, lt_len, Int.toNat_natCast, and_true, eq_self, decide_true, bytesAV_len, bytes_get hil, hil, e1]
    refine h3 _ _ ?_
    try clear h3 K_h3
    refine T.seq_k (fun K_h3 h3 => ?_)
    refine T.regi hm ?_
    simp only [↓reduceIte, namesOf, List.any, I.names, aopsI, astep, ev, setd, List.set, List.getD, List.getElem?_cons_zero, List.getElem?_cons_succ, List.cons_append, List.nil_append, List.replicate, then_normal, Option.getD_some, Bool.or_false, Bool.false_eq_true, up_zero]
    refine h3 _ _ ?_
    try clear h3 K_h3
    refine T.block ?_
    refine T.gh (Gh.keep [0, 3, 4, 5]) ?_
    refine T.loop (fun ρ σ'' => σ'' = σ' ∧ ∃ (k : Nat) (Z : BitVec 32), k ≤ 8 ∧ stepN (8 - k) Z = stepN 8 (Y ^^^ BitVec.ofNat 32 l[i].toNat) ∧ ρ = [.sl (bytesAV l) g, .any, .any, .int .u32 (Z.toNat : Int), .int .i64 (i : Int), .int .i64 (k : Int)] ++ List.replicate 28 .any)
      (fun ρ _ => match ρ.getD 5 .any with | .int _ m => (8 - m).toNat | _ => 0) ⟨rfl, 0, Y ^^^ BitVec.ofNat 32 l[i].toNat, by omega, rfl, rfl⟩ ?_
    rintro ρ σ'' ⟨rfl, k, Z, hk, hZ, rfl⟩
    refine T.seq_k (fun K_h3 h3 => ?_)
    refine T.seq_k (fun K_h4 h4 => ?_)
    refine T.regi hm ?_
    simp only [↓reduceIte, namesOf, List.any, I.names, aopsI, astep, ev, setd, List.set, List.getD, List.getElem?_cons_zero, List.getElem?_cons_succ, List.cons_append, List.nil_append, List.replicate, then_normal, Option.getD_some, Bool.or_false, Bool.false_eq_true, up_zero, binv, ↓opt_def, eq_self]
    refine h4 _ _ ?_
    try clear h4 K_h4
    refine T.cond rfl (fun hb => ?_) (fun hb => ?_)
    · refine T.skip ?_
      refine h3 _ _ ?_
      try clear h3 K_h3
      have hk8 : k < 8 := by simp at hb; omega
      clear hb
      have e1 : stepN (8 - (k + 1)) (bitstep Z) = stepN 8 (Y ^^^ BitVec.ofNat 32 l[i].toNat) := by rw [← hZ, show 8 - k = 8 - (k + 1) + 1 by omega]; rfl
      have e4 : IntKind.i64.wrap ((k : Int) + 1) = (k : Int) + 1 := wrap64 (by omega) (by omega)
      refine T.seq_k (fun K_h3 h3 => ?_)
      refine T.block ?_
      refine T.seq_k (fun K_h4 h4 => ?_)
      have e2 := u32_rem2 Z
      refine T.regi hm ?_
      simp only [↓reduceIte, namesOf, List.any, I.names, aopsI, astep, ev, setd, List.set, List.getD, List.getElem?_cons_zero, List.getElem?_cons_succ, List.cons_append, List.nil_append, List.replicate, then_normal, Option.getD_some, Bool.or_false, Bool.false_eq_true, up_zero, binv, ↓opt_def, eq_self, e2, show ¬ ((2 : Int) = 0) by omega]
      refine h4 _ _ ?_
      try clear h4 K_h4
      refine T.seq_k (fun K_h4 h4 => ?_)
      have e3 := u32_quo2 Z
      refine T.regi hm ?_
      simp only [↓reduceIte, namesOf, List.any, I.names, aopsI, astep, ev, setd, List.set, List.getD, List.getElem?_cons_zero, List.getElem?_cons_succ, List.cons_append, List.nil_append, List.replicate, then_normal, Option.getD_some, Bool.or_false, Bool.false_eq_true, up_zero, binv, ↓opt_def, eq_self, e3, show ¬ ((2 : Int) = 0) by omega]
      refine h4 _ _ ?_
      try clear h4 K_h4
      refine T.seq_k (fun K_h4 h4 => ?_)
      refine T.regi hm ?_
      simp only [↓reduceIte, namesOf, List.any, I.names, aopsI, astep, ev, setd, List.set, List.getD, List.getElem?_cons_zero, List.getElem?_cons_succ, List.cons_append, List.nil_append, List.replicate, then_normal, Option.getD_some, Bool.or_false, Bool.false_eq_true, up_zero]
      refine h4 _ _ ?_
      try clear h4 K_h4
      refine T.cond rfl (fun hb => ?_) (fun hb => ?_)
      · have e5 := u32_xor (Z >>> 1) 0xEDB88320#32
        rw [← u32_poly] at e5
        refine T.regi hm ?_
        simp only [↓reduceIte, namesOf, List.any, I.names, aopsI, astep, ev, setd, List.set, List.getD, List.getElem?_cons_zero, List.getElem?_cons_succ, List.cons_append, List.nil_append, List.replicate, then_normal, inBlock_normal, Option.getD_some, Bool.or_false, Bool.false_eq_true, up_zero, binv, ↓opt_def, eq_self, e5]
        refine h3 _ _ ?_
        try clear h3 K_h3
        refine T.regi hm ?_
        simp only [↓reduceIte, namesOf, List.any, I.names, aopsI, astep, ev, setd, List.set, List.getD, List.getElem?_cons_zero, List.getElem?_cons_succ, List.cons_append, List.nil_append, List.replicate, then_normal, Option.getD_some, Bool.or_false, Bool.false_eq_true, up_zero, binv, ↓opt_def, eq_self, e4]
        refine ⟨_, _, Gh.keep [0, 3, 4, 5], ⟨rfl, k + 1, bitstep Z, by omega, e1, ?_⟩, ?_⟩
        · have : bitstep Z = (Z >>> 1) ^^^ 0xEDB88320#32 := by unfold bitstep; rw [if_pos hb]
          rw [this]; rfl
        · show ((8 : Int) - ((k : Int) + 1)).toNat < (8 - (k : Int)).toNat
          omega
      · refine T.skip ?_
        refine h3 _ _ ?_
        try clear h3 K_h3
        refine T.regi hm ?_
        simp only [↓reduceIte, namesOf, List.any, I.names, aopsI, astep, ev, setd, List.set, List.getD, List.getElem?_cons_zero, List.getElem?_cons_succ, List.cons_append, List.nil_append, List.replicate, then_normal, Option.getD_some, Bool.or_false, Bool.false_eq_true, up_zero, binv, ↓opt_def, eq_self, e4]
        refine ⟨_, _, Gh.keep [0, 3, 4, 5], ⟨rfl, k + 1, bitstep Z, by omega, e1, ?_⟩, ?_⟩
        · have : bitstep Z = Z >>> 1 := by unfold bitstep; rw [hb]; rfl
          rw [this]; rfl
        · show ((8 : Int) - ((k : Int) + 1)).toNat < (8 - (k : Int)).toNat
          omega
    · refine T.exit ?_
      have : k = 8 := by simp at hb; omega
      subst this
      try simp only [List.getD, List.getElem?_cons_zero, List.getElem?_cons_succ, List.cons_append, List.nil_append, List.replicate, then_normal, inBlock_normal, Option.getD_some, inBlock_exit, then_exit]
      refine h2 _ _ ?_
      try clear h2 K_h2
      have e4 : IntKind.i64.wrap ((i : Int) + 1) = (i : Int) + 1 := wrap64 (by omega) (by omega)
      refine T.regi hm ?_
      simp only [↓reduceIte, namesOf, List.any, I.names, aopsI, astep, ev, setd, List.set, List.getD, List.getElem?_cons_zero, List.getElem?_cons_succ, List.cons_append, List.nil_append, List.replicate, then_normal, Option.getD_some, Bool.or_false, Bool.false_eq_true, up_zero, binv, ↓opt_def, eq_self, e4]
      refine ⟨_, _, Gh.keep [0, 3, 4], ⟨rfl, i + 1, Z, hil, ?_, rfl⟩, ?_⟩
      · rw [← hY, List.drop_eq_getElem_cons hil]
        simp only [crcRun]
        rw [← hZ]; rfl
      · show ((l.length : Int) - ((i : Int) + 1)).toNat < ((l.length : Int) - (i : Int)).toNat
        omega
  · refine T.exit ?_
    have : i = l.length := by simp [bytesAV_len] at hb; omega
    subst this
    try simp only [List.getD, List.getElem?_cons_zero, List.getElem?_cons_succ, List.cons_append, List.nil_append, List.replicate, then_normal, Option.getD_some, inBlock_exit, then_exit]
    refine h1 _ _ ?_
    try clear h1 K_h1
    refine T.seq_k (fun K_h1 h1 => ?_)
    have e1 := u32_not Y
    refine T.regi hm ?_
    simp only [↓reduceIte, namesOf, List.any, I.names, aopsI, astep, ev, setd, List.set, List.getD, List.getElem?_cons_zero, List.getElem?_cons_succ, then_normal, Option.getD_some, Bool.or_false, Bool.false_eq_true, up_zero, binv, ↓opt_def, eq_self, e1]
    refine h1 _ _ ?_
    try clear h1 K_h1
    refine T.ret (Fin.ret rfl ⟨?_, rfl⟩)
    rw [List.drop_length] at hY
    simp only [crcRun] at hY
    unfold crcOf
    rw [← hY]; rfl

end Go.VL

namespace Go.VL

open Go.Proofs

def step8I (m : Int) : Int := ((stepN 8 (BitVec.ofInt 32 m)).toNat : Int)

theorem step8I_bv (x : BitVec 32) : step8I (x.toNat : Int) = ((stepN 8 x).toNat : Int) := by
  unfold step8I
  have : BitVec.ofInt 32 (x.toNat : Int) = x := u32_of x
  rw [this]

/-- (told by choice, so that nobody reckons it) -/
noncomputable def inU32 (m : Int) : Bool := @decide (0 ≤ m ∧ m < 4294967296) (Classical.propDecidable _)

theorem inU32_iff {m : Int} : inU32 m = true ↔ 0 ≤ m ∧ m < 4294967296 := by unfold inU32; simp

noncomputable def g_step : List AV → Option AV
  | [.int .u32 m] => if inU32 m = true then some (.int .u32 (step8I m)) else none
  | _ => none

theorem step_pure : PureC Tryd.prog n_step g_step := by
  intro args σ v h
  unfold g_step at h
  split at h
  · rename_i m
    split at h
    · rename_i hm
      rw [inU32_iff] at hm
      simp only [Option.some.injEq] at h; subst h
      have e : m = ((BitVec.ofInt 32 m).toNat : Int) := by simp; omega
      have := step_ok' (X := BitVec.ofInt 32 m) (σ := σ)
      rw [← e] at this
      exact this
    · cases h
  · cases h

noncomputable def t2 : Tbl := [(n_step, g_step)]

theorem t2_ok : t2.ok Tryd.prog := Tbl.ok_cons step_pure Tbl.ok_nil

def tab (i : Nat) : List AV := (List.range 256).map fun j => .int .u32 (if j < i then step8I (j : Int) else 0)

theorem tab_len (i : Nat) : (tab i).length = 256 := by simp only [tab, List.length_map, List.length_range]

theorem tab_zero : tab 0 = zeros 256 (.int .u32 0) := by
  apply List.ext_getElem
  · simp only [tab_len, zeros, List.length_replicate]
  · intro i h1 h2
    simp only [tab, zeros, List.getElem_map, List.getElem_replicate, Nat.not_lt_zero, if_false]

theorem tab_get {i j : Nat} (hj : j < 256) : (tab i)[j]? = some (.int .u32 (if j < i then step8I (j : Int) else 0)) := by simp [tab, hj]

theorem tab_set {i : Nat} (hi : i < 256) : splice (tab i) i [.int .u32 (step8I (i : Int))] = tab (i + 1) := by
  apply List.ext_getElem?
  intro j
  unfold splice
  rw [List.append_assoc, List.getElem?_append]
  have hl : ((tab i).take i).length = i := by simp [tab_len]; omega
  rw [hl]
  by_cases hj : j < i
  · rw [if_pos hj, List.getElem?_take, if_pos hj, tab_get (by omega), tab_get (by omega), if_pos hj, if_pos (by omega)]
  · rw [if_neg hj, List.getElem?_append]
    by_cases hji : j = i
    · subst hji
      rw [tab_get hi, Nat.sub_self, if_pos (show (0 : Nat) < [_].length from by simp), if_pos (by omega)]
      rfl
    · rw [if_neg (by simp; omega)]
      simp only [List.length_singleton, List.getElem?_drop]
      rw [show i + 1 + (j - i - 1) = j by omega]
      rcases Nat.lt_or_ge j 256 with h | h
      · rw [tab_get h, tab_get h, if_neg hj, if_neg (by omega)]
      · rw [List.getElem?_eq_none (by rw [tab_len]; omega), List.getElem?_eq_none (by rw [tab_len]; omega)]

theorem u32_un (x : BitVec 32) : IntKind.u32.wrap ((BitVec.ofInt IntKind.u32.bits (if IntKind.u32.signed = true then -1 else IntKind.u32.max) ^^^ BitVec.ofInt IntKind.u32.bits (x.toNat : Int)).toNat) = ((~~~ x).toNat : Int) := by
  have h1 : BitVec.ofInt IntKind.u32.bits (if IntKind.u32.signed = true then -1 else IntKind.u32.max) = BitVec.allOnes 32 := rfl
  rw [h1, u32_of]
  show IntKind.u32.wrap (((BitVec.allOnes 32 ^^^ x : BitVec 32).toNat : Nat) : Int) = _
  rw [BitVec.allOnes_xor]; exact u32_wrap _

theorem u8_index (Y : BitVec 32) (c : UInt8) : IntKind.u8.wrap ((BitVec.ofInt IntKind.u8.bits (IntKind.u8.wrap (Y.toNat : Int)) ^^^ BitVec.ofInt IntKind.u8.bits (c.toNat : Int)).toNat) = (((Y ^^^ BitVec.ofNat 32 c.toNat) &&& 0xff#32).toNat : Int) := by
  have h1 : BitVec.ofInt IntKind.u8.bits (IntKind.u8.wrap (Y.toNat : Int)) = BitVec.ofNat 8 Y.toNat := by
    apply BitVec.eq_of_toNat_eq
    simp [IntKind.wrap, IntKind.bits, IntKind.signed]; omega
  have h2 : BitVec.ofInt IntKind.u8.bits (c.toNat : Int) = BitVec.ofNat 8 c.toNat := rfl
  rw [h1, h2]
  have h3 : (BitVec.ofNat 8 Y.toNat ^^^ BitVec.ofNat 8 c.toNat : BitVec 8).toNat = ((Y ^^^ BitVec.ofNat 32 c.toNat) &&& 0xff#32).toNat := by
    rw [BitVec.toNat_xor, BitVec.toNat_and, BitVec.toNat_xor]
    have hff : (0xff#32).toNat = 2 ^ 8 - 1 := rfl
    rw [hff, Nat.and_two_pow_sub_one_eq_mod, Nat.xor_mod_two_pow]
    simp only [BitVec.toNat_ofNat]
    have := c.toNat_lt
    rw [Nat.mod_eq_of_lt (show c.toNat < 2 ^ 32 by omega)]
  show IntKind.u8.wrap (((BitVec.ofNat 8 Y.toNat ^^^ BitVec.ofNat 8 c.toNat : BitVec 8).toNat : Nat) : Int) = _
  rw [h3]
  have h4 : ((Y ^^^ BitVec.ofNat 32 c.toNat) &&& 0xff#32).toNat < 256 := by
    rw [BitVec.toNat_and]
    exact Nat.lt_of_le_of_lt Nat.and_le_right (by decide)
  generalize ((Y ^^^ BitVec.ofNat 32 c.toNat) &&& 0xff#32).toNat = m at h4
  simp [IntKind.wrap, IntKind.bits, IntKind.signed]; omega

theorem byte_high (c : UInt8) : BitVec.ofNat 32 c.toNat >>> 8 = 0#32 := by
  have := c.toNat_lt
  apply BitVec.eq_of_toNat_eq
  rw [BitVec.toNat_ushiftRight, BitVec.toNat_ofNat, Nat.shiftRight_eq_div_pow, Nat.mod_eq_of_lt (by omega)]
  simp; omega

set_option maxHeartbeats 1000000 in
theorem con_ok {l : List UInt8} {g : Ver} {σ : St} (hl : l.length ≤ 1099511627776) : ACalls Tryd.prog n_con [.int .u32 0, .sl (bytesAV l) g] σ (fun v σ' => v = .int .u32 (crcOf l : Int) ∧ σ' = σ) := by
  refine s_con (fun wf => ?_)
  unfold c_con
  refine T.seq_k (fun K_h1 h1 => ?_)
  refine T.regi hm ?_
  simp only [↓reduceIte, namesOf, List.any, I.names, aopsI, astep, ev, setd, List.set, List.cons_append, List.nil_append, List.length_cons, List.length_nil, List.replicate, then_normal, Bool.or_false, Bool.false_eq_true, up_zero, Nat.reduceAdd, Nat.reduceSub]
  refine h1 _ _ ?_
  try clear h1 K_h1
  refine T.seq_k (fun K_h1 h1 => ?_)
  refine T.regi hm ?_
  simp only [↓reduceIte, namesOf, List.any, I.names, aopsI, astep, setd, List.set, List.length_cons, List.length_nil, then_normal, Bool.or_false, Nat.reduceAdd, eq_self]
  refine h1 _ _ ?_
  try clear h1 K_h1
  refine T.seq_k (fun K_h1 h1 => ?_)
  refine T.seq_k (fun K_h2 h2 => ?_)
  refine T.regi hm ?_
  simp only [↓reduceIte, namesOf, List.any, I.names, aopsI, astep, ev, setd, List.set, then_normal, Bool.or_false, Bool.false_eq_true, up_zero]
  refine h2 _ _ ?_
  try clear h2 K_h2
  refine T.block ?_
  rw [Nat.add_zero]
  refine T.gh (Gh.keep [0, 1, 5, 10]) ?_
  refine T.loop (fun ρ σ' => ∃ (i : Nat), i ≤ 256 ∧ σ' = (σ.up 1).set σ.next (.obj (tab i)) ∧ ρ = [.int .u32 0, .sl (bytesAV l) g, .any, .any, .any, .ptr σ.next 0, .any, .any, .any, .any, .int .i64 (i : Int)] ++ List.replicate 28 .any)
    (fun ρ _ => match ρ.getD 10 .any with | .int _ m => (256 - m).toNat | _ => 0) ⟨0, by omega, by rw [tab_zero], rfl⟩ ?_
  rintro ρ σ' ⟨i, hi, rfl, rfl⟩
  refine T.seq_k (fun K_h2 h2 => ?_)
  refine T.regi hm ?_
  simp only [↓reduceIte, namesOf, List.any, I.names, aopsI, astep, ev, setd, List.set, List.getD, List.getElem?_cons_zero, List.getElem?_cons_succ, List.cons_append, List.nil_append, List.replicate, then_normal, Option.getD_some, Bool.or_false, Bool.false_eq_true, up_zero, binv, ↓opt_def, eq_self]
  refine h2 _ _ ?_
  try clear h2 K_h2
  refine T.seq_k (fun K_h2 h2 => ?_)
  refine T.cond rfl (fun hb => ?_) (fun hb => ?_)
  · refine T.skip ?_
    refine h2 _ _ ?_
    try clear h2 K_h2
    have hi8 : i < 256 := by simp at hb; omega
    clear hb
    have e1 : IntKind.u32.wrap (i : Int) = (i : Int) := by simp [IntKind.wrap, IntKind.bits, IntKind.signed]; omega
    have e2 : inU32 (i : Int) = true := inU32_iff.2 (by omega)
    have e3 : (i : Int) < ((256 : Nat) : Int) := by omega
    have e4 : IntKind.i64.wrap ((i : Int) + 1) = (i : Int) + 1 := wrap64 (by omega) (by omega)
    have e6 : i < 256 := hi8
    refine T.seq_k (fun K_h2 h2 => ?_)
    refine T.block ?_
    refine T.seq_k (fun K_h3 h3 => ?_)
    refine T.regi hm ?_
    simp only [↓reduceIte, namesOf, List.any, I.names, aopsI, astep, ev, setd, List.set, List.getD, List.getElem?_cons_zero, List.getElem?_cons_succ, List.cons_append, List.nil_append, List.replicate, then_normal, Option.getD_some, Bool.or_false, Bool.false_eq_true, up_zero]
    refine h3 _ _ ?_
    try clear h3 K_h3
    refine T.regt hm t2_ok ?_
    simp only [↓reduceIte, namesOf, List.any, I.names, aopsT, qstep, CPt, Tbl.get, astep, ev, setd, List.set, List.getD, List.getElem?_cons_zero, List.getElem?_cons_succ, List.cons_append, List.nil_append, List.length_cons, List.length_nil, List.replicate, then_normal, inBlock_normal, Option.getD_some, Bool.or_false, Bool.false_eq_true, up_zero, ↓opt_def, AV.isAny, AV.cells, List.map_cons, List.map_nil, St.set_same, Int.natCast_nonneg, Int.toNat_natCast, and_true, eq_self, decide_true, t2, g_step, e1, e2, e3, AV.fits, AV.one, List.all_cons, List.all_nil, tab_len, Nat.mul_one, Nat.zero_add, tab_set hi8, St.set_set, Bool.not_false, Nat.reduceBEq, Nat.succ_le_of_lt hi8, Bool.and_self]
    refine h2 _ _ ?_
    try clear h2 K_h2
    refine T.regi hm ?_
    simp only [↓reduceIte, namesOf, List.any, I.names, aopsI, astep, ev, setd, List.set, List.getD, List.getElem?_cons_zero, List.getElem?_cons_succ, List.cons_append, List.nil_append, List.replicate, then_normal, Option.getD_some, Bool.or_false, Bool.false_eq_true, up_zero, binv, ↓opt_def, eq_self, e4]
    refine ⟨_, _, Gh.keep [0, 1, 5, 10], ⟨i + 1, hi8, rfl, rfl⟩, ?_⟩
    show ((256 : Int) - ((i : Int) + 1)).toNat < (256 - (i : Int)).toNat
    omega
  · refine T.exit ?_
    have : i = 256 := by simp at hb; omega
    subst this
    clear hb hi
    try simp only [List.getD, List.getElem?_cons_zero, List.getElem?_cons_succ, List.cons_append, List.nil_append, List.replicate, then_normal, Option.getD_some, inBlock_exit, then_exit]
    refine h1 _ _ ?_
    try clear h1 K_h1
    refine T.seq_k (fun K_h1 h1 => ?_)
    have e1 := u32_un 0#32
    have e1z : ((0#32).toNat : Int) = 0 := rfl
    rw [e1z] at e1
    refine T.regi hm ?_
    simp only [↓reduceIte, namesOf, List.any, I.names, aopsI, astep, ev, setd, List.set, List.getD, List.getElem?_cons_zero, List.getElem?_cons_succ, then_normal, Option.getD_some, Bool.or_false, Bool.false_eq_true, up_zero, binv, ↓opt_def, eq_self, e1]
    refine h1 _ _ ?_
    try clear h1 K_h1
    refine T.seq_k (fun K_h1 h1 => ?_)
    refine T.seq_k (fun K_h2 h2 => ?_)
    refine T.regi hm ?_
    simp only [↓reduceIte, namesOf, List.any, I.names, aopsI, astep, ev, setd, List.set, List.getD, List.getElem?_cons_zero, List.getElem?_cons_succ, then_normal, Option.getD_some, Bool.or_false, Bool.false_eq_true, up_zero, bytesAV_len]
    refine h2 _ _ ?_
    try clear h2 K_h2
    refine T.block ?_
    refine T.gh (Gh.keep [1, 5, 7, 21, 22, 23]) ?_
    have hq : ∀ n r, σ.res n = some r → ((σ.up 1).set σ.next (.obj (tab 256))).res n = some r := by
      intro n r hr
      have : n ≠ σ.next := fun e => by subst e; rw [wf _ (Nat.le_refl _)] at hr; cases hr
      rw [St.set_other _ _ this]; exact hr
    have htab : ((σ.up 1).set σ.next (.obj (tab 256))).res σ.next = some (.obj (tab 256)) := by simp
    generalize ((σ.up 1).set σ.next (.obj (tab 256))) = σ1 at hq htab ⊢
    refine T.loop (fun ρ σ' => σ' = σ1 ∧ ∃ (i : Nat) (Y : BitVec 32), i ≤ l.length ∧ crcRun Y (l.drop i) = crcRun 0xffffffff#32 l ∧ ρ = [.any, .sl (bytesAV l) g, .any, .any, .any, .ptr σ.next 0, .any, .int .u32 (Y.toNat : Int), .any, .any, .any, .any, .any, .any, .any, .any, .any, .any, .any, .any, .any, .sl (bytesAV l) g, .int .i64 (l.length : Int), .int .i64 (i : Int)] ++ List.replicate 15 .any)
      (fun ρ _ => match ρ.getD 23 .any with | .int _ m => (l.length - m).toNat | _ => 0) ⟨rfl, 0, 0xffffffff#32, Nat.zero_le _, rfl, rfl⟩ ?_
    rintro ρ σ' ⟨rfl, i, Y, hi, hY, rfl⟩
    refine T.seq_k (fun K_h2 h2 => ?_)
    refine T.regi hm ?_
    simp only [↓reduceIte, namesOf, List.any, I.names, aopsI, astep, ev, setd, List.set, List.getD, List.getElem?_cons_zero, List.getElem?_cons_succ, List.cons_append, List.nil_append, List.replicate, then_normal, Option.getD_some, Bool.or_false, Bool.false_eq_true, up_zero, binv, ↓opt_def, lt_len, eq_self]
    refine h2 _ _ ?_
    try clear h2 K_h2
    refine T.seq_k (fun K_h2 h2 => ?_)
    refine T.cond rfl (fun hb => ?_) (fun hb => ?_)
    · refine T.skip ?_
      refine h2 _ _ ?_
      try clear h2 K_h2
      have hil : i < l.length := by simp at hb; omega
      clear hb
      refine T.seq_k (fun K_h2 h2 => ?_)
      refine T.block ?_
      refine T.seq_k (fun K_h3 h3 => ?_)
      refine T.regi hm ?_
      simp only [↓reduceIte, namesOf, List.any, I.names, aopsI, astep, ev, setd, List.set, List.getD, List.getElem?_cons_zero, List.getElem?_cons_succ, List.cons_append, List.nil_append, List.length_cons, List.length_nil, List.replicate, then_normal, Option.getD_some, Bool.or_false, Bool.false_eq_true, up_zero, Nat.reduceAdd, ↓opt_def, AV.cells, ldc, Int.natCast_nonneg, lt_len, Int.toNat_natCast, and_true, eq_self, decide_true, bytesAV_len, bytes_get hil, hil]
      refine h3 _ _ ?_
      try clear h3 K_h3
      have e2 := u32_shr8 Y
      have e3 := u8_index Y l[i]
      have e4 := table_step Y (BitVec.ofNat 32 l[i].toNat) (byte_high _)
      have hj : ((Y ^^^ BitVec.ofNat 32 l[i].toNat) &&& 0xff#32).toNat < 256 := by
        rw [BitVec.toNat_and]
        exact Nat.lt_of_le_of_lt Nat.and_le_right (by decide)
      have e6 := tab_get (i := 256) hj
      rw [if_pos hj, step8I_bv] at e6
      generalize hx : ((Y ^^^ BitVec.ofNat 32 l[i].toNat) &&& 0xff#32) = x at e3 e4 e6 hj
      have e7 := u32_xor (Y >>> 8) (stepN 8 x)
      have hj' : (x.toNat : Int) < ((256 : Nat) : Int) := by omega
      refine T.regi hm ?_
      simp only [↓reduceIte, namesOf, List.any, I.names, aopsI, astep, ev, setd, List.set, List.getD, List.getElem?_cons_zero, List.getElem?_cons_succ, List.cons_append, List.nil_append, List.replicate, then_normal, inBlock_normal, Option.getD_some, Bool.or_false, Bool.false_eq_true, up_zero, binv, ↓opt_def, ldc, Int.natCast_nonneg, Int.toNat_natCast, and_true, eq_self, e2, e3, htab, show ¬ ((8 : Int) < 0) by omega, hj', Nat.zero_add, Nat.mul_one, e6, e7]
      refine h2 _ _ ?_
      try clear h2 K_h2
      have e8 : IntKind.i64.wrap ((i : Int) + 1) = (i : Int) + 1 := wrap64 (by omega) (by omega)
      refine T.regi hm ?_
      simp only [↓reduceIte, namesOf, List.any, I.names, aopsI, astep, ev, setd, List.set, List.getD, List.getElem?_cons_zero, List.getElem?_cons_succ, List.cons_append, List.nil_append, List.replicate, then_normal, Option.getD_some, Bool.or_false, Bool.false_eq_true, up_zero, binv, ↓opt_def, eq_self, e8]
      refine ⟨_, _, Gh.keep [1, 5, 7, 21, 22, 23], ⟨rfl, i + 1, (Y >>> 8) ^^^ stepN 8 x, hil, ?_, rfl⟩, ?_⟩
      · rw [← hY, List.drop_eq_getElem_cons hil, ← e4]
        rfl
      · show ((l.length : Int) - ((i : Int) + 1)).toNat < ((l.length : Int) - (i : Int)).toNat
        omega
    · refine T.exit ?_
      have : i = l.length := by simp at hb; omega
      subst this
      try simp only [List.getD, List.getElem?_cons_zero, List.getElem?_cons_succ, List.cons_append, List.nil_append, List.replicate, then_normal, Option.getD_some, inBlock_exit, then_exit]
      refine h1 _ _ ?_
      try clear h1 K_h1
      refine T.seq_k (fun K_h1 h1 => ?_)
      have e1 := u32_un Y
      refine T.regi hm ?_
      simp only [↓reduceIte, namesOf, List.any, I.names, aopsI, astep, ev, setd, List.set, List.getD, List.getElem?_cons_zero, List.getElem?_cons_succ, then_normal, Option.getD_some, Bool.or_false, Bool.false_eq_true, up_zero, binv, ↓opt_def, eq_self, e1]
      refine h1 _ _ ?_
      try clear h1 K_h1
      refine T.ret (Fin.quiet rfl trivial hq ⟨?_, rfl⟩)
      rw [List.drop_length] at hY
      simp only [crcRun] at hY
      unfold crcOf
      rw [← hY]; rfl

end Go.VL

namespace Go.VL

open Go.Proofs

theorem csum_ok {l : List UInt8} {g : Ver} {σ : St} (hl : l.length ≤ 1099511627776) : ACalls Tryd.prog n_csum [.sl (bytesAV l) g] σ (fun v σ' => v = .int .u32 (crcOf l : Int) ∧ σ' = σ) := by
  refine s_csum (fun wf => ?_)
  unfold c_csum
  refine T.seq_k (fun K_h1 h1 => ?_)
  refine T.regi hm ?_
  simp only [↓reduceIte, namesOf, List.any, I.names, aopsI, astep, ev, setd, List.set, List.cons_append, List.nil_append, List.length_cons, List.length_nil, List.replicate, then_normal, Bool.or_false, Bool.false_eq_true, up_zero, Nat.reduceAdd, Nat.reduceSub]
  refine h1 _ _ ?_
  try clear h1 K_h1
  refine T.seq_k (fun K_h1 h1 => ?_)
  refine T.regi hm ?_
  simp only [↓reduceIte, namesOf, List.any, I.names, aopsI, astep, ev, setd, List.set, List.getD, List.getElem?_cons_zero, List.getElem?_cons_succ, then_normal, Option.getD_some, Bool.or_false, Bool.false_eq_true, up_zero, List.map_cons, List.map_nil]
  refine (con_ok hl).mono ?_
  rintro v σ' ⟨rfl, rfl⟩
  refine h1 _ _ ?_
  try clear h1 K_h1
  exact T.ret (Fin.ret rfl ⟨rfl, rfl⟩)

def sealB (l : List UInt8) : List UInt8 := l ++ beB 4 (crcOf l)

theorem u64_crc (l : List UInt8) : IntKind.u64.wrap (crcOf l : Int) = (crcOf l : Int) := by
  have := crcOf_lt l
  simp [IntKind.wrap, IntKind.bits, IntKind.signed]; omega

theorem cseal_ok {l : List UInt8} {g : Ver} {σ : St} (hl : l.length ≤ 1099511627776) : ACalls Tryd.prog n_cseal [.sl (bytesAV l) g] σ (fun v σ' => ∃ h, OneTip σ σ' h 1 ∧ v = .sl (bytesAV (sealB l)) (.tip h)) := by
  refine s_cseal (fun wf => ?_)
  unfold c_cseal
  refine T.seq_k (fun K_h1 h1 => ?_)
  refine T.regi hm ?_
  simp only [↓reduceIte, namesOf, List.any, I.names, aopsI, astep, ev, setd, List.set, List.cons_append, List.nil_append, List.length_cons, List.length_nil, List.replicate, then_normal, Bool.or_false, Bool.false_eq_true, up_zero, Nat.reduceAdd, Nat.reduceSub]
  refine h1 _ _ ?_
  try clear h1 K_h1
  refine T.seq_k (fun K_h1 h1 => ?_)
  refine T.regi hm ?_
  simp only [↓reduceIte, namesOf, List.any, I.names, aopsI, astep, ev, setd, List.set, List.getD, List.getElem?_cons_zero, List.getElem?_cons_succ, then_normal, Option.getD_some, Bool.or_false, Bool.false_eq_true, up_zero, ↓opt_def, List.map_cons, List.map_nil]
  refine (csum_ok hl).mono ?_
  rintro v σ' ⟨rfl, rfl⟩
  try simp only [u64_crc]
  have h4 := crcOf_lt l
  refine (wput_ok (w := 4) hl rfl (fun _ => by omega)).mono ?_
  rintro v σ2 ⟨h, o1, rfl⟩
  try simp only [List.getElem?_cons_zero, List.getElem?_cons_succ, List.getElem?_cons_succ]
  refine h1 _ _ ?_
  try clear h1 K_h1
  refine T.seq_k (fun K_h1 h1 => ?_)
  refine T.seq_k (fun K_h2 h2 => ?_)
  refine T.regi hm ?_
  simp only [↓reduceIte, namesOf, List.any, I.names, aopsI, astep, ev, setd, List.set, List.getD, List.getElem?_cons_zero, List.getElem?_cons_succ, then_normal, Option.getD_some, Bool.or_false, Bool.false_eq_true, up_zero, eq_self, eqIv, bne_self_eq_false]
  refine h2 _ _ ?_
  try clear h2 K_h2
  refine T.cond rfl (fun hb => by cases hb) (fun hb => ?_)
  refine T.skip ?_
  refine h1 _ _ ?_
  try clear h1 K_h1
  refine T.seq_k (fun K_h1 h1 => ?_)
  refine T.regi hm ?_
  simp only [↓reduceIte, namesOf, List.any, I.names, aopsI, astep, ev, setd, List.set, List.getD, List.getElem?_cons_zero, List.getElem?_cons_succ, then_normal, Option.getD_some, Bool.or_false, Bool.false_eq_true, up_zero]
  refine h1 _ _ ?_
  try clear h1 K_h1
  exact T.ret (Fin.ret rfl ⟨h, o1, rfl⟩)

theorem nb_bytes (m : Nat) (l : List UInt8) : nbs m (bytesAV l) := by
  rw [nbs_iff]
  intro x hx
  simp only [bytesAV, List.mem_map] at hx
  obtain ⟨b, _, rfl⟩ := hx
  trivial

theorem cseal_q {l : List UInt8} {g : Ver} {σ : St} (hl : l.length ≤ 1099511627776) : ACalls Tryd.prog n_cseal [.sl (bytesAV l) g] σ (fun v σ' => v = .sl (bytesAV (sealB l)) .none ∧ σ' = σ) := by
  refine (cseal_ok hl).gv ?_
  rintro wf v σ' ⟨h, o1, rfl⟩
  refine ⟨_, _, (Gv.wk (Wk.sl _ _)).trans (Gv.quiet ?_ (o1.quiet wf)), rfl, rfl⟩
  exact ⟨nb_bytes _ _, trivial⟩

theorem u64_quo (n : Nat) (hn : n < 18446744073709551616) : IntKind.u64.wrap (Int.tdiv (n : Int) 256) = ((n / 256 : Nat) : Int) := by
  have h1 : Int.tdiv (n : Int) 256 = ((n / 256 : Nat) : Int) := (Int.ofNat_tdiv n 256).symm
  rw [h1]
  simp [IntKind.wrap, IntKind.bits, IntKind.signed]; omega

theorem u64_rem (n : Nat) : IntKind.u8.wrap (Int.tmod (n : Int) 256) = ((UInt8.ofNat (n % 256)).toNat : Int) := by
  have h1 : Int.tmod (n : Int) 256 = ((n % 256 : Nat) : Int) := (Int.ofNat_tmod n 256).symm
  rw [h1]
  simp [IntKind.wrap, IntKind.bits, IntKind.signed]

theorem rbytes_ok : ∀ {w n : Nat} {σ : St}, w ≤ 8 → n < 18446744073709551616 → ACalls Tryd.prog n_rbytes [.int .i64 w, .int .u64 n] σ (fun v σ' => (w = 0 ∧ v = .sl [] .nil ∧ σ' = σ) ∨ ∃ h, OneTip σ σ' h 1 ∧ v = .sl (bytesAV (beB w n)) (.tip h))
  | 0, n, σ, _, _ => by
    refine s_rbytes (fun wf => ?_)
    unfold c_rbytes
    refine T.seq_k (fun K_h1 h1 => ?_)
    refine T.regi hm ?_
    simp only [↓reduceIte, namesOf, List.any, I.names, aopsI, astep, ev, setd, List.set, List.cons_append, List.nil_append, List.length_cons, List.length_nil, List.replicate, then_normal, Bool.or_false, Bool.false_eq_true, up_zero, Nat.reduceAdd, Nat.reduceSub, true_and, eq_self]
    refine h1 _ _ ?_
    try clear h1 K_h1
    refine T.seq_k (fun K_h1 h1 => ?_)
    refine T.seq_k (fun K_h2 h2 => ?_)
    have e : (((0 : Nat) : Int) == 0) = true := rfl
    refine T.regi hm ?_
    simp only [↓reduceIte, namesOf, List.any, I.names, aopsI, astep, ev, setd, List.set, List.getD, List.getElem?_cons_zero, List.getElem?_cons_succ, then_normal, Option.getD_some, Bool.or_false, Bool.false_eq_true, up_zero, binv, ↓opt_def, true_and, eq_self, e]
    refine h2 _ _ ?_
    try clear h2 K_h2
    refine T.cond rfl (fun hb => ?_) (fun hb => by cases hb)
    refine T.seq_k (fun K_h2 h2 => ?_)
    refine T.regi hm ?_
    simp only [↓reduceIte, namesOf, List.any, I.names, aopsI, astep, ev, setd, List.set, then_normal, Bool.or_false, Bool.false_eq_true, up_zero, true_and, eq_self]
    refine h2 _ _ ?_
    try clear h2 K_h2
    exact T.ret (Fin.ret rfl (.inl ⟨rfl, rfl, rfl⟩))
  | w + 1, n, σ, hw, hn => by
    refine s_rbytes (fun wf => ?_)
    unfold c_rbytes
    refine T.seq_k (fun K_h1 h1 => ?_)
    refine T.regi hm ?_
    simp only [↓reduceIte, namesOf, List.any, I.names, aopsI, astep, ev, setd, List.set, List.cons_append, List.nil_append, List.length_cons, List.length_nil, List.replicate, then_normal, Bool.or_false, Bool.false_eq_true, up_zero, Nat.reduceAdd, Nat.reduceSub, reduceCtorEq]
    refine h1 _ _ ?_
    try clear h1 K_h1
    refine T.seq_k (fun K_h1 h1 => ?_)
    refine T.seq_k (fun K_h2 h2 => ?_)
    have e : (((w + 1 : Nat) : Int) == 0) = false := by
      rw [beq_eq_false_iff_ne]; omega
    refine T.regi hm ?_
    simp only [↓reduceIte, namesOf, List.any, I.names, aopsI, astep, ev, setd, List.set, List.getD, List.getElem?_cons_zero, List.getElem?_cons_succ, then_normal, Option.getD_some, Bool.or_false, Bool.false_eq_true, up_zero, binv, ↓opt_def, eq_self, reduceCtorEq, e]
    refine h2 _ _ ?_
    try clear h2 K_h2
    refine T.cond rfl (fun hb => by cases hb) (fun hb => ?_)
    refine T.skip ?_
    refine h1 _ _ ?_
    try clear h1 K_h1
    refine T.seq_k (fun K_h1 h1 => ?_)
    have e2 : IntKind.i64.wrap (((w + 1 : Nat) : Int) - 1) = (w : Int) := by rw [wrap64 (by omega) (by omega)]; omega
    have e3 := u64_quo n hn
    have e4 := u64_rem n
    refine T.regi hm ?_
    simp only [↓reduceIte, namesOf, List.any, I.names, aopsI, astep, ev, setd, List.set, List.getD, List.getElem?_cons_zero, List.getElem?_cons_succ, List.length_cons, List.length_nil, then_normal, Option.getD_some, Bool.or_false, Bool.or_true, Nat.reduceAdd, binv, ↓opt_def, List.map_cons, List.map_nil, eq_self, reduceCtorEq, e2, e3, e4, show ¬ ((256 : Int) = 0) by omega]
    refine (rbytes_ok (w := w) (n := n / 256) (by omega) (by omega)).mono ?_
    have hlen : (beB w (n / 256)).length ≤ 8 := by rw [beB_len]; omega
    rintro v σ2 (⟨rfl, rfl, rfl⟩ | ⟨h, o1, rfl⟩)
    · try simp only [List.nil_append, List.length_nil, Nat.reduceAdd, held, srcOf, List.isEmpty, byte1, bytesAV_er]
      rw [if_pos (bytes_all _), if_pos (by simp only [bytes_all, bytesAV_len, List.length_singleton, Bool.true_and, decide_eq_true_eq]; omega)]
      refine h1 _ _ ?_
      try clear h1 K_h1
      exact T.ret (Fin.ret rfl (.inr ⟨σ.next + 9, OneTip.new (n := 11) (i := 9) (by omega), rfl⟩))
    · try simp only [↓reduceIte, eq_self, held, srcOf, o1.at_, Bool.true_and, bytes_all, List.all_append, byte1, bytesAV_er]
      rw [if_pos (by simp only [bytesAV_len, List.length_singleton, decide_eq_true_eq]; omega), bytesAV_app]
      have hlo := o1.lo
      have hhi := o1.hi
      simp only [St.up_next] at hlo
      have o2 : OneTip σ ((σ2.del h).set (σ.next + 9) (Res.tip 1)) (σ.next + 9) 1 := o1.down.mv wf (by omega) (by omega)
      refine h1 _ _ ?_
      try clear h1 K_h1
      exact T.ret (Fin.ret rfl (.inr ⟨_, o2, rfl⟩))

theorem rbytes_q {w n : Nat} {σ : St} (hw : w ≤ 8) (hn : n < 18446744073709551616) : ACalls Tryd.prog n_rbytes [.int .i64 w, .int .u64 n] σ (fun v σ' => v = .sl (bytesAV (beB w n)) .none ∧ σ' = σ) := by
  refine (rbytes_ok hw hn).gv ?_
  rintro wf v σ' (⟨rfl, rfl, rfl⟩ | ⟨h, o1, rfl⟩)
  · exact ⟨_, _, Gv.wk (Wk.sl _ _), rfl, rfl⟩
  · exact ⟨_, _, (Gv.wk (Wk.sl _ _)).trans (Gv.quiet ⟨nb_bytes _ _, trivial⟩ (o1.quiet wf)), rfl, rfl⟩

theorem rseal_ok {l : List UInt8} {g : Ver} {σ : St} (hl : l.length ≤ 1099511627776) : ACalls Tryd.prog n_rseal [.sl (bytesAV l) g] σ (fun v σ' => ∃ h, OneTip σ σ' h 1 ∧ v = .sl (bytesAV (sealB l)) (.tip h)) := by
  refine s_rseal (fun wf => ?_)
  unfold c_rseal
  refine T.seq_k (fun K_h1 h1 => ?_)
  refine T.regi hm ?_
  simp only [↓reduceIte, namesOf, List.any, I.names, aopsI, astep, ev, setd, List.set, List.cons_append, List.nil_append, List.length_cons, List.length_nil, List.replicate, then_normal, Bool.or_false, Bool.false_eq_true, up_zero, Nat.reduceAdd, Nat.reduceSub]
  refine h1 _ _ ?_
  try clear h1 K_h1
  refine T.seq_k (fun K_h1 h1 => ?_)
  refine T.regi hm ?_
  simp only [↓reduceIte, namesOf, List.any, I.names, aopsI, astep, ev, setd, List.set, List.getD, List.getElem?_cons_zero, List.getElem?_cons_succ, List.nil_append, List.length_cons, List.length_nil, then_normal, Option.getD_some, Bool.or_false, Bool.or_true, Nat.reduceAdd, List.map_cons, List.map_nil, St.set_same, true_and, eq_self, held, srcOf, St.set_same, bytesAV_er, bytes_all, List.all_nil, Bool.true_and]
  rw [if_pos (by simp only [bytesAV_len, decide_eq_true_eq]; omega)]
  refine (rsum_ok hl).mono ?_
  rintro v σ1 ⟨rfl, rfl⟩
  have h4 := crcOf_lt l
  try simp only [u64_crc]
  refine (rbytes_q (w := 4) (by omega) (by omega)).mono ?_
  rintro v σ1 ⟨rfl, rfl⟩
  try simp only [↓reduceIte, St.set_same, eq_self, St.set_same, bytesAV_er, bytes_all, Bool.true_and, List.all_append]
  rw [if_pos (by simp only [bytesAV_len, beB_len, decide_eq_true_eq]; omega), bytesAV_app]
  have o1 := (((OneTip.new (σ := σ) (k := 1) (n := 9) (i := 0) (by omega)).mv wf (g2 := σ.next + 2) (by omega) (by simp)).mv wf (g2 := σ.next + 7) (by omega) (by simp))
  refine h1 _ _ ?_
  try clear h1 K_h1
  exact T.ret (Fin.ret rfl ⟨_, o1, rfl⟩)

theorem rseal_q {l : List UInt8} {g : Ver} {σ : St} (hl : l.length ≤ 1099511627776) : ACalls Tryd.prog n_rseal [.sl (bytesAV l) g] σ (fun v σ' => v = .sl (bytesAV (sealB l)) .none ∧ σ' = σ) := by
  refine (rseal_ok hl).gv ?_
  rintro wf v σ' ⟨h, o1, rfl⟩
  exact ⟨_, _, (Gv.wk (Wk.sl _ _)).trans (Gv.quiet ⟨nb_bytes _ _, trivial⟩ (o1.quiet wf)), rfl, rfl⟩

end Go.VL

namespace Go.VL

open Go.Proofs

theorem Wk.tup2 {a b c : AV} (h : Wk a b) : Wk (.tup [a, c]) (.tup [b, c]) := fun κ w v hv => by
  obtain ⟨u, rfl, hu⟩ := hv.tup_inv
  cases hu with
  | cons v x vs xs hx t => exact .tup _ _ (.cons _ _ _ _ (h κ w v hx) t)

theorem Fin.quietw {σ0 : St} {rs : List RX} {K : AV → St → Prop} {ρ : List AV} {σ : St} {xs : List AV} {y : AV} (h1 : rvals ρ σ rs = some xs) (hw : Wk (pack xs) y) (hx : y.nb σ0.next) (hr : ∀ n r, σ0.res n = some r → σ.res n = some r) (h2 : K y σ0) : Fin σ0 rs K .ret ρ σ :=
  ⟨ρ, σ, xs, _, σ0, .refl, h1, (Gv.wk hw).trans (.quiet hx hr), h2⟩

theorem toBytes_bytes : ∀ l : List UInt8, toBytes (bytesAV l) = some l
  | [] => rfl
  | b :: r => by
    have h := toBytes_bytes r
    simp only [bytesAV] at h
    simp only [bytesAV, List.map_cons, toBytes, h, Option.map_some, Int.toNat_natCast]
    simp

theorem ba_eq (a b : List UInt8) : decide ((⟨a.toArray⟩ : ByteArray) = ⟨b.toArray⟩) = decide (a = b) := by
  by_cases h : a = b
  · subst h; simp
  · rw [decide_eq_false h, decide_eq_false]
    intro e
    injection e with e
    exact h (by simpa using e)

def errAV (c : Int) : AV := if c = 0 then .nili else .iface tCode (.int .i64 c)

end Go.VL

namespace Go.VL

open Go.Proofs

/-- what a reader may be -/
structure Rd (l : List UInt8) (at_ bad : Int) : Prop where
  len : l.length ≤ 1099511627776
  lo : 0 ≤ at_
  hi : at_ ≤ l.length

def numB (l : List UInt8) : Nat := l.foldl (fun n b => 256 * n + b.toNat) 0

end Go.VL

namespace Go.VL

open Go.Proofs

theorem set_quiet {σ σ' : St} (wf : WF σ) (hn : σ.next ≤ σ'.next) (ho : ∀ n x, σ.res n = some x → σ'.res n = some x) {k a : Nat} (r : Res) (ha : σ'.next ≤ a) : ∀ n x, σ.res n = some x → ((σ'.up k).set a r).res n = some x := by
  intro n x hr
  have hn' : n < σ.next := by
    rcases Nat.lt_or_ge n σ.next with h | h
    · exact h
    · rw [wf n h] at hr; cases hr
  rw [St.set_other _ _ (by omega)]; exact ho n x hr

theorem errAV_eq (c : Int) (h : c ≠ 0) : errAV c = .iface tCode (.int .i64 c) := by unfold errAV; rw [if_neg h]

theorem code_ok {c : Nat} {σ : St} (hc : c ≤ 10) : ACalls Tryd.prog n_code [errAV c] σ (fun v σ' => v = .int .i64 (c : Int) ∧ σ' = σ) := by
  refine s_code (fun wf => ?_)
  unfold c_code
  refine T.seq_k (fun K_h1 h1 => ?_)
  refine T.regi hm ?_
  simp only [↓reduceIte, namesOf, List.any, I.names, aopsI, astep, ev, setd, List.set, List.cons_append, List.nil_append, List.length_cons, List.length_nil, List.replicate, then_normal, Bool.or_false, Bool.false_eq_true, up_zero, Nat.reduceAdd, Nat.reduceSub]
  refine h1 _ _ ?_
  try clear h1 K_h1
  refine T.seq_k (fun K_h1 h1 => ?_)
  refine T.seq_k (fun K_h2 h2 => ?_)
  by_cases h0 : c = 0
  · subst h0
    have e0 : errAV ((0 : Nat) : Int) = .nili := rfl
    rw [e0]
    refine T.regi hm ?_
    simp only [↓reduceIte, namesOf, List.any, I.names, aopsI, astep, ev, setd, List.set, List.getD, List.getElem?_cons_zero, List.getElem?_cons_succ, then_normal, Option.getD_some, Bool.or_false, Bool.false_eq_true, up_zero, eq_self, eqIv, Bool.bne_false]
    refine h2 _ _ ?_
    try clear h2 K_h2
    refine T.cond rfl (fun _ => ?_) (fun h => by cases h)
    refine T.seq_k (fun K_h2 h2 => ?_)
    refine T.regi hm ?_
    simp only [↓reduceIte, namesOf, List.any, I.names, aopsI, astep, ev, setd, List.set, then_normal, Bool.or_false, Bool.false_eq_true, up_zero]
    refine h2 _ _ ?_
    try clear h2 K_h2
    exact T.ret (Fin.ret rfl ⟨rfl, rfl⟩)
  rw [errAV_eq (c : Int) (by omega)]
  refine T.regi hm ?_
  simp only [↓reduceIte, namesOf, List.any, I.names, aopsI, astep, ev, setd, List.set, List.getD, List.getElem?_cons_zero, List.getElem?_cons_succ, then_normal, Option.getD_some, Bool.or_false, Bool.false_eq_true, up_zero, eqIv, Bool.bne_false]
  refine h2 _ _ ?_
  try clear h2 K_h2
  refine T.cond rfl (fun h => by cases h) (fun _ => ?_)
  refine T.skip ?_
  refine h1 _ _ ?_
  try clear h1 K_h1
  refine T.seq_k (fun K_h1 h1 => ?_)
  refine T.seq_k (fun K_h2 h2 => ?_)
  refine T.regi hm ?_
  simp only [↓reduceIte, namesOf, List.any, I.names, aopsI, astep, ev, setd, List.set, then_normal, Bool.or_false, Bool.false_eq_true, up_zero]
  refine h2 _ _ ?_
  try clear h2 K_h2
  refine T.block ?_
  refine T.gh (Gh.keep [0, 3]) ?_
  refine T.loop (fun ρ s => s = σ ∧ ∃ k : Nat, 1 ≤ k ∧ k ≤ c ∧ ρ = [.iface tCode (.int .i64 (c : Int)), .any, .any, .int .i64 (k : Int)] ++ List.replicate 11 .any)
    (fun ρ _ => match ρ.getD 3 .any with | .int _ k => (c - k).toNat | _ => 0) ⟨rfl, 1, Nat.le_refl _, by omega, rfl⟩ ?_
  rintro ρ s ⟨rfl, k, hk1, hk, rfl⟩
  refine T.seq_k (fun K_h2 h2 => ?_)
  refine T.seq_k (fun K_h3 h3 => ?_)
  have e1 : decide ((k : Int) ≤ 10) = true := decide_eq_true (by omega)
  refine T.regi hm ?_
  simp only [↓reduceIte, namesOf, List.any, I.names, aopsI, astep, ev, setd, List.set, List.getD, List.getElem?_cons_zero, List.getElem?_cons_succ, List.cons_append, List.nil_append, List.replicate, then_normal, Option.getD_some, Bool.or_false, Bool.false_eq_true, up_zero, binv, ↓opt_def, eq_self, e1]
  refine h3 _ _ ?_
  try clear h3 K_h3
  refine T.cond rfl (fun _ => ?_) (fun h => by cases h)
  refine T.skip ?_
  refine h2 _ _ ?_
  try clear h2 K_h2
  refine T.seq_k (fun K_h2 h2 => ?_)
  refine T.block ?_
  refine T.seq_k (fun K_h3 h3 => ?_)
  by_cases hck : c = k
  · subst hck
    refine T.regi hm ?_
    simp only [↓reduceIte, namesOf, List.any, I.names, aopsI, astep, ev, setd, List.set, List.getD, List.getElem?_cons_zero, List.getElem?_cons_succ, List.cons_append, List.nil_append, List.replicate, then_normal, Option.getD_some, Bool.or_false, Bool.false_eq_true, up_zero, eq_self, decide_true, eqIv, beq_self_eq_true, Bool.and_self, Bool.bne_false]
    refine h3 _ _ ?_
    try clear h3 K_h3
    refine T.cond rfl (fun _ => ?_) (fun h => by cases h)
    refine T.seq_k (fun K_h3 h3 => ?_)
    refine T.regi hm ?_
    simp only [↓reduceIte, namesOf, List.any, I.names, aopsI, astep, ev, setd, List.set, List.getD, List.getElem?_cons_zero, List.getElem?_cons_succ, List.cons_append, List.nil_append, List.replicate, then_normal, Option.getD_some, Bool.or_false, Bool.false_eq_true, up_zero]
    refine h3 _ _ ?_
    try clear h3 K_h3
    exact T.ret (Fin.ret rfl ⟨rfl, rfl⟩)
  · have e2 : ((c : Int) == (k : Int)) = false := by rw [beq_eq_false_iff_ne]; omega
    refine T.regi hm ?_
    simp only [↓reduceIte, namesOf, List.any, I.names, aopsI, astep, ev, setd, List.set, List.getD, List.getElem?_cons_zero, List.getElem?_cons_succ, List.cons_append, List.nil_append, List.replicate, then_normal, Option.getD_some, Bool.or_false, Bool.false_eq_true, up_zero, eq_self, decide_true, eqIv, beq_self_eq_true, Bool.and_self, Bool.bne_false, e2]
    refine h3 _ _ ?_
    try clear h3 K_h3
    refine T.cond rfl (fun h => by cases h) (fun _ => ?_)
    refine T.skip ?_
    refine h2 _ _ ?_
    try clear h2 K_h2
    have e3 : IntKind.i64.wrap ((k : Int) + 1) = ((k + 1 : Nat) : Int) := by rw [wrap64 (by omega) (by omega)]; rfl
    refine T.regi hm ?_
    simp only [↓reduceIte, namesOf, List.any, I.names, aopsI, astep, ev, setd, List.set, List.getD, List.getElem?_cons_zero, List.getElem?_cons_succ, List.cons_append, List.nil_append, List.replicate, then_normal, Option.getD_some, Bool.or_false, Bool.false_eq_true, up_zero, binv, ↓opt_def, eq_self, e3]
    refine ⟨_, _, Gh.keep [0, 3], ⟨rfl, k + 1, by omega, by omega, rfl⟩, ?_⟩
    show ((c : Int) - ((k + 1 : Nat) : Int)).toNat < ((c : Int) - (k : Int)).toNat
    omega

end Go.VL

namespace Go.VL

open Go.Proofs

/-- how far a reader is, and where something is amiss (-1: nowhere) -/
structure Rs where
  at_ : Int
  bad : Int

def Rs.ok (l : List UInt8) (s : Rs) : Prop := Rd l s.at_ s.bad ∧ (s.bad = -1 ∨ 0 ≤ s.bad)

def r0 : Rs := ⟨0, -1⟩

/-- may so many bytes be taken? -/
def rT (l : List UInt8) (s : Rs) (w : Int) : Bool := decide (s.bad = -1 ∧ w ≤ l.length - s.at_)

/-- a word -/
def rW (l : List UInt8) (s : Rs) (w : Nat) : Nat := if rT l s w then numB ((l.drop s.at_.toNat).take w) else 0

end Go.VL

namespace Go.VL

open Go.Proofs

/-- the same, and perhaps more behind it -/
structure Like (ρ τ : St) : Prop where
  next : ρ.next ≤ τ.next
  same : ∀ n, n < ρ.next → τ.res n = ρ.res n

theorem Like.refl (σ : St) : Like σ σ := ⟨Nat.le_refl _, fun _ _ => rfl⟩

theorem Like.trans {a b c : St} (h : Like a b) (k : Like b c) : Like a c := ⟨Nat.le_trans h.next k.next, fun n hn => (k.same n (Nat.lt_of_lt_of_le hn h.next)).trans (h.same n hn)⟩

theorem Like.up {a b : St} (h : Like a b) (k : Nat) : Like a (b.up k) := ⟨Nat.le_trans h.next (Nat.le_add_right _ _), h.same⟩

theorem Like.set {a b : St} (h : Like a b) {n : Nat} (r : Res) (hn : a.next ≤ n) : Like a (b.set n r) := ⟨h.next, fun m hm => by rw [St.set_other _ _ (by omega)]; exact h.same m hm⟩

theorem Like.del {a b : St} (h : Like a b) {n : Nat} (hn : a.next ≤ n) : Like a (b.del n) := ⟨h.next, fun m hm => by
  have : m ≠ n := by omega
  rw [← h.same m hm]; simp [St.del, this]⟩

theorem Like.put {a b : St} (h : Like a b) (n : Nat) (r : Res) : Like (a.set n r) (b.set n r) := ⟨h.next, fun m hm => by
  have hm' : m < a.next := hm
  by_cases e : m = n
  · subst e; simp
  · rw [St.set_other _ _ e, St.set_other _ _ e]; exact h.same m hm'⟩

theorem Like.one {σ σ' : St} {g k : Nat} (h : OneTip σ σ' g k) : Like σ σ' := ⟨by have := h.lo; have := h.hi; omega, fun n hn => by rw [h.res, St.set_other _ _ (by have := h.lo; omega)]⟩

theorem Like.get {a b : St} (h : Like a b) {n : Nat} (hn : n < a.next) {r : Res} (hr : a.res n = some r) : b.res n = some r := by rw [h.same n hn]; exact hr

theorem WF.lt {σ : St} (wf : WF σ) {n : Nat} {r : Res} (h : σ.res n = some r) : n < σ.next := by
  rcases Nat.lt_or_ge n σ.next with h' | h'
  · exact h'
  · rw [wf n h'] at h; cases h

/-- what is left behind a call may be told as it is, but for names that nobody knows -/
theorem Gv.like {σ0 τ ρ : St} {x : AV} (h : Like ρ τ) (hn : ρ.next = σ0.next) (hx : x.nb σ0.next) (hr : ∀ n r, ρ.res n = some r → n < σ0.next ∧ (σ0.res n = some r ∨ r.nb σ0.next)) : Gv σ0 x τ x ρ :=
  .cut (Nat.le_of_eq hn.symm) (by rw [hn]; exact hx) (fun n r hnr => by
    obtain ⟨h1, h2⟩ := hr n r hnr
    refine ⟨by rw [h.same n (by omega)]; exact hnr, ?_⟩
    rcases h2 with h2 | h2
    · exact .inl h2
    · exact .inr ⟨by omega, by rw [hn]; exact h2⟩)

theorem u64w {n : Nat} (h : n < 18446744073709551616) : IntKind.u64.wrap (n : Int) = (n : Int) := by
  simp [IntKind.wrap, IntKind.bits, IntKind.signed]; omega

theorem tmodN (a b : Nat) : ((a : Int)).tmod (b : Int) = ((a % b : Nat) : Int) := rfl

theorem tdivN (a b : Nat) : ((a : Int)).tdiv (b : Int) = ((a / b : Nat) : Int) := rfl

theorem inc64' {i n : Nat} (h : i < n) (hn : n ≤ 4611686018427387904) : IntKind.i64.wrap ((i : Int) + 1) = ((i + 1 : Nat) : Int) := by
  rw [wrap64 (by omega) (by omega)]; omega

/-- a named end, and what was there ahead of it -/
structure Tq (σ t : St) (g k : Nat) : Prop where
  like : Like σ t
  at_ : t.res g = some (.tip k)
  lo : σ.next ≤ g
  hi : g < t.next

theorem Tq.ats {σ t : St} {g k : Nat} (h : Tq σ t g k) : ∀ n, (t.up n).res g = some (.tip k) := fun _ => h.at_

theorem Tq.up {σ t : St} {g k : Nat} (h : Tq σ t g k) (n : Nat) : Tq σ (t.up n) g k := ⟨h.like.up n, h.at_, h.lo, Nat.lt_of_lt_of_le h.hi (Nat.le_add_right _ _)⟩

theorem Tq.new {σ t : St} (h : Like σ t) {n i : Nat} (hi : i < n) (k : Nat) : Tq σ ((t.up n).set (t.next + i) (.tip k)) (t.next + i) k :=
  ⟨(h.up n).set _ (by have := h.next; omega), by simp, by have := h.next; omega, by simp; omega⟩

theorem Tq.app {σ t : St} {g k : Nat} (h : Tq σ t g k) {n i : Nat} (hi : i < n) : Tq σ (((t.up n).del g).set (t.next + i) (.tip k)) (t.next + i) k :=
  ⟨((h.like.up n).del h.lo).set _ (by have := h.like.next; omega), by simp, by have := h.like.next; omega, by simp; omega⟩

theorem Tq.box {σ t : St} {g k : Nat} (h : Tq σ t g k) {n i : Nat} (hi : i < n) (r : Res) : Tq σ ((t.up n).set (t.next + i) r) g k :=
  ⟨(h.like.up n).set _ (by have := h.like.next; omega), by rw [St.set_other _ _ (by have := h.hi; omega)]; exact h.at_, h.lo, by have := h.hi; simp; omega⟩

theorem Tq.one {σ t : St} {g k : Nat} (h : OneTip σ t g k) : Tq σ t g k := ⟨.one h, h.at_, h.lo, h.hi⟩

theorem Tq.trans {σ t u : St} {g k : Nat} (h : Like σ t) (q : Tq t u g k) : Tq σ u g k := ⟨h.trans q.like, q.at_, Nat.le_trans h.next q.lo, q.hi⟩

theorem Like.quiet {σ t : St} (wf : WF σ) (h : Like σ t) : ∀ n x, σ.res n = some x → t.res n = some x := fun _ _ hx => h.get (wf.lt hx) hx

theorem Tq.quiet {σ t : St} {g k : Nat} (wf : WF σ) (h : Tq σ t g k) : ∀ n x, σ.res n = some x → t.res n = some x := h.like.quiet wf

theorem Like.box {σ t : St} (h : Like σ t) {n i : Nat} (r : Res) : Like σ ((t.up n).set (t.next + i) r) := (h.up n).set _ (by have := h.next; omega)

theorem Tq.mv {σ t : St} {g k : Nat} (h : Tq σ t g k) {g2 : Nat} (lo : σ.next ≤ g2) (hi : g2 < t.next) : Tq σ ((t.del g).set g2 (.tip k)) g2 k :=
  ⟨(h.like.del h.lo).set _ lo, by simp, lo, hi⟩

/-- a named end, and an owned thing -/
structure Tb (σ t : St) (g k a : Nat) (r : Res) : Prop where
  q : Tq σ t g k
  b : t.res a = some r
  lt : a < t.next
  ne : a ≠ g

theorem Tb.bs {σ t : St} {g k a : Nat} {r : Res} (h : Tb σ t g k a r) : ∀ n, (t.up n).res a = some r := fun _ => h.b

theorem Tb.app {σ t : St} {g k a : Nat} {r : Res} (h : Tb σ t g k a r) {n i : Nat} (hi : i < n) : Tb σ (((t.up n).del g).set (t.next + i) (.tip k)) (t.next + i) k a r :=
  ⟨h.q.app hi, by
    have := h.lt
    rw [St.set_other _ _ (by omega)]
    have hne := h.ne
    simp only [St.del, if_neg hne]; exact h.b, by have := h.lt; simp; omega, by have := h.lt; omega⟩

theorem Tq.tb {σ t : St} {g k : Nat} (q : Tq σ t g k) {n i : Nat} (hi : i < n) (r : Res) : Tb σ ((t.up n).set (t.next + i) r) g k (t.next + i) r :=
  ⟨q.box hi r, by simp, by simp; omega, by have := q.hi; omega⟩

end Go.VL

namespace Go.VL

open Go.Proofs

abbrev n_snew : Nat := 8

def c_snew : C := (.seq (.reg [⟨(some 2), (.mv (.c .nilp)), none⟩, ⟨(some 3), (.mv (.c .nili)), none⟩]) (.seq (.seq (.reg [⟨(some 4), (.mv (.t 0)), none⟩, ⟨(some 5), (.bin .lss .i64 (.t 4) (.c (.int .i64 1))), none⟩, ⟨(some 6), (.mv (.t 5)), none⟩, ⟨(some 7), (.mv (.t 0)), (some (6, false))⟩, ⟨(some 8), (.bin .gtr .i64 (.t 7) (.c (.int .i64 1048576))), (some (6, false))⟩, ⟨(some 9), (.pick (.t 6) (.c (.bool true)) (.t 8)), none⟩]) (.cond (.t 9) (.seq (.reg [⟨(some 10), (.mkI 40 (.c (.int .i64 1))), none⟩, ⟨(some 2), (.mv (.c .nilp)), none⟩, ⟨(some 3), (.mv (.t 10)), none⟩]) .ret) .skip)) (.seq (.reg [⟨(some 11), (.mv (.t 0)), none⟩, ⟨(some 12), .mkMap, none⟩, ⟨(some 13), (.build [(.int .i64 0), .nilm, (.int .i64 0), (.int .i64 0)] [(0, (1, (.t 11))), (1, (1, (.t 12))), (2, (1, (.c (.int .i64 (-1)))))]), none⟩, ⟨(some 14), (.box (.t 13)), none⟩, ⟨(some 2), (.mv (.t 14)), none⟩, ⟨(some 3), (.mv (.c .nili)), none⟩]) .ret)))

set_option maxRecDepth 100000 in
theorem k_snew : compileC Tryd.prog ann (Tryd.f8.body.getD .skip) = some c_snew := by kernel_rfl

theorem s_snew {args : List AV} {σ : St} {K : AV → St → Prop} (h : WF σ → T Tryd.prog ann c_snew (Fin σ [(.t 2), (.t 3)] K) (args ++ List.replicate (15 - args.length) (.tup [])) σ) : ACalls Tryd.prog n_snew args σ K :=
  calls_ok Tryd.func8 (by kernel_rfl) (by kernel_rfl) k_snew (by kernel_rfl) (by kernel_rfl) h

abbrev n_sput : Nat := 36

def c_sput : C := (.seq (.reg [⟨(some 6), (.mv (.c .nili)), none⟩]) (.seq (.block 0 (.seq (.reg [⟨(some 8), (.mv (.t 0)), none⟩, ⟨(some 9), (.call 39 [(.t 8)]), none⟩, ⟨(some 10), (.not (.t 9)), none⟩, ⟨(some 7), (.mv (.t 10)), none⟩]) (.cond (.t 7) (.seq (.reg [⟨(some 11), (.mkI 40 (.c (.int .i64 8))), none⟩, ⟨(some 6), (.mv (.t 11)), none⟩]) .ret) (.seq (.reg [⟨(some 13), (.mv (.t 1)), none⟩, ⟨(some 14), (.call 55 [(.t 13)]), none⟩, ⟨(some 15), (.not (.t 14)), none⟩, ⟨(some 12), (.mv (.t 15)), none⟩]) (.cond (.t 12) (.seq (.reg [⟨(some 16), (.mkI 40 (.c (.int .i64 1))), none⟩, ⟨(some 6), (.mv (.t 16)), none⟩]) .ret) (.seq (.reg [⟨(some 18), (.mv (.t 2)), none⟩, ⟨(some 19), (.len (.t 18)), none⟩, ⟨(some 20), (.mv (.t 0)), none⟩, ⟨(some 21), (.nilCheck (.t 20)), none⟩, ⟨(some 22), (.faddr 0 (.t 21)), none⟩, ⟨(some 23), (.load none (.t 22)), none⟩, ⟨(some 24), (.mv (.t 0)), none⟩, ⟨(some 25), (.qcall 16 [(.t 24)]), none⟩, ⟨(some 26), (.bin .sub .i64 (.t 23) (.t 25)), none⟩, ⟨(some 27), (.mv (.t 0)), none⟩, ⟨(some 28), (.nilCheck (.t 27)), none⟩, ⟨(some 29), (.faddr 1 (.t 28)), none⟩, ⟨(some 30), (.load none (.t 29)), none⟩, ⟨(some 31), (.mv (.t 1)), none⟩, ⟨(some 32), (.look 1 (.sl [] .nil) false (.t 30) (.t 31)), none⟩, ⟨(some 33), (.len (.t 32)), none⟩, ⟨(some 34), (.bin .add .i64 (.t 26) (.t 33)), none⟩, ⟨(some 35), (.bin .gtr .i64 (.t 19) (.t 34)), none⟩, ⟨(some 17), (.mv (.t 35)), none⟩]) (.cond (.t 17) (.seq (.reg [⟨(some 36), (.mkI 40 (.c (.int .i64 6))), none⟩, ⟨(some 6), (.mv (.t 36)), none⟩]) .ret) .skip))))))) (.seq (.reg [⟨(some 37), (.mv (.t 0)), none⟩, ⟨(some 38), (.nilCheck (.t 37)), none⟩, ⟨(some 39), (.faddr 1 (.t 38)), none⟩, ⟨(some 40), (.load none (.t 39)), none⟩, ⟨(some 41), (.mv (.t 1)), none⟩, ⟨(some 42), (.mv (.t 2)), none⟩, ⟨(some 43), (.qcall 40 [(.t 42)]), none⟩, ⟨none, (.mapUp 1 (.t 40) (.t 41) (.t 43)), none⟩]) (.seq (.reg [⟨(some 6), (.mv (.c .nili)), none⟩]) .ret))))

set_option maxRecDepth 100000 in
theorem k_sput : compileC Tryd.prog ann (Tryd.f36.body.getD .skip) = some c_sput := by kernel_rfl

theorem s_sput {args : List AV} {σ : St} {K : AV → St → Prop} (h : WF σ → T Tryd.prog ann c_sput (Fin σ [(.t 6)] K) (args ++ List.replicate (44 - args.length) (.tup [])) σ) : ACalls Tryd.prog n_sput args σ K :=
  calls_ok Tryd.func36 (by kernel_rfl) (by kernel_rfl) k_sput (by kernel_rfl) (by kernel_rfl) h

abbrev n_sused : Nat := 16

def c_sused : C := (.seq (.reg [⟨(some 2), (.mv (.c (.int .i64 0))), none⟩]) (.seq (.reg [⟨(some 3), (.mv (.c (.int .i64 0))), none⟩]) (.seq (.seq (.reg [⟨(some 6), (.mv (.t 0)), none⟩, ⟨(some 7), (.nilCheck (.t 6)), none⟩, ⟨(some 8), (.faddr 1 (.t 7)), none⟩, ⟨(some 9), (.load none (.t 8)), none⟩, ⟨(some 10), (.range (.t 9)), none⟩]) (.block 0 (.loop (.seq (.reg [⟨(some 11), (.next (.t 10)), none⟩, ⟨(some 12), (.ext (.t 11) 0), none⟩]) (.seq (.cond (.t 12) .skip (.exit 0)) (.block 1 (.seq (.reg [⟨(some 13), (.entry (.t 10)), none⟩, ⟨(some 14), (.ext (.t 13) 1), none⟩, ⟨(some 5), (.mv (.t 14)), none⟩]) (.reg [⟨(some 15), (.mv (.t 3)), none⟩, ⟨(some 16), (.mv (.t 5)), none⟩, ⟨(some 17), (.len (.t 16)), none⟩, ⟨(some 18), (.bin .add .i64 (.t 15) (.t 17)), none⟩, ⟨(some 3), (.mv (.t 18)), none⟩])))))))) (.seq (.reg [⟨(some 19), (.mv (.t 3)), none⟩, ⟨(some 2), (.mv (.t 19)), none⟩]) .ret))))

set_option maxRecDepth 100000 in
theorem k_sused : compileC Tryd.prog ann (Tryd.f16.body.getD .skip) = some c_sused := by kernel_rfl

theorem s_sused {args : List AV} {σ : St} {K : AV → St → Prop} (h : WF σ → T Tryd.prog ann c_sused (Fin σ [(.t 2)] K) (args ++ List.replicate (20 - args.length) (.tup [])) σ) : ACalls Tryd.prog n_sused args σ K :=
  calls_ok Tryd.func16 (by kernel_rfl) (by kernel_rfl) k_sused (by kernel_rfl) (by kernel_rfl) h

abbrev n_sfail : Nat := 9

def c_sfail : C := (.reg [⟨(some 4), (.mv (.t 0)), none⟩, ⟨(some 5), (.mv (.t 1)), none⟩, ⟨(some 6), (.mx [(.t 5), (.c (.int .i64 (-1)))]), none⟩, ⟨(some 7), (.nilCheck (.t 4)), none⟩, ⟨(some 8), (.faddr 2 (.t 7)), none⟩, ⟨none, (.store 1 (.t 8) (.t 6)), none⟩])

set_option maxRecDepth 100000 in
theorem k_sfail : compileC Tryd.prog ann (Tryd.f9.body.getD .skip) = some c_sfail := by kernel_rfl

theorem s_sfail {args : List AV} {σ : St} {K : AV → St → Prop} (h : WF σ → T Tryd.prog ann c_sfail (Fin σ [] K) (args ++ List.replicate (9 - args.length) (.tup [])) σ) : ACalls Tryd.prog n_sfail args σ K :=
  calls_ok Tryd.func9 (by kernel_rfl) (by kernel_rfl) k_sfail (by kernel_rfl) (by kernel_rfl) h

abbrev n_sget : Nat := 18

def c_sget : C := (.seq (.reg [⟨(some 4), (.mv (.c (.sl [] .nil))), none⟩, ⟨(some 5), (.mv (.c .nili)), none⟩]) (.seq (.reg [⟨(some 9), (.mv (.t 0)), none⟩, ⟨(some 10), (.nilCheck (.t 9)), none⟩, ⟨(some 11), (.faddr 1 (.t 10)), none⟩, ⟨(some 12), (.load none (.t 11)), none⟩, ⟨(some 13), (.mv (.t 1)), none⟩, ⟨(some 14), (.look 1 (.sl [] .nil) true (.t 12) (.t 13)), none⟩, ⟨(some 8), (.mv (.t 14)), none⟩, ⟨(some 15), (.ext (.t 8) 0), none⟩, ⟨(some 16), (.ext (.t 8) 1), none⟩, ⟨(some 6), (.mv (.t 15)), none⟩, ⟨(some 7), (.mv (.t 16)), none⟩]) (.seq (.block 0 (.seq (.reg [⟨(some 18), (.mv (.t 0)), none⟩, ⟨(some 19), (.call 39 [(.t 18)]), none⟩, ⟨(some 20), (.not (.t 19)), none⟩, ⟨(some 17), (.mv (.t 20)), none⟩]) (.cond (.t 17) (.seq (.reg [⟨(some 21), (.mkI 40 (.c (.int .i64 8))), none⟩, ⟨(some 4), (.mv (.c (.sl [] .nil))), none⟩, ⟨(some 5), (.mv (.t 21)), none⟩]) .ret) (.seq (.reg [⟨(some 23), (.mv (.t 7)), none⟩, ⟨(some 24), (.not (.t 23)), none⟩, ⟨(some 22), (.mv (.t 24)), none⟩]) (.cond (.t 22) (.seq (.reg [⟨(some 25), (.mkI 40 (.c (.int .i64 4))), none⟩, ⟨(some 4), (.mv (.c (.sl [] .nil))), none⟩, ⟨(some 5), (.mv (.t 25)), none⟩]) .ret) .skip))))) (.seq (.reg [⟨(some 26), (.mv (.t 6)), none⟩, ⟨(some 27), (.call 40 [(.t 26)]), none⟩, ⟨(some 4), (.mv (.t 27)), none⟩, ⟨(some 5), (.mv (.c .nili)), none⟩]) .ret))))

set_option maxRecDepth 100000 in
theorem k_sget : compileC Tryd.prog ann (Tryd.f18.body.getD .skip) = some c_sget := by kernel_rfl

theorem s_sget {args : List AV} {σ : St} {K : AV → St → Prop} (h : WF σ → T Tryd.prog ann c_sget (Fin σ [(.t 4), (.t 5)] K) (args ++ List.replicate (28 - args.length) (.tup [])) σ) : ACalls Tryd.prog n_sget args σ K :=
  calls_ok Tryd.func18 (by kernel_rfl) (by kernel_rfl) k_sget (by kernel_rfl) (by kernel_rfl) h

abbrev n_scalls : Nat := 15

def c_scalls : C := (.seq (.reg [⟨(some 2), (.mv (.c (.int .i64 0))), none⟩]) (.seq (.reg [⟨(some 3), (.mv (.t 0)), none⟩, ⟨(some 4), (.nilCheck (.t 3)), none⟩, ⟨(some 5), (.faddr 3 (.t 4)), none⟩, ⟨(some 6), (.load none (.t 5)), none⟩, ⟨(some 2), (.mv (.t 6)), none⟩]) .ret))

set_option maxRecDepth 100000 in
theorem k_scalls : compileC Tryd.prog ann (Tryd.f15.body.getD .skip) = some c_scalls := by kernel_rfl

theorem s_scalls {args : List AV} {σ : St} {K : AV → St → Prop} (h : WF σ → T Tryd.prog ann c_scalls (Fin σ [(.t 2)] K) (args ++ List.replicate (7 - args.length) (.tup [])) σ) : ACalls Tryd.prog n_scalls args σ K :=
  calls_ok Tryd.func15 (by kernel_rfl) (by kernel_rfl) k_scalls (by kernel_rfl) (by kernel_rfl) h

abbrev n_scall : Nat := 39

def c_scall : C := (.seq (.reg [⟨(some 2), (.mv (.c (.bool false))), none⟩]) (.seq (.reg [⟨(some 4), (.mv (.t 0)), none⟩, ⟨(some 5), (.nilCheck (.t 4)), none⟩, ⟨(some 6), (.faddr 3 (.t 5)), none⟩, ⟨(some 7), (.load none (.t 6)), none⟩, ⟨(some 8), (.bin .add .i64 (.t 7) (.c (.int .i64 1))), none⟩, ⟨(some 9), (.nilCheck (.t 4)), none⟩, ⟨(some 10), (.faddr 3 (.t 9)), none⟩, ⟨none, (.store 1 (.t 10) (.t 8)), none⟩]) (.seq (.seq (.reg [⟨(some 11), (.mv (.t 0)), none⟩, ⟨(some 12), (.nilCheck (.t 11)), none⟩, ⟨(some 13), (.faddr 2 (.t 12)), none⟩, ⟨(some 14), (.load none (.t 13)), none⟩, ⟨(some 15), (.bin .gtr .i64 (.t 14) (.c (.int .i64 0))), none⟩]) (.cond (.t 15) (.seq (.reg [⟨(some 16), (.mv (.t 0)), none⟩, ⟨(some 17), (.nilCheck (.t 16)), none⟩, ⟨(some 18), (.faddr 2 (.t 17)), none⟩, ⟨(some 19), (.load none (.t 18)), none⟩, ⟨(some 20), (.bin .sub .i64 (.t 19) (.c (.int .i64 1))), none⟩, ⟨(some 21), (.nilCheck (.t 16)), none⟩, ⟨(some 22), (.faddr 2 (.t 21)), none⟩, ⟨none, (.store 1 (.t 22) (.t 20)), none⟩]) (.seq (.reg [⟨(some 2), (.mv (.c (.bool true))), none⟩]) .ret)) .skip)) (.seq (.reg [⟨(some 23), (.mv (.t 0)), none⟩, ⟨(some 24), (.nilCheck (.t 23)), none⟩, ⟨(some 25), (.faddr 2 (.t 24)), none⟩, ⟨(some 26), (.load none (.t 25)), none⟩, ⟨(some 27), (.bin .eql .i64 (.t 26) (.c (.int .i64 (-1)))), none⟩, ⟨(some 3), (.mv (.t 27)), none⟩]) (.seq (.reg [⟨(some 28), (.mv (.t 0)), none⟩, ⟨(some 29), (.nilCheck (.t 28)), none⟩, ⟨(some 30), (.faddr 2 (.t 29)), none⟩, ⟨none, (.store 1 (.t 30) (.c (.int .i64 (-1)))), none⟩]) (.seq (.reg [⟨(some 31), (.mv (.t 3)), none⟩, ⟨(some 2), (.mv (.t 31)), none⟩]) .ret))))))

set_option maxRecDepth 100000 in
theorem k_scall : compileC Tryd.prog ann (Tryd.f39.body.getD .skip) = some c_scall := by kernel_rfl

theorem s_scall {args : List AV} {σ : St} {K : AV → St → Prop} (h : WF σ → T Tryd.prog ann c_scall (Fin σ [(.t 2)] K) (args ++ List.replicate (32 - args.length) (.tup [])) σ) : ACalls Tryd.prog n_scall args σ K :=
  calls_ok Tryd.func39 (by kernel_rfl) (by kernel_rfl) k_scall (by kernel_rfl) (by kernel_rfl) h

abbrev n_named : Nat := 55

def c_named : C := (.seq (.reg [⟨(some 2), (.mv (.c (.bool false))), none⟩]) (.seq (.reg [⟨(some 3), (.mv (.c (.func 75 [] []))), none⟩]) (.seq (.reg [⟨(some 4), (.mv (.t 0)), none⟩, ⟨(some 5), (.slen (.t 4)), none⟩, ⟨(some 6), (.bin .geq .i64 (.t 5) (.c (.int .i64 1))), none⟩, ⟨(some 7), (.mv (.t 6)), none⟩, ⟨(some 8), (.mv (.t 0)), (some (7, true))⟩, ⟨(some 9), (.slen (.t 8)), (some (7, true))⟩, ⟨(some 10), (.bin .leq .i64 (.t 9) (.c (.int .i64 32))), (some (7, true))⟩, ⟨(some 11), (.pick (.t 7) (.t 10) (.c (.bool false))), none⟩, ⟨(some 12), (.mv (.t 11)), none⟩, ⟨(some 13), (.mv (.t 0)), (some (12, true))⟩, ⟨(some 14), (.mv (.t 3)), (some (12, true))⟩, ⟨(some 15), (.call 76 [(.t 13), (.t 14)]), (some (12, true))⟩, ⟨(some 16), (.bin .lss .i64 (.t 15) (.c (.int .i64 0))), (some (12, true))⟩, ⟨(some 17), (.pick (.t 12) (.t 16) (.c (.bool false))), none⟩, ⟨(some 2), (.mv (.t 17)), none⟩]) .ret)))

set_option maxRecDepth 100000 in
theorem k_named : compileC Tryd.prog ann (Tryd.f55.body.getD .skip) = some c_named := by kernel_rfl

theorem s_named {args : List AV} {σ : St} {K : AV → St → Prop} (h : WF σ → T Tryd.prog ann c_named (Fin σ [(.t 2)] K) (args ++ List.replicate (18 - args.length) (.tup [])) σ) : ACalls Tryd.prog n_named args σ K :=
  calls_ok Tryd.func55 (by kernel_rfl) (by kernel_rfl) k_named (by kernel_rfl) (by kernel_rfl) h

abbrev ann_clone : Ann := { errs := [(40, .i64)], hold := [(3, 0, .zero), (3, 2, .own)] }

abbrev n_clone : Nat := 40

def c_clone : C := (.seq (.reg [⟨(some 2), (.mv (.c (.sl [] .nil))), none⟩]) (.seq (.seq (.reg [⟨(some 3), (.mv (.t 0)), none⟩, ⟨(some 4), (.eqS false (.t 3)), none⟩]) (.cond (.t 4) (.seq (.reg [⟨(some 2), (.mv (.c (.sl [] .nil))), none⟩]) .ret) .skip)) (.seq (.reg [⟨(some 5), (.bslice 1 .zero []), none⟩, ⟨(some 6), (.mv (.t 0)), none⟩, ⟨(some 7), (.app 1 1 .own (.t 5) (.t 6)), none⟩, ⟨(some 2), (.mv (.t 7)), none⟩]) .ret)))

set_option maxRecDepth 100000 in
theorem k_clone : compileC Tryd.prog ann_clone (Tryd.f40.body.getD .skip) = some c_clone := by kernel_rfl

theorem s_clone {args : List AV} {σ : St} {K : AV → St → Prop} (h : WF σ → T Tryd.prog ann_clone c_clone (Fin σ [(.t 2)] K) (args ++ List.replicate (8 - args.length) (.tup [])) σ) : ACalls Tryd.prog n_clone args σ K :=
  calls_ok Tryd.func40 (by kernel_rfl) (by kernel_rfl) k_clone (by kernel_rfl) (by kernel_rfl) h

abbrev n_named1 : Nat := 75

def c_named1 : C := (.seq (.reg [⟨(some 2), (.mv (.c (.bool false))), none⟩]) (.seq (.reg [⟨(some 3), (.mv (.t 0)), none⟩, ⟨(some 4), (.bin .geq .i32 (.t 3) (.c (.int .i32 97))), none⟩, ⟨(some 5), (.mv (.t 4)), none⟩, ⟨(some 6), (.mv (.t 0)), (some (5, true))⟩, ⟨(some 7), (.bin .leq .i32 (.t 6) (.c (.int .i32 122))), (some (5, true))⟩, ⟨(some 8), (.pick (.t 5) (.t 7) (.c (.bool false))), none⟩, ⟨(some 9), (.mv (.t 8)), none⟩, ⟨(some 10), (.mv (.t 0)), (some (9, false))⟩, ⟨(some 11), (.bin .geq .i32 (.t 10) (.c (.int .i32 48))), (some (9, false))⟩, ⟨(some 12), (.mv (.t 11)), (some (9, false))⟩, ⟨(some 13), (.mv (.t 0)), (some (12, true))⟩, ⟨(some 14), (.bin .leq .i32 (.t 13) (.c (.int .i32 57))), (some (12, true))⟩, ⟨(some 15), (.pick (.t 12) (.t 14) (.c (.bool false))), (some (9, false))⟩, ⟨(some 16), (.pick (.t 9) (.c (.bool true)) (.t 15)), none⟩, ⟨(some 17), (.mv (.t 16)), none⟩, ⟨(some 18), (.mv (.t 0)), (some (17, false))⟩, ⟨(some 19), (.bin .eql .i32 (.t 18) (.c (.int .i32 47))), (some (17, false))⟩, ⟨(some 20), (.pick (.t 17) (.c (.bool true)) (.t 19)), none⟩, ⟨(some 21), (.mv (.t 20)), none⟩, ⟨(some 22), (.mv (.t 0)), (some (21, false))⟩, ⟨(some 23), (.bin .eql .i32 (.t 22) (.c (.int .i32 45))), (some (21, false))⟩, ⟨(some 24), (.pick (.t 21) (.c (.bool true)) (.t 23)), none⟩, ⟨(some 25), (.not (.t 24)), none⟩, ⟨(some 2), (.mv (.t 25)), none⟩]) .ret))

set_option maxRecDepth 100000 in
theorem k_named1 : compileC Tryd.prog ann (Tryd.f75.body.getD .skip) = some c_named1 := by kernel_rfl

theorem s_named1 {args : List AV} {σ : St} {K : AV → St → Prop} (h : WF σ → T Tryd.prog ann c_named1 (Fin σ [(.t 2)] K) (args ++ List.replicate (26 - args.length) (.tup [])) σ) : ACalls Tryd.prog n_named1 args σ K :=
  calls_ok Tryd.func75 (by kernel_rfl) (by kernel_rfl) k_named1 (by kernel_rfl) (by kernel_rfl) h

abbrev n_ixf : Nat := 76

def c_ixf : C := (.seq (.reg [⟨(some 4), (.mv (.c (.int .i64 0))), none⟩]) (.seq (.reg [⟨(some 5), (.mv (.t 0)), none⟩, ⟨(some 6), (.mv (.t 1)), none⟩, ⟨(some 7), (.call 96 [(.t 5), (.t 6), (.c (.bool true))]), none⟩, ⟨(some 4), (.mv (.t 7)), none⟩]) .ret))

set_option maxRecDepth 100000 in
theorem k_ixf : compileC Tryd.prog ann (Tryd.f76.body.getD .skip) = some c_ixf := by kernel_rfl

theorem s_ixf {args : List AV} {σ : St} {K : AV → St → Prop} (h : WF σ → T Tryd.prog ann c_ixf (Fin σ [(.t 4)] K) (args ++ List.replicate (8 - args.length) (.tup [])) σ) : ACalls Tryd.prog n_ixf args σ K :=
  calls_ok Tryd.func76 (by kernel_rfl) (by kernel_rfl) k_ixf (by kernel_rfl) (by kernel_rfl) h

abbrev n_ixf2 : Nat := 96

def c_ixf2 : C := (.seq (.reg [⟨(some 6), (.mv (.c (.int .i64 0))), none⟩]) (.seq (.seq (.reg [⟨(some 9), (.mv (.t 0)), none⟩, ⟨(some 10), (.srange (.t 9)), none⟩]) (.block 0 (.loop (.seq (.reg [⟨(some 11), (.snext (.t 10)), none⟩, ⟨(some 12), (.ext (.t 11) 0), none⟩]) (.seq (.cond (.t 12) .skip (.exit 0)) (.block 1 (.seq (.reg [⟨(some 13), (.ext (.t 11) 1), none⟩, ⟨(some 14), (.ext (.t 11) 2), none⟩, ⟨(some 7), (.mv (.t 13)), none⟩, ⟨(some 8), (.mv (.t 14)), none⟩]) (.seq (.reg [⟨(some 15), (.mv (.t 1)), none⟩, ⟨(some 16), (.mv (.t 8)), none⟩, ⟨(some 17), (.callv (.t 15) [(.t 16)]), none⟩, ⟨(some 18), (.mv (.t 2)), none⟩, ⟨(some 19), (.bbin false (.t 17) (.t 18)), none⟩]) (.cond (.t 19) (.seq (.reg [⟨(some 20), (.mv (.t 7)), none⟩, ⟨(some 6), (.mv (.t 20)), none⟩]) .ret) .skip))))))))) (.seq (.reg [⟨(some 6), (.mv (.c (.int .i64 (-1)))), none⟩]) .ret)))

set_option maxRecDepth 100000 in
theorem k_ixf2 : compileC Tryd.prog ann (Tryd.f96.body.getD .skip) = some c_ixf2 := by kernel_rfl

theorem s_ixf2 {args : List AV} {σ : St} {K : AV → St → Prop} (h : WF σ → T Tryd.prog ann c_ixf2 (Fin σ [(.t 6)] K) (args ++ List.replicate (21 - args.length) (.tup [])) σ) : ACalls Tryd.prog n_ixf2 args σ K :=
  calls_ok Tryd.func96 (by kernel_rfl) (by kernel_rfl) k_ixf2 (by kernel_rfl) (by kernel_rfl) h

end Go.VL

namespace Go.VL

open Go.Proofs

/-- what a store holds: names, and bytes -/
abbrev Objs := List (ByteArray × List UInt8)

def objsAV (L : Objs) : List (AV × AV) := L.map fun e => (.str e.1, .sl (bytesAV e.2) .none)

theorem objs_get {L : Objs} {i : Nat} {p : AV × AV} (h : (objsAV L)[i]? = some p) : ∃ e, L[i]? = some e ∧ p = (.str e.1, .sl (bytesAV e.2) .none) := by
  unfold objsAV at h
  rw [List.getElem?_map, Option.map_eq_some_iff] at h
  obtain ⟨e, h1, h2⟩ := h
  exact ⟨e, h1, h2.symm⟩

def getO (k : ByteArray) : Objs → Option (List UInt8)
  | [] => none
  | e :: r => if k = e.1 then some e.2 else getO k r

def putO (k : ByteArray) (v : List UInt8) : Objs → Objs
  | [] => [(k, v)]
  | e :: r => if k = e.1 then (k, v) :: r else e :: putO k v r

theorem objs_find (k : ByteArray) : ∀ L : Objs, mfind (.str k) (objsAV L) = some ((getO k L).map fun v => .sl (bytesAV v) .none)
  | [] => rfl
  | e :: r => by
    have ih := objs_find k r
    unfold objsAV at ih ⊢
    simp only [List.map_cons, mfind, keq]
    by_cases h : k = e.1
    · simp [h, getO]
    · simp only [h, decide_false]
      rw [ih]; simp [getO, h]

theorem objs_put (k : ByteArray) (v : List UInt8) : ∀ L : Objs, mput (.str k) (.sl (bytesAV v) .none) (objsAV L) = objsAV (putO k v L)
  | [] => rfl
  | e :: r => by
    have ih := objs_put k v r
    unfold objsAV at ih ⊢
    simp only [List.map_cons, mput, keq]
    by_cases h : k = e.1
    · simp [h, putO]
    · simp only [h, decide_false]
      rw [ih]; simp [putO, h]

theorem put_len (k : ByteArray) (v : List UInt8) : ∀ L : Objs, (putO k v L).length = if (getO k L).isSome then L.length else L.length + 1
  | [] => rfl
  | e :: r => by
    have ih := put_len k v r
    unfold putO getO
    by_cases h : k = e.1
    · rw [if_pos h, if_pos h]; simp
    · rw [if_neg h, if_neg h, List.length_cons, ih, List.length_cons]
      split <;> rfl

/-- how many bytes there are -/
def usedO (L : Objs) : Nat := (L.map fun e => e.2.length).sum

/-- a store stands at p, its map at m -/
structure StS (σ : St) (p m : Nat) (room left calls : Int) (L : Objs) : Prop where
  obj : σ.res p = some (.obj [.int .i64 room, .map m, .int .i64 left, .int .i64 calls])
  map : ∃ ts clk, σ.res m = some (.map (objsAV L) ts clk) ∧ ts.length = L.length ∧ ts.Nodup ∧ ∀ t ∈ ts, t < clk
  ne : p ≠ m

theorem StS.mono {σ σ' : St} {p m : Nat} {room left calls : Int} {L : Objs} (h : StS σ p m room left calls L) (ho : ∀ n x, σ.res n = some x → σ'.res n = some x) : StS σ' p m room left calls L := by
  obtain ⟨ts, clk, h1, h2⟩ := h.map
  exact ⟨ho _ _ h.obj, ⟨ts, clk, ho _ _ h1, h2⟩, h.ne⟩

theorem scalls_ok {p m : Nat} {room left calls : Int} {L : Objs} {σ : St} (h : StS σ p m room left calls L) : ACalls Tryd.prog n_scalls [.ptr p 0] σ (fun v σ' => v = .int .i64 calls ∧ σ' = σ) := by
  refine s_scalls (fun wf => ?_)
  unfold c_scalls
  refine T.seq_k (fun K_h1 h1 => ?_)
  refine T.regi hm ?_
  simp only [↓reduceIte, namesOf, List.any, I.names, aopsI, astep, ev, setd, List.set, List.cons_append, List.nil_append, List.length_cons, List.length_nil, List.replicate, then_normal, Bool.or_false, Bool.false_eq_true, up_zero, Nat.reduceAdd, Nat.reduceSub]
  refine h1 _ _ ?_
  try clear h1 K_h1
  refine T.seq_k (fun K_h1 h1 => ?_)
  refine T.regi hm ?_
  simp only [↓reduceIte, namesOf, List.any, I.names, aopsI, astep, ev, setd, List.set, List.getD, List.getElem?_cons_zero, List.getElem?_cons_succ, then_normal, Option.getD_some, Bool.or_false, Bool.false_eq_true, up_zero, Nat.reduceAdd, ↓opt_def, ldc, h.obj]
  refine h1 _ _ ?_
  try clear h1 K_h1
  exact T.ret (Fin.ret rfl ⟨rfl, rfl⟩)

theorem sfail_ok {p m : Nat} {room left calls n : Int} {L : Objs} {σ : St} (h : StS σ p m room left calls L) :
    ACalls Tryd.prog n_sfail [.ptr p 0, .int .i64 n] σ (fun v σ' => StS σ' p m room (if (-1 : Int) > n then -1 else n) calls L ∧ σ' = σ.set p (.obj [.int .i64 room, .map m, .int .i64 (if (-1 : Int) > n then -1 else n), .int .i64 calls])) := by
  refine s_sfail (fun wf => ?_)
  unfold c_sfail
  refine T.regi hm ?_
  simp only [↓reduceIte, namesOf, List.any, I.names, aopsI, astep, ev, setd, List.set, List.getD, List.getElem?_cons_zero, List.getElem?_cons_succ, List.cons_append, List.nil_append, List.length_cons, List.length_nil, List.replicate, Option.getD_some, Bool.or_false, Bool.false_eq_true, up_zero, Nat.reduceAdd, Nat.reduceSub, ↓opt_def, AV.isAny, AV.cells, List.map_cons, List.map_nil, eq_self, decide_true, h.obj, mx2, List.foldlM, AV.fits, AV.one, List.all_cons, List.all_nil, Nat.reduceBEq, Bool.not_false, Bool.and_self, Nat.zero_add, splice, List.take, List.drop, Nat.reduceLeDiff, bind, Option.bind, pure]
  refine Fin.retn rfl ⟨⟨by simp, ?_, h.ne⟩, rfl⟩
  obtain ⟨ts, clk, h1, h2⟩ := h.map
  exact ⟨ts, clk, by rw [St.set_other _ _ (Ne.symm h.ne)]; exact h1, h2⟩

/-- one call less goes well -/
def leftB (left : Int) : Int := if left > 0 then left - 1 else -1

theorem scall_ok {p m : Nat} {room left calls : Int} {L : Objs} {σ : St} (h : StS σ p m room left calls L) (hl : -1 ≤ left ∧ left ≤ 9223372036854775807) (hc : 0 ≤ calls ∧ calls < 9223372036854775807) :
    ACalls Tryd.prog n_scall [.ptr p 0] σ (fun v σ' => v = .bool (decide (left ≠ 0)) ∧ σ' = σ.set p (.obj [.int .i64 room, .map m, .int .i64 (leftB left), .int .i64 (calls + 1)])) := by
  refine s_scall (fun wf => ?_)
  unfold c_scall
  refine T.seq_k (fun K_h1 h1 => ?_)
  refine T.regi hm ?_
  simp only [↓reduceIte, namesOf, List.any, I.names, aopsI, astep, ev, setd, List.set, List.cons_append, List.nil_append, List.length_cons, List.length_nil, List.replicate, then_normal, Bool.or_false, Bool.false_eq_true, up_zero, Nat.reduceAdd, Nat.reduceSub]
  refine h1 _ _ ?_
  try clear h1 K_h1
  have e1 : IntKind.i64.wrap (calls + 1) = calls + 1 := wrap64 (by omega) (by omega)
  refine T.seq_k (fun K_h1 h1 => ?_)
  refine T.regi hm ?_
  simp only [↓reduceIte, namesOf, List.any, I.names, aopsI, astep, ev, setd, List.set, List.getD, List.getElem?_cons_zero, List.getElem?_cons_succ, List.cons_append, List.nil_append, List.length_cons, List.length_nil, then_normal, Option.getD_some, Bool.or_false, Bool.false_eq_true, up_zero, Nat.reduceAdd, binv, ↓opt_def, AV.isAny, AV.cells, ldc, eq_self, decide_true, h.obj, e1, AV.fits, AV.one, List.all_cons, List.all_nil, Nat.reduceBEq, Bool.not_false, Bool.and_self, Nat.zero_add, splice, List.take, List.drop, Nat.reduceLeDiff]
  refine h1 _ _ ?_
  try clear h1 K_h1
  refine T.seq_k (fun K_h1 h1 => ?_)
  refine T.seq_k (fun K_h2 h2 => ?_)
  by_cases c1 : left > 0
  · have e2 : decide (left > 0) = true := decide_eq_true c1
    have e3 : IntKind.i64.wrap (left - 1) = left - 1 := wrap64 (by omega) (by omega)
    refine T.regi hm ?_
    simp only [↓reduceIte, namesOf, List.any, I.names, aopsI, astep, ev, setd, List.set, List.getD, List.getElem?_cons_zero, List.getElem?_cons_succ, then_normal, Option.getD_some, Bool.or_false, Bool.false_eq_true, up_zero, Nat.reduceAdd, binv, ↓opt_def, ldc, St.set_same, eq_self, e2]
    refine h2 _ _ ?_
    try clear h2 K_h2
    refine T.cond rfl (fun _ => ?_) (fun h => by cases h)
    refine T.seq_k (fun K_h2 h2 => ?_)
    refine T.regi hm ?_
    simp only [↓reduceIte, namesOf, List.any, I.names, aopsI, astep, ev, setd, List.set, List.getD, List.getElem?_cons_zero, List.getElem?_cons_succ, List.cons_append, List.nil_append, List.length_cons, List.length_nil, then_normal, Option.getD_some, Bool.or_false, Bool.false_eq_true, up_zero, Nat.reduceAdd, binv, ↓opt_def, AV.isAny, AV.cells, ldc, St.set_same, eq_self, decide_true, e3, AV.fits, AV.one, List.all_cons, List.all_nil, Nat.reduceBEq, Bool.not_false, Bool.and_self, Nat.zero_add, splice, List.take, List.drop, Nat.reduceLeDiff, St.set_set]
    refine h2 _ _ ?_
    try clear h2 K_h2
    refine T.seq_k (fun K_h2 h2 => ?_)
    refine T.regi hm ?_
    simp only [↓reduceIte, namesOf, List.any, I.names, aopsI, astep, ev, setd, List.set, then_normal, Bool.or_false, Bool.false_eq_true, up_zero]
    refine h2 _ _ ?_
    try clear h2 K_h2
    refine T.ret (Fin.ret rfl ⟨?_, ?_⟩)
    · rw [decide_eq_true (by omega)]; rfl
    · rw [leftB, if_pos c1]
  · have e2 : decide (left > 0) = false := decide_eq_false c1
    have e4 : leftB left = -1 := by rw [leftB, if_neg c1]
    refine T.regi hm ?_
    simp only [↓reduceIte, namesOf, List.any, I.names, aopsI, astep, ev, setd, List.set, List.getD, List.getElem?_cons_zero, List.getElem?_cons_succ, then_normal, Option.getD_some, Bool.or_false, Bool.false_eq_true, up_zero, Nat.reduceAdd, binv, ↓opt_def, ldc, St.set_same, eq_self, e2]
    refine h2 _ _ ?_
    try clear h2 K_h2
    refine T.cond rfl (fun h => by cases h) (fun _ => T.skip ?_)
    refine h1 _ _ ?_
    try clear h1 K_h1
    refine T.seq_k (fun K_h1 h1 => ?_)
    refine T.regi hm ?_
    simp only [↓reduceIte, namesOf, List.any, I.names, aopsI, astep, ev, setd, List.set, List.getD, List.getElem?_cons_zero, List.getElem?_cons_succ, then_normal, Option.getD_some, Bool.or_false, Bool.false_eq_true, up_zero, Nat.reduceAdd, binv, ↓opt_def, ldc, St.set_same, eq_self]
    refine h1 _ _ ?_
    try clear h1 K_h1
    refine T.seq_k (fun K_h1 h1 => ?_)
    refine T.regi hm ?_
    simp only [↓reduceIte, namesOf, List.any, I.names, aopsI, astep, ev, setd, List.set, List.getD, List.getElem?_cons_zero, List.getElem?_cons_succ, List.cons_append, List.nil_append, List.length_cons, List.length_nil, then_normal, Option.getD_some, Bool.or_false, Bool.false_eq_true, up_zero, Nat.reduceAdd, AV.isAny, AV.cells, St.set_same, eq_self, decide_true, AV.fits, AV.one, List.all_cons, List.all_nil, Nat.reduceBEq, Bool.not_false, Bool.and_self, Nat.zero_add, splice, List.take, List.drop, Nat.reduceLeDiff, St.set_set]
    refine h1 _ _ ?_
    try clear h1 K_h1
    refine T.seq_k (fun K_h1 h1 => ?_)
    refine T.regi hm ?_
    simp only [↓reduceIte, namesOf, List.any, I.names, aopsI, astep, ev, setd, List.set, List.getD, List.getElem?_cons_zero, List.getElem?_cons_succ, then_normal, Option.getD_some, Bool.or_false, Bool.false_eq_true, up_zero]
    refine h1 _ _ ?_
    try clear h1 K_h1
    refine T.ret (Fin.ret rfl ⟨?_, by rw [e4]⟩)
    have : (left == -1) = decide (left ≠ 0) := by
      rw [Bool.eq_iff_iff]; simp; omega
    rw [← this]; rfl

theorem clone_ok {b : List UInt8} {v : AV} {σ : St} (hb : b.length ≤ 1099511627776) (hv : (∃ g, v = .sl (bytesAV b) g ∧ (g = .nil → b = [])) ∨ ∃ n, v = .ref n 0 b.length ∧ σ.res n = some (.obj (bytesAV b))) :
    ACalls Tryd.prog n_clone [v] σ (fun w σ' => (w = .sl [] .none ∧ b = [] ∧ ∀ n x, σ.res n = some x → σ'.res n = some x) ∨ ∃ n, σ.next ≤ n ∧ n < σ'.next ∧ w = .ref n 0 b.length ∧ σ'.res n = some (.obj (bytesAV b)) ∧ ∀ n x, σ.res n = some x → σ'.res n = some x) := by
  refine s_clone (fun wf => ?_)
  unfold c_clone
  have more : ∀ ρ' : List AV, keep [0] 0 ρ' = [v] ++ List.replicate 7 .any → T Tryd.prog ann_clone (.seq (.reg [⟨(some 5), (.bslice 1 .zero []), none⟩, ⟨(some 6), (.mv (.t 0)), none⟩, ⟨(some 7), (.app 1 1 .own (.t 5) (.t 6)), none⟩, ⟨(some 2), (.mv (.t 7)), none⟩]) .ret)
      (Fin σ [.t 2] (fun w σ' => (w = .sl [] .none ∧ b = [] ∧ ∀ n x, σ.res n = some x → σ'.res n = some x) ∨ ∃ n, σ.next ≤ n ∧ n < σ'.next ∧ w = .ref n 0 b.length ∧ σ'.res n = some (.obj (bytesAV b)) ∧ ∀ n x, σ.res n = some x → σ'.res n = some x)) ρ' σ := by
    intro ρ' hρ
    refine T.gh (Gh.keep [0]) ?_
    rw [hρ]
    clear hρ ρ'
    have hsrc : srcOf (σ.up 4) 1 v = some (bytesAV b) := by
      rcases hv with ⟨g, rfl, _⟩ | ⟨n, rfl, hr⟩
      · simp only [srcOf, bytesAV_er]
      · have e : ((bytesAV b).drop 0).take b.length = bytesAV b := by rw [List.drop_zero, List.take_of_length_le (by rw [bytesAV_len]; exact Nat.le_refl _)]
        have hr' : (σ.up 4).res n = some (.obj (bytesAV b)) := hr
        unfold srcOf
        simp only [hr']
        rw [e, if_pos ⟨by trivial, by rw [bytesAV_len]; omega, by simp [bytesAV, AV.one]⟩]
        simp [bytesAV, AV.er1]
    refine T.seq_k (fun K_h1 h1 => ?_)
    cases b with
    | nil =>
      have hsrc' : srcOf (σ.up 4) 1 v = some [] := hsrc
      refine T.regi hm ?_
      simp only [↓reduceIte, namesOf, List.any, I.names, aopsI, astep, ev, setd, List.set, List.getD, List.getElem?_cons_zero, List.getElem?_cons_succ, List.cons_append, List.nil_append, List.length_cons, List.length_nil, List.replicate, then_normal, Option.getD_some, Bool.or_false, Bool.or_true, Nat.reduceAdd, true_and, eq_self, decide_true, List.isEmpty, hsrc', List.all_nil, Bool.true_and, Nat.zero_add, Nat.zero_mul, Nat.zero_le, and_self, List.append_nil]
      refine h1 _ _ ?_
      try clear h1 K_h1
      exact T.ret (Fin.retw rfl (y := .sl [] .none) (Wk.sl _ _) (.inl ⟨rfl, rfl, fun _ _ h => h⟩))
    | cons x r =>
      have hne : (bytesAV (x :: r)).isEmpty = false := rfl
      refine T.regi hm ?_
      simp only [↓reduceIte, namesOf, List.any, I.names, aopsI, astep, ev, setd, List.set, List.getD, List.getElem?_cons_zero, List.getElem?_cons_succ, List.cons_append, List.nil_append, List.length_cons, List.length_nil, List.replicate, then_normal, Option.getD_some, Bool.or_false, Bool.or_true, Nat.reduceAdd, eq_self, reduceCtorEq, List.isEmpty, hsrc, bytes_all, Bool.true_and, List.nil_append, Nat.zero_add]
      rw [if_pos (by simp only [bytesAV_len, decide_eq_true_eq]; omega)]
      refine h1 _ _ ?_
      try clear h1 K_h1
      refine T.ret (Fin.ret rfl (.inr ⟨σ.next + 2, by omega, by simp, ?_, ?_, set_quiet wf (Nat.le_refl _) (fun _ _ h => h) _ (by omega)⟩))
      · simp [pack, bytesAV_len]
      · rw [St.set_same, bytes_flat]
  refine T.seq_k (fun K_h1 h1 => ?_)
  refine T.regi hm ?_
  simp only [↓reduceIte, namesOf, List.any, I.names, aopsI, astep, ev, setd, List.set, List.cons_append, List.nil_append, List.length_cons, List.length_nil, List.replicate, then_normal, Bool.or_false, Bool.false_eq_true, up_zero, Nat.reduceAdd, Nat.reduceSub]
  refine h1 _ _ ?_
  try clear h1 K_h1
  refine T.seq_k (fun K_h1 h1 => ?_)
  refine T.seq_k (fun K_h2 h2 => ?_)
  have hlen0 : (∃ n, v = .ref n 0 b.length ∧ σ.res n = some (.obj (bytesAV b))) → ∀ K : AV → St → Prop, K (.bool false) σ → True := fun _ _ _ => trivial
  clear hlen0
  rcases hv with ⟨g, rfl, hgn⟩ | ⟨n, rfl, hr⟩
  · have go : ∀ ρ' : List AV, keep [0] 0 ρ' = [.sl (bytesAV b) g] ++ List.replicate 7 .any → ∀ x : Bool, ρ'.getD 4 .any = .bool x → (x = true → b = []) → K_h2 ρ' σ := by
      intro ρ' hρ x hx hn
      refine h2 _ _ ?_
      try clear h2 K_h2
      refine T.cond (b := x) (by simpa [ev] using hx) (fun ht => ?_) (fun _ => T.skip ?_)
      · have hb0 := hn ht
        refine T.gh (Gh.keep [0]) ?_
        rw [hρ]
        refine T.seq_k (fun K_h2 h2 => ?_)
        refine T.regi hm ?_
        simp only [↓reduceIte, namesOf, List.any, I.names, aopsI, astep, ev, setd, List.set, List.cons_append, List.nil_append, List.replicate, then_normal, Bool.or_false, Bool.false_eq_true, up_zero]
        refine h2 _ _ ?_
        try clear h2 K_h2
        exact T.ret (Fin.retw rfl (y := .sl [] .none) (Wk.sl _ _) (.inl ⟨rfl, hb0, fun _ _ h => h⟩))
      · refine h1 _ _ ?_
        try clear h1 K_h1
        exact more _ hρ
    cases b with
    | nil =>
      cases g <;> refine T.regi hm ?_
      simp only [↓reduceIte, namesOf, List.any, I.names, aopsI, astep, ev, setd, List.set, List.getD, List.getElem?_cons_zero, List.getElem?_cons_succ, List.length_nil, then_normal, Option.getD_some, Bool.or_false, Bool.false_eq_true, up_zero, true_and, eq_self, List.isEmpty, bne_self_eq_false]
      · intro x; exact go _ rfl x rfl (fun _ => rfl)
      · exact go _ rfl _ rfl (fun _ => rfl)
      · intro x; exact go _ rfl x rfl (fun _ => rfl)
      · intro x; exact go _ rfl x rfl (fun _ => rfl)
    | cons y r =>
      have hne : (bytesAV (y :: r)).isEmpty = false := rfl
      cases g
      case nil => exact absurd (hgn rfl) (by simp)
      all_goals
        refine T.regi hm ?_
        simp only [↓reduceIte, namesOf, List.any, I.names, aopsI, astep, ev, setd, List.set, List.getD, List.getElem?_cons_zero, List.getElem?_cons_succ, List.length_cons, then_normal, Option.getD_some, Bool.or_false, Bool.false_eq_true, up_zero, reduceCtorEq, hne, bne_self_eq_false]
        exact go _ rfl false rfl (fun h => by cases h)
  · refine T.regi hm ?_
    simp only [↓reduceIte, namesOf, List.any, I.names, aopsI, astep, ev, setd, List.set, List.getD, List.getElem?_cons_zero, List.getElem?_cons_succ, then_normal, Option.getD_some, Bool.or_false, Bool.false_eq_true, up_zero, bne_self_eq_false]
    refine h2 _ _ ?_
    try clear h2 K_h2
    refine T.cond rfl (fun h => by cases h) (fun _ => T.skip ?_)
    refine h1 _ _ ?_
    try clear h1 K_h1
    exact more _ rfl

def tsAt (ts : List Nat) (j : Nat) : Nat := ts.getD j 0

def lenAt (L : Objs) (j : Nat) : Nat := match L[j]? with | some e => e.2.length | none => 0

theorem nodup_le : ∀ (n : Nat) (l : List Nat), l.Nodup → (∀ j ∈ l, j < n) → l.length ≤ n ∧ ∀ f : Nat → Nat, (l.map f).sum ≤ ((List.range n).map f).sum
  | 0, l, _, h => by
    cases l with
    | nil => exact ⟨Nat.le_refl _, fun _ => Nat.le_refl _⟩
    | cons a r => have := h a (by simp); omega
  | n + 1, l, hd, h => by
    by_cases hn : n ∈ l
    · have hp := List.perm_cons_erase hn
      have h1 := nodup_le n (l.erase n) (hd.erase n) (fun j hj => by
        have hj' := (List.Nodup.mem_erase_iff hd).1 hj
        have := h j hj'.2
        omega)
      refine ⟨by have := hp.length_eq; simp only [List.length_cons] at this; omega, fun f => ?_⟩
      have hs := (hp.map f).sum_nat
      rw [hs, List.range_succ, List.map_append, List.sum_append]
      have := h1.2 f
      simp only [List.map_cons, List.sum_cons, List.map_nil, List.sum_nil]
      omega
    · have h1 := nodup_le n l hd (fun j hj => by
        have := h j hj
        by_cases hx : j = n
        · subst hx; exact absurd hj hn
        · omega)
      refine ⟨by omega, fun f => ?_⟩
      rw [List.range_succ, List.map_append, List.sum_append]
      exact Nat.le_trans (h1.2 f) (Nat.le_add_right _ _)

theorem used_range (L : Objs) : usedO L = ((List.range L.length).map (lenAt L)).sum := by
  unfold usedO
  congr 1
  apply List.ext_getElem
  · simp
  · intro i h1 h2
    simp only [List.length_map] at h1
    simp [lenAt, h1]

theorem sused_ok {p m : Nat} {room left calls : Int} {L : Objs} {σ : St} (h : StS σ p m room left calls L) (hu : usedO L ≤ 1099511627776) :
    ACalls Tryd.prog n_sused [.ptr p 0] σ (fun v σ' => v = .int .i64 (usedO L : Int) ∧ σ' = σ) := by
  refine s_sused (fun wf => ?_)
  unfold c_sused
  obtain ⟨ts, clk, hm', htl, hnd, _⟩ := h.map
  refine T.seq_k (fun K_h1 h1 => ?_)
  refine T.regi hm ?_
  simp only [↓reduceIte, namesOf, List.any, I.names, aopsI, astep, ev, setd, List.set, List.cons_append, List.nil_append, List.length_cons, List.length_nil, List.replicate, then_normal, Bool.or_false, Bool.false_eq_true, up_zero, Nat.reduceAdd, Nat.reduceSub]
  refine h1 _ _ ?_
  try clear h1 K_h1
  refine T.seq_k (fun K_h1 h1 => ?_)
  refine T.regi hm ?_
  simp only [↓reduceIte, namesOf, List.any, I.names, aopsI, astep, ev, setd, List.set, then_normal, Bool.or_false, Bool.false_eq_true, up_zero]
  refine h1 _ _ ?_
  try clear h1 K_h1
  refine T.seq_k (fun K_h1 h1 => ?_)
  refine T.seq_k (fun K_h2 h2 => ?_)
  refine T.regi hm ?_
  simp only [↓reduceIte, namesOf, List.any, I.names, aopsI, astep, ev, setd, List.set, List.getD, List.getElem?_cons_zero, List.getElem?_cons_succ, List.length_cons, List.length_nil, then_normal, Option.getD_some, Bool.or_false, Bool.or_true, Nat.reduceAdd, ↓opt_def, ldc, eq_self, h.obj, hm', St.up_res]
  have hlt : ∀ n x, σ.res n = some x → n < σ.next := fun n x hr => by
    rcases Nat.lt_or_ge n σ.next with h' | h'
    · exact h'
    · rw [wf n h'] at hr; cases hr
  have hmn := hlt _ _ hm'
  have q0 : ((σ.up 5).set (σ.next + 4) (.iter (some m) clk [] clk)).res (σ.next + 4) = some (.iter (some m) clk [] clk) := by simp
  have q1 := set_quiet wf (Nat.le_refl _) (fun _ _ h => h) (k := 5) (.iter (some m) clk [] clk) (a := σ.next + 4) (by omega)
  have q2 : σ.next + 4 ≠ m := by omega
  have q3 : σ.next ≤ σ.next + 4 := by omega
  generalize ((σ.up 5).set (σ.next + 4) (.iter (some m) clk [] clk)) = σ1 at q0 q1 ⊢
  generalize σ.next + 4 = it at q0 q2 q3 ⊢
  refine h2 _ _ ?_
  try clear h2 K_h2
  refine T.block ?_
  refine T.gh (Gh.keep [3, 10]) ?_
  refine T.loopi (fun i ρ s => ∃ is : List Nat, is.length = i ∧ is.Nodup ∧ (∀ j ∈ is, j < L.length) ∧ s.res it = some (.iter (some m) clk (is.map (tsAt ts)) clk) ∧ (∀ n x, σ.res n = some x → s.res n = some x) ∧
    ρ = [.any, .any, .any, .int .i64 (((is.map (lenAt L)).sum : Nat) : Int), .any, .any, .any, .any, .any, .any, .ptr it 0] ++ List.replicate 9 .any)
    L.length 0 (Nat.zero_le _) ⟨[], rfl, List.nodup_nil, fun j hj => (by cases hj), q0, q1, rfl⟩ ?_
  clear q0 q1
  rintro i ρ s hi ⟨is, hil, hind, hisl, q0, q1, rfl⟩
  have hms := q1 _ _ hm'
  refine T.seq_k (fun K_h2 h2 => ?_)
  refine T.regi hm ?_
  simp only [↓reduceIte, namesOf, List.any, I.names, aopsI, astep, ev, setd, List.set, List.getD, List.getElem?_cons_zero, List.getElem?_cons_succ, List.cons_append, List.nil_append, List.replicate, then_normal, Option.getD_some, Bool.or_false, Bool.false_eq_true, up_zero, ↓opt_def, eq_self, q0, hms, and_self]
  refine ⟨fun j pr t hj ht hns => ?_, fun hall => ?_⟩
  · obtain ⟨e, hej, rfl⟩ := objs_get hj
    have hjl : j < L.length := (List.getElem?_eq_some_iff.1 hej).1
    have htj : tsAt ts j = t := by simp [tsAt, ht]
    have hnj : j ∉ is := fun hm => hns (by rw [← htj]; exact List.mem_map_of_mem hm)
    have hnd' : (is ++ [j]).Nodup := List.nodup_append.2 ⟨hind, by simp, fun a ha b hb => by simp only [List.mem_singleton] at hb; subst hb; exact fun e => hnj (e ▸ ha)⟩
    have hlt' : ∀ k ∈ is ++ [j], k < L.length := fun k hk => by
      rcases List.mem_append.1 hk with hk | hk
      · exact hisl k hk
      · simp only [List.mem_singleton] at hk; subst hk; exact hjl
    obtain ⟨n1, n2⟩ := nodup_le _ _ hnd' hlt'
    have n3 := n2 (lenAt L)
    rw [← used_range, List.map_append, List.sum_append] at n3
    have hle : lenAt L j = e.2.length := by simp [lenAt, hej]
    simp only [List.map_cons, List.map_nil, List.sum_cons, List.sum_nil, Nat.add_zero, hle] at n3
    rw [List.length_append, List.length_singleton] at n1
    have r0 : (s.set it (.iter (some m) clk (is.map (tsAt ts) ++ [t]) clk)).res it = some (.iter (some m) clk (is.map (tsAt ts) ++ [t]) clk) := by simp
    have r1 : ∀ n x, σ.res n = some x → (s.set it (.iter (some m) clk (is.map (tsAt ts) ++ [t]) clk)).res n = some x := fun n x hr => by
      rw [St.set_other _ _ (by have := hlt n x hr; omega)]; exact q1 n x hr
    generalize (s.set it (.iter (some m) clk (is.map (tsAt ts) ++ [t]) clk)) = s1 at r0 r1 ⊢
    have hms1 := r1 _ _ hm'
    refine h2 _ _ ?_
    try clear h2 K_h2
    refine T.seq_k (fun K_h3 h3 => ?_)
    refine T.cond rfl (fun _ => T.skip ?_) (fun h => by cases h)
    refine h3 _ _ ?_
    try clear h3 K_h3
    refine T.block ?_
    refine T.seq_k (fun K_h3 h3 => ?_)
    refine T.regi hm ?_
    simp only [↓reduceIte, namesOf, List.any, I.names, aopsI, astep, ev, setd, List.set, List.getD, List.getElem?_cons_zero, List.getElem?_cons_succ, List.cons_append, List.nil_append, List.replicate, then_normal, Option.getD_some, Bool.or_false, Bool.false_eq_true, up_zero, ↓opt_def, eq_self, r0, hms1]
    refine ⟨j, _, t, by simp, ht, hj, ?_⟩
    refine h3 _ _ ?_
    try clear h3 K_h3
    have ew : IntKind.i64.wrap (((is.map (lenAt L)).sum : Int) + (e.2.length : Int)) = ((((is ++ [j]).map (lenAt L)).sum : Nat) : Int) := by
      rw [List.map_append, List.sum_append]
      simp only [List.map_cons, List.map_nil, List.sum_cons, List.sum_nil, Nat.add_zero, hle]
      rw [wrap64 (by omega) (by omega)]; omega
    refine T.regi hm ?_
    simp only [↓reduceIte, namesOf, List.any, I.names, aopsI, astep, ev, setd, List.set, List.getD, List.getElem?_cons_zero, List.getElem?_cons_succ, List.cons_append, List.nil_append, List.replicate, then_normal, inBlock_normal, Option.getD_some, Bool.or_false, Bool.false_eq_true, up_zero, binv, ↓opt_def, eq_self, bytesAV_len, ew]
    refine ⟨by omega, _, _, Gh.keep [3, 10], is ++ [j], by simp [hil], hnd', hlt', ?_, r1, rfl⟩
    rw [r0, List.map_append]
    simp [htj]
  · have hmem : ∀ k, k < L.length → k ∈ is := by
      intro k hk
      have hk' : k < ts.length := by omega
      have h1 := hall ts[k] (List.getElem_mem hk')
      obtain ⟨j, hj, he⟩ := List.mem_map.1 h1
      have hjl : j < ts.length := by rw [htl]; exact hisl j hj
      have e1 : tsAt ts j = ts[j] := by simp [tsAt, hjl]
      rw [e1] at he
      have : j = k := by
        rcases Nat.lt_trichotomy j k with hlt2 | heq | hgt
        · exact absurd he (List.pairwise_iff_getElem.1 hnd j k hjl hk' hlt2)
        · exact heq
        · exact absurd he.symm (List.pairwise_iff_getElem.1 hnd k j hk' hjl hgt)
      rw [← this]; exact hj
    have hperm : is.Perm (List.range L.length) := (List.perm_ext_iff_of_nodup hind List.nodup_range).2 fun k => ⟨fun h => by simpa using hisl k h, fun h => hmem k (by simpa using h)⟩
    have hsum : (is.map (lenAt L)).sum = usedO L := by rw [used_range]; exact (hperm.map _).sum_nat
    refine h2 _ _ ?_
    try clear h2 K_h2
    refine T.seq_k (fun K_h3 h3 => ?_)
    refine T.cond rfl (fun h => by cases h) (fun _ => T.exit ?_)
    try simp only [List.cons_append, List.nil_append, List.replicate, then_normal, inBlock_exit, then_exit]
    refine h1 _ _ ?_
    try clear h1 K_h1
    refine T.seq_k (fun K_h1 h1 => ?_)
    refine T.regi hm ?_
    simp only [↓reduceIte, namesOf, List.any, I.names, aopsI, astep, ev, setd, List.set, List.getD, List.getElem?_cons_zero, List.getElem?_cons_succ, then_normal, Option.getD_some, Bool.or_false, Bool.false_eq_true, up_zero]
    refine h1 _ _ ?_
    try clear h1 K_h1
    exact T.ret (Fin.quiet rfl trivial q1 ⟨by rw [hsum]; rfl, rfl⟩)

end Go.VL

namespace Go.VL

open Go.Proofs

/-- is it none of those that a name may have? -/
def oddC (c : Int) : Bool := !(decide (97 ≤ c) && decide (c ≤ 122) || (decide (48 ≤ c) && decide (c ≤ 57)) || c == 47 || c == 45)

theorem named1_ok {c : Int} {σ : St} : ACalls Tryd.prog n_named1 [.int .i32 c] σ (fun v σ' => v = .bool (oddC c) ∧ σ' = σ) := by
  refine s_named1 (fun wf => ?_)
  unfold c_named1
  refine T.seq_k (fun K_h1 h1 => ?_)
  refine T.regi hm ?_
  simp only [↓reduceIte, namesOf, List.any, I.names, aopsI, astep, ev, setd, List.set, List.cons_append, List.nil_append, List.length_cons, List.length_nil, List.replicate, then_normal, Bool.or_false, Bool.false_eq_true, up_zero, Nat.reduceAdd, Nat.reduceSub]
  refine h1 _ _ ?_
  try clear h1 K_h1
  refine T.seq_k (fun K_h1 h1 => ?_)
  have g1 : decide (c ≥ 97) = decide (97 ≤ c) := rfl
  have g2 : decide (c ≥ 48) = decide (48 ≤ c) := rfl
  cases a1 : decide (97 ≤ c)
  · cases a3 : decide (48 ≤ c)
    · cases a5 : (c == 47)
      · refine T.regi hm ?_
        simp only [↓reduceIte, namesOf, List.any, I.names, aopsI, astep, ev, setd, List.set, List.getD, List.getElem?_cons_zero, List.getElem?_cons_succ, then_normal, Option.getD_some, Bool.or_false, Bool.false_eq_true, up_zero, binv, ↓opt_def, eq_self, g1, g2, a1, a3, a5]
        refine h1 _ _ ?_
        try clear h1 K_h1
        exact T.ret (Fin.ret rfl ⟨by simp [pack, oddC, a1, a3, a5], rfl⟩)
      · refine T.regi hm ?_
        simp only [↓reduceIte, namesOf, List.any, I.names, aopsI, astep, ev, setd, List.set, List.getD, List.getElem?_cons_zero, List.getElem?_cons_succ, then_normal, Option.getD_some, Bool.or_false, Bool.false_eq_true, up_zero, binv, ↓opt_def, eq_self, reduceCtorEq, g1, g2, a1, a3, a5, reduceCtorEq]
        refine h1 _ _ ?_
        try clear h1 K_h1
        exact T.ret (Fin.ret rfl ⟨by simp [pack, oddC, a1, a3, a5], rfl⟩)
    · cases a4 : decide (c ≤ 57)
      · cases a5 : (c == 47)
        · refine T.regi hm ?_
          simp only [↓reduceIte, namesOf, List.any, I.names, aopsI, astep, ev, setd, List.set, List.getD, List.getElem?_cons_zero, List.getElem?_cons_succ, then_normal, Option.getD_some, Bool.or_false, Bool.false_eq_true, up_zero, binv, ↓opt_def, eq_self, g1, g2, a1, a3, a4, a5]
          refine h1 _ _ ?_
          try clear h1 K_h1
          exact T.ret (Fin.ret rfl ⟨by simp [pack, oddC, a1, a3, a4, a5], rfl⟩)
        · refine T.regi hm ?_
          simp only [↓reduceIte, namesOf, List.any, I.names, aopsI, astep, ev, setd, List.set, List.getD, List.getElem?_cons_zero, List.getElem?_cons_succ, then_normal, Option.getD_some, Bool.or_false, Bool.false_eq_true, up_zero, binv, ↓opt_def, eq_self, reduceCtorEq, g1, g2, a1, a3, a4, a5, reduceCtorEq]
          refine h1 _ _ ?_
          try clear h1 K_h1
          exact T.ret (Fin.ret rfl ⟨by simp [pack, oddC, a1, a3, a4, a5], rfl⟩)
      · refine T.regi hm ?_
        simp only [↓reduceIte, namesOf, List.any, I.names, aopsI, astep, ev, setd, List.set, List.getD, List.getElem?_cons_zero, List.getElem?_cons_succ, then_normal, Option.getD_some, Bool.or_false, Bool.false_eq_true, up_zero, binv, ↓opt_def, eq_self, reduceCtorEq, g1, g2, a1, a3, a4, reduceCtorEq]
        refine h1 _ _ ?_
        try clear h1 K_h1
        exact T.ret (Fin.ret rfl ⟨by simp [pack, oddC, a1, a3, a4], rfl⟩)
  · cases a2 : decide (c ≤ 122)
    · have h97 : 97 ≤ c := by simpa using a1
      have h122 : ¬ c ≤ 122 := by simpa using a2
      have a4 : decide (48 ≤ c) = true := decide_eq_true (by omega)
      have a6 : decide (c ≤ 57) = false := decide_eq_false (by omega)
      cases a5 : (c == 47)
      · refine T.regi hm ?_
        simp only [↓reduceIte, namesOf, List.any, I.names, aopsI, astep, ev, setd, List.set, List.getD, List.getElem?_cons_zero, List.getElem?_cons_succ, then_normal, Option.getD_some, Bool.or_false, Bool.false_eq_true, up_zero, binv, ↓opt_def, eq_self, g1, g2, a1, a2, a4, a6, a5]
        refine h1 _ _ ?_
        try clear h1 K_h1
        exact T.ret (Fin.ret rfl ⟨by simp [pack, oddC, a1, a2, a4, a6, a5], rfl⟩)
      · refine T.regi hm ?_
        simp only [↓reduceIte, namesOf, List.any, I.names, aopsI, astep, ev, setd, List.set, List.getD, List.getElem?_cons_zero, List.getElem?_cons_succ, then_normal, Option.getD_some, Bool.or_false, Bool.false_eq_true, up_zero, binv, ↓opt_def, eq_self, reduceCtorEq, g1, g2, a1, a2, a4, a6, a5, reduceCtorEq]
        refine h1 _ _ ?_
        try clear h1 K_h1
        exact T.ret (Fin.ret rfl ⟨by simp [pack, oddC, a1, a2, a4, a6, a5], rfl⟩)
    · refine T.regi hm ?_
      simp only [↓reduceIte, namesOf, List.any, I.names, aopsI, astep, ev, setd, List.set, List.getD, List.getElem?_cons_zero, List.getElem?_cons_succ, then_normal, Option.getD_some, Bool.or_false, Bool.false_eq_true, up_zero, binv, ↓opt_def, eq_self, reduceCtorEq, g1, a1, a2, reduceCtorEq]
      refine h1 _ _ ?_
      try clear h1 K_h1
      exact T.ret (Fin.ret rfl ⟨by simp [pack, oddC, a1, a2], rfl⟩)

theorem decode_pos (s : ByteArray) (i : Nat) : 1 ≤ (Utf8.decode s i).2 := by
  unfold Utf8.decode
  simp only
  repeat' split
  all_goals simp

/-- no rune is odd, from a place on -/
def okFrom (s : ByteArray) : Nat → Nat → Bool
  | 0, _ => true
  | f + 1, pos => if pos < s.size then !oddC (Utf8.decode s pos).1 && okFrom s f (pos + (Utf8.decode s pos).2) else true

theorem okFrom_end (s : ByteArray) : ∀ f pos, s.size ≤ pos → okFrom s f pos = true
  | 0, _, _ => rfl
  | f + 1, pos, h => by unfold okFrom; rw [if_neg (by omega)]

set_option maxRecDepth 10000 in
theorem ixf2_ok {s : ByteArray} {σ : St} (hl : s.size ≤ 9223372036854775807) : ACalls Tryd.prog n_ixf2 [.str s, .func n_named1 [] [], .bool true] σ (fun v σ' => (∃ r : Int, v = .int .i64 r ∧ decide (r < 0) = okFrom s s.size 0) ∧ σ' = σ) := by
  refine s_ixf2 (fun wf => ?_)
  unfold c_ixf2
  refine T.seq_k (fun K_h1 h1 => ?_)
  refine T.regi hm ?_
  simp only [↓reduceIte, namesOf, List.any, I.names, aopsI, astep, ev, setd, List.set, List.cons_append, List.nil_append, List.length_cons, List.length_nil, List.replicate, then_normal, Bool.or_false, Bool.false_eq_true, up_zero, Nat.reduceAdd, Nat.reduceSub]
  refine h1 _ _ ?_
  try clear h1 K_h1
  refine T.seq_k (fun K_h1 h1 => ?_)
  refine T.seq_k (fun K_h2 h2 => ?_)
  refine T.regi hm ?_
  simp only [↓reduceIte, namesOf, List.any, I.names, aopsI, astep, ev, setd, List.set, List.getD, List.getElem?_cons_zero, List.getElem?_cons_succ, List.length_cons, List.length_nil, then_normal, Option.getD_some, Bool.or_false, Bool.or_true, Nat.reduceAdd, eq_self]
  have hlt : ∀ n x, σ.res n = some x → n < σ.next := fun n x hr => by
    rcases Nat.lt_or_ge n σ.next with h' | h'
    · exact h'
    · rw [wf n h'] at hr; cases hr
  have q0 : ((σ.up 2).set (σ.next + 1) (.siter s 0)).res (σ.next + 1) = some (.siter s 0) := by simp
  have q1 := set_quiet wf (Nat.le_refl _) (fun _ _ h => h) (k := 2) (.siter s 0) (a := σ.next + 1) (by omega)
  have q3 : σ.next ≤ σ.next + 1 := by omega
  generalize ((σ.up 2).set (σ.next + 1) (.siter s 0)) = σ1 at q0 q1 ⊢
  generalize σ.next + 1 = it at q0 q3 ⊢
  refine h2 _ _ ?_
  try clear h2 K_h2
  refine T.block ?_
  refine T.gh (Gh.keep [1, 2, 10]) ?_
  refine T.loopi (fun i ρ s' => ∃ pos : Nat, i ≤ pos ∧ okFrom s s.size 0 = okFrom s (s.size - i) pos ∧ s'.res it = some (.siter s pos) ∧ (∀ n x, σ.res n = some x → s'.res n = some x) ∧
    ρ = [.any, .func n_named1 [] [], .bool true, .any, .any, .any, .any, .any, .any, .any, .ptr it 0] ++ List.replicate 10 .any)
    s.size 0 (Nat.zero_le _) ⟨0, Nat.le_refl _, rfl, q0, q1, rfl⟩ ?_
  clear q0 q1
  rintro i ρ s' hi ⟨pos, hip, hok, q0, q1, rfl⟩
  refine T.seq_k (fun K_h2 h2 => ?_)
  by_cases hp : pos < s.size
  · refine T.regi hm ?_
    simp only [↓reduceIte, namesOf, List.any, I.names, aopsI, astep, ev, setd, List.set, List.getD, List.getElem?_cons_zero, List.getElem?_cons_succ, List.cons_append, List.nil_append, List.replicate, then_normal, Option.getD_some, Bool.or_false, Bool.false_eq_true, up_zero, ↓opt_def, q0, hp]
    have r0 : (s'.set it (.siter s (pos + (Utf8.decode s pos).2))).res it = some (.siter s (pos + (Utf8.decode s pos).2)) := by simp
    have r1 : ∀ n x, σ.res n = some x → (s'.set it (.siter s (pos + (Utf8.decode s pos).2))).res n = some x := fun n x hr => by
      rw [St.set_other _ _ (by have := hlt n x hr; omega)]; exact q1 n x hr
    generalize (s'.set it (.siter s (pos + (Utf8.decode s pos).2))) = s1 at r0 r1 ⊢
    refine h2 _ _ ?_
    try clear h2 K_h2
    refine T.seq_k (fun K_h3 h3 => ?_)
    refine T.cond rfl (fun _ => T.skip ?_) (fun h => by cases h)
    refine h3 _ _ ?_
    try clear h3 K_h3
    refine T.block ?_
    refine T.seq_k (fun K_h3 h3 => ?_)
    refine T.regi hm ?_
    simp only [↓reduceIte, namesOf, List.any, I.names, aopsI, astep, ev, setd, List.set, List.getD, List.getElem?_cons_zero, List.getElem?_cons_succ, List.cons_append, List.nil_append, List.replicate, then_normal, Option.getD_some, Bool.or_false, Bool.false_eq_true, up_zero, ↓opt_def]
    refine h3 _ _ ?_
    try clear h3 K_h3
    refine T.seq_k (fun K_h3 h3 => ?_)
    refine T.regi hm ?_
    simp only [↓reduceIte, namesOf, List.any, I.names, aopsI, astep, ev, setd, List.set, List.getD, List.getElem?_cons_zero, List.getElem?_cons_succ, List.cons_append, List.nil_append, List.replicate, then_normal, Option.getD_some, Bool.or_false, Bool.false_eq_true, up_zero, List.map_cons, List.map_nil]
    refine named1_ok.mono ?_
    rintro v s2 ⟨rfl, rfl⟩
    have hstep : okFrom s (s.size - i) pos = (!oddC ((Utf8.decode s pos).1 : Int) && okFrom s (s.size - (i + 1)) (pos + (Utf8.decode s pos).2)) := by
      obtain ⟨n, hn⟩ : ∃ n, s.size - i = n + 1 := ⟨s.size - i - 1, by omega⟩
      rw [hn, show s.size - (i + 1) = n by omega]
      conv => lhs; unfold okFrom
      rw [if_pos hp]
    cases ho : oddC ((Utf8.decode s pos).1 : Int) with
    | true =>
      try simp only [beq_self_eq_true, Bool.bne_false]
      refine h3 _ _ ?_
      try clear h3 K_h3
      refine T.cond rfl (fun _ => ?_) (fun h => by cases h)
      refine T.seq_k (fun K_h3 h3 => ?_)
      refine T.regi hm ?_
      simp only [↓reduceIte, namesOf, List.any, I.names, aopsI, astep, ev, setd, List.set, List.getD, List.getElem?_cons_zero, List.getElem?_cons_succ, List.cons_append, List.nil_append, List.replicate, then_normal, Option.getD_some, Bool.or_false, Bool.false_eq_true, up_zero]
      refine h3 _ _ ?_
      try clear h3 K_h3
      refine T.ret (Fin.quiet rfl trivial r1 ⟨⟨_, rfl, ?_⟩, rfl⟩)
      rw [hok, hstep, ho]
      simp
    | false =>
      have eb : ((false == true) != false) = false := rfl
      try simp only [eb]
      refine h3 _ _ ?_
      try clear h3 K_h3
      refine T.cond rfl (fun h => by cases h) (fun _ => T.skip ?_)
      have hdp := decode_pos s pos
      refine ⟨by omega, _, _, Gh.keep [1, 2, 10], pos + (Utf8.decode s pos).2, by omega, ?_, r0, r1, rfl⟩
      rw [hok, hstep, ho]; rfl
  · refine T.regi hm ?_
    simp only [↓reduceIte, namesOf, List.any, I.names, aopsI, astep, ev, setd, List.set, List.getD, List.getElem?_cons_zero, List.getElem?_cons_succ, List.cons_append, List.nil_append, List.replicate, then_normal, Option.getD_some, Bool.or_false, Bool.false_eq_true, up_zero, ↓opt_def, q0, hp]
    refine h2 _ _ ?_
    try clear h2 K_h2
    refine T.seq_k (fun K_h3 h3 => ?_)
    refine T.cond rfl (fun h => by cases h) (fun _ => T.exit ?_)
    try simp only [List.cons_append, List.nil_append, List.replicate, then_normal, inBlock_exit, then_exit]
    refine h1 _ _ ?_
    try clear h1 K_h1
    refine T.seq_k (fun K_h1 h1 => ?_)
    refine T.regi hm ?_
    simp only [↓reduceIte, namesOf, List.any, I.names, aopsI, astep, ev, setd, List.set, then_normal, Bool.or_false, Bool.false_eq_true, up_zero]
    refine h1 _ _ ?_
    try clear h1 K_h1
    refine T.ret (Fin.quiet rfl trivial q1 ⟨⟨-1, rfl, ?_⟩, rfl⟩)
    rw [hok, okFrom_end _ _ _ (by omega)]; rfl

def namedB (s : ByteArray) : Bool := decide (1 ≤ s.size) && decide (s.size ≤ 32) && okFrom s s.size 0

theorem ixf_ok {s : ByteArray} {σ : St} (hl : s.size ≤ 9223372036854775807) : ACalls Tryd.prog n_ixf [.str s, .func n_named1 [] []] σ (fun v σ' => (∃ r : Int, v = .int .i64 r ∧ decide (r < 0) = okFrom s s.size 0) ∧ σ' = σ) := by
  refine s_ixf (fun wf => ?_)
  unfold c_ixf
  refine T.seq_k (fun K_h1 h1 => ?_)
  refine T.regi hm ?_
  simp only [↓reduceIte, namesOf, List.any, I.names, aopsI, astep, ev, setd, List.set, List.cons_append, List.nil_append, List.length_cons, List.length_nil, List.replicate, then_normal, Bool.or_false, Bool.false_eq_true, up_zero, Nat.reduceAdd, Nat.reduceSub]
  refine h1 _ _ ?_
  try clear h1 K_h1
  refine T.seq_k (fun K_h1 h1 => ?_)
  refine T.regi hm ?_
  simp only [↓reduceIte, namesOf, List.any, I.names, aopsI, astep, ev, setd, List.set, List.getD, List.getElem?_cons_zero, List.getElem?_cons_succ, then_normal, Option.getD_some, Bool.or_false, Bool.false_eq_true, up_zero, List.map_cons, List.map_nil]
  refine (ixf2_ok hl).mono ?_
  rintro v s2 ⟨⟨r, rfl, hr⟩, rfl⟩
  try simp only [↓reduceIte, namesOf, List.any, I.names, aops, aopsI, aopsT, qstep, CPt, qget, Tbl.get, astep, ev, setd, List.set, List.getD, List.getElem?_cons_zero, List.getElem?_cons_succ, List.getElem?_nil, List.cons_append, List.nil_append, List.length_cons, List.length_nil, List.replicate, then_normal, inBlock_normal, Option.getD_some, Option.getD_none, Bool.or_false, Bool.or_true, Bool.true_or, Bool.false_or, Bool.false_eq_true, if_false, if_true, up_zero, Nat.reduceAdd, Nat.reduceSub, binv, ↓opt_def, AV.isAny, AV.cells, ldc, List.map_cons, List.map_nil, St.set_next, St.set_same, St.up_next, Int.natCast_nonneg, lt_len, le_len, Int.toNat_natCast, true_and, and_true, eq_self, reduceCtorEq, decide_true, List.length_singleton, er_int, er_bool, er_str, srcR, up_zero]
  refine h1 _ _ ?_
  try clear h1 K_h1
  exact T.ret (Fin.ret rfl ⟨⟨r, rfl, hr⟩, rfl⟩)

theorem named_ok {s : ByteArray} {σ : St} (hl : s.size ≤ 9223372036854775807) : ACalls Tryd.prog n_named [.str s] σ (fun v σ' => v = .bool (namedB s) ∧ σ' = σ) := by
  refine s_named (fun wf => ?_)
  unfold c_named
  refine T.seq_k (fun K_h1 h1 => ?_)
  refine T.regi hm ?_
  simp only [↓reduceIte, namesOf, List.any, I.names, aopsI, astep, ev, setd, List.set, List.cons_append, List.nil_append, List.length_cons, List.length_nil, List.replicate, then_normal, Bool.or_false, Bool.false_eq_true, up_zero, Nat.reduceAdd, Nat.reduceSub]
  refine h1 _ _ ?_
  try clear h1 K_h1
  refine T.seq_k (fun K_h1 h1 => ?_)
  refine T.regi hm ?_
  simp only [↓reduceIte, namesOf, List.any, I.names, aopsI, astep, ev, setd, List.set, then_normal, Bool.or_false, Bool.false_eq_true, up_zero]
  refine h1 _ _ ?_
  try clear h1 K_h1
  refine T.seq_k (fun K_h1 h1 => ?_)
  by_cases c1 : 1 ≤ s.size
  case neg =>
    have e1 : decide ((s.size : Int) ≥ 1) = false := decide_eq_false (by omega)
    refine T.regi hm ?_
    simp only [↓reduceIte, namesOf, List.any, I.names, aopsI, astep, ev, setd, List.set, List.getD, List.getElem?_cons_zero, List.getElem?_cons_succ, then_normal, Option.getD_some, Bool.or_false, Bool.false_eq_true, up_zero, binv, ↓opt_def, eq_self, e1]
    refine h1 _ _ ?_
    try clear h1 K_h1
    exact T.ret (Fin.ret rfl ⟨by unfold namedB; rw [decide_eq_false c1]; rfl, rfl⟩)
  have e1 : decide ((s.size : Int) ≥ 1) = true := decide_eq_true (by omega)
  by_cases c2 : s.size ≤ 32
  case neg =>
    have e2 : decide ((s.size : Int) ≤ 32) = false := decide_eq_false (by omega)
    refine T.regi hm ?_
    simp only [↓reduceIte, namesOf, List.any, I.names, aopsI, astep, ev, setd, List.set, List.getD, List.getElem?_cons_zero, List.getElem?_cons_succ, then_normal, Option.getD_some, Bool.or_false, Bool.false_eq_true, up_zero, binv, ↓opt_def, eq_self, e1, e2]
    refine h1 _ _ ?_
    try clear h1 K_h1
    exact T.ret (Fin.ret rfl ⟨by unfold namedB; rw [decide_eq_false c2, Bool.and_false]; rfl, rfl⟩)
  have e2 : decide ((s.size : Int) ≤ 32) = true := decide_eq_true (by omega)
  refine T.regi hm ?_
  simp only [↓reduceIte, namesOf, List.any, I.names, aopsI, astep, ev, setd, List.set, List.getD, List.getElem?_cons_zero, List.getElem?_cons_succ, then_normal, Option.getD_some, Bool.or_false, Bool.false_eq_true, up_zero, binv, ↓opt_def, List.map_cons, List.map_nil, eq_self, e1, e2]
  refine (ixf_ok hl).mono ?_
  rintro v s2 ⟨⟨r, rfl, hr⟩, rfl⟩
  try simp only [↓reduceIte, eq_self, hr]
  refine h1 _ _ ?_
  try clear h1 K_h1
  exact T.ret (Fin.ret rfl ⟨by unfold namedB; rw [decide_eq_true c1, decide_eq_true c2]; rfl, rfl⟩)

end Go.VL

namespace Go.VL

open Go.Proofs

/-- an owned row that comes back, told to be a value -/
theorem Gv.freeze {σ0 σ : St} {n off len k : Nat} {cs xs : List AV} (hr : σ.res n = some (.obj cs)) (hlen : xs.length = len) (hk : ∀ x ∈ xs, x.cells.length = k)
    (hx : xs.flatMap AV.cells = (cs.drop off).take (len * k)) : Gv σ0 (.ref n off len) σ (.sl xs .none) (σ.del n) := by
  intro κ0 w0 B0 F0 F κ w v h0 hR he hd hn hv
  obtain ⟨hdm, us, rest, ty, fz, h1, h2, h3, h4, _⟩ := hR.own n _ hr
  have e : Ext κ w { κ with I := fun b o => κ.I b o ∨ (b = κ.φ n ∧ o < us.length) } w := ⟨fun _ _ x => .inl x, fun _ _ => rfl, fun _ _ => rfl, fun _ _ => rfl, fun _ _ => rfl, fun _ x => x, fun _ _ _ => rfl⟩
  have hlt := hR.lt hr
  have hR' : R w0.heap.size F { κ with I := fun b o => κ.I b o ∨ (b = κ.φ n ∧ o < us.length) } w (σ.del n) := by
    refine hR.step e (fun m hm => hR.dom m hm) (fun b o hi => ?_) (fun m r hm => ?_)
    · rcases hi with hi | ⟨rfl, _⟩
      · exact hR.imm b o hi
      · exact hlt
    · have hmn : m ≠ n := by intro e; subst e; simp [St.del] at hm
      have hm' : σ.res m = some r := by simpa [St.del, hmn] using hm
      refine .inl ⟨hm', rfl, fun o hi => ?_⟩
      rcases hi with hi | ⟨hx, _⟩
      · exact hi
      · exact absurd (hR.apart _ _ _ _ hm' hr hx) hmn
  obtain ⟨cap, rfl, hcap, _⟩ := hv.ref_inv
  refine ⟨_, hR', he.trans e, hd, hn, ?_⟩
  rw [← hlen]
  refine .sl _ _ cap k xs hk (by rw [hlen]; exact hcap) ?_
  rw [hx]
  refine Vs.mk (us := (us.drop off).take (len * k)) (((h3.mono e).drop off).take _) (fun i u hu => ?_)
  have hu2 : us[off + i]? = some u := by
    rw [List.getElem?_take] at hu
    split at hu
    · simpa using hu
    · cases hu
  have hil : off + i < us.length := (List.getElem?_eq_some_iff.1 hu2).1
  exact ⟨.inr ⟨rfl, hil⟩, by rw [cell_of h1, List.getElem?_append_left hil]; exact hu2⟩

abbrev BytesV (σ : St) (v : AV) (b : List UInt8) : Prop := (∃ g, v = .sl (bytesAV b) g ∧ (g = .nil → b = [])) ∨ ∃ n, v = .ref n 0 b.length ∧ σ.res n = some (.obj (bytesAV b))

theorem clone_q {b : List UInt8} {v : AV} {σ : St} (hb : b.length ≤ 1099511627776) (hv : BytesV σ v b) : ACalls Tryd.prog n_clone [v] σ (fun w σ' => w = .sl (bytesAV b) .none ∧ σ' = σ) := by
  refine (clone_ok hb hv).gv ?_
  rintro wf w σ' (⟨rfl, rfl, ho⟩ | ⟨n, h1, h2, rfl, h3, ho⟩)
  · exact ⟨_, _, Gv.quiet ⟨trivial, trivial⟩ ho, rfl, rfl⟩
  · refine ⟨_, _, (Gv.freeze (k := 1) h3 (xs := bytesAV b) (bytesAV_len b) (fun x hx => ?_) ?_).trans (Gv.quiet ⟨nb_bytes _ _, trivial⟩ (fun m x hm => ?_)), rfl, rfl⟩
    · obtain ⟨y, _, rfl⟩ := List.mem_map.1 hx; rfl
    · rw [bytes_flat, List.drop_zero, Nat.mul_one, List.take_of_length_le (by rw [bytesAV_len]; exact Nat.le_refl _)]
    · have hmn : m ≠ n := by
        rintro rfl
        rw [wf m h1] at hm; cases hm
      simp only [St.del]
      rw [if_neg hmn]; exact ho m x hm

/-- all else is as it was -/
structure Nx (σ σ' : St) (p m : Nat) : Prop where
  next : σ.next ≤ σ'.next
  old : ∀ n x, n ≠ p → n ≠ m → σ.res n = some x → σ'.res n = some x

theorem Nx.refl (σ : St) (p m : Nat) : Nx σ σ p m := ⟨Nat.le_refl _, fun _ _ _ _ h => h⟩

theorem Nx.trans {σ σ1 σ2 : St} {p m : Nat} (h : Nx σ σ1 p m) (k : Nx σ1 σ2 p m) : Nx σ σ2 p m := ⟨Nat.le_trans h.next k.next, fun n x h1 h2 h3 => k.old n x h1 h2 (h.old n x h1 h2 h3)⟩

theorem Nx.set {σ : St} {p m : Nat} (r : Res) : Nx σ (σ.set p r) p m := ⟨Nat.le_refl _, fun n x h1 _ h3 => by rw [St.set_other _ _ h1]; exact h3⟩

theorem Nx.setm {σ : St} {p m : Nat} (r : Res) : Nx σ (σ.set m r) p m := ⟨Nat.le_refl _, fun n x _ h2 h3 => by rw [St.set_other _ _ h2]; exact h3⟩

theorem StS.called {σ : St} {p m : Nat} {room left calls : Int} {L : Objs} (h : StS σ p m room left calls L) (l2 c2 : Int) : StS (σ.set p (.obj [.int .i64 room, .map m, .int .i64 l2, .int .i64 c2])) p m room l2 c2 L := by
  obtain ⟨ts, clk, h1, h2⟩ := h.map
  exact ⟨by simp, ⟨ts, clk, by rw [St.set_other _ _ (Ne.symm h.ne)]; exact h1, h2⟩, h.ne⟩

theorem snew_ok {room : Int} {σ : St} (hr : 1 ≤ room ∧ room ≤ 1048576) : ACalls Tryd.prog n_snew [.int .i64 room] σ (fun v σ' => ∃ p m, v = .tup [.ptr p 0, .nili] ∧ StS σ' p m room (-1) 0 [] ∧ σ.next ≤ p ∧ σ.next ≤ m ∧ p < σ'.next ∧ m < σ'.next ∧ ∀ n x, σ.res n = some x → σ'.res n = some x) := by
  refine s_snew (fun wf => ?_)
  unfold c_snew
  refine T.seq_k (fun K_h1 h1 => ?_)
  refine T.regi hm ?_
  simp only [↓reduceIte, namesOf, List.any, I.names, aopsI, astep, ev, setd, List.set, List.cons_append, List.nil_append, List.length_cons, List.length_nil, List.replicate, then_normal, Bool.or_false, Bool.false_eq_true, up_zero, Nat.reduceAdd, Nat.reduceSub]
  refine h1 _ _ ?_
  try clear h1 K_h1
  refine T.seq_k (fun K_h1 h1 => ?_)
  refine T.seq_k (fun K_h2 h2 => ?_)
  have e1 : decide (room < 1) = false := decide_eq_false (by omega)
  have e2 : decide (room > 1048576) = false := decide_eq_false (by omega)
  refine T.regi hm ?_
  simp only [↓reduceIte, namesOf, List.any, I.names, aopsI, astep, ev, setd, List.set, List.getD, List.getElem?_cons_zero, List.getElem?_cons_succ, then_normal, Option.getD_some, Bool.or_false, Bool.false_eq_true, up_zero, binv, ↓opt_def, eq_self, e1, e2]
  refine h2 _ _ ?_
  try clear h2 K_h2
  refine T.cond rfl (fun h => by cases h) (fun _ => T.skip ?_)
  refine h1 _ _ ?_
  try clear h1 K_h1
  refine T.seq_k (fun K_h1 h1 => ?_)
  refine T.regi hm ?_
  simp only [↓reduceIte, namesOf, List.any, I.names, aopsI, astep, ev, setd, List.set, List.getD, List.getElem?_cons_zero, List.getElem?_cons_succ, List.cons_append, List.nil_append, List.length_cons, List.length_nil, then_normal, Option.getD_some, Bool.or_false, Bool.or_true, Bool.false_eq_true, Nat.reduceAdd, ↓opt_def, AV.isAny, AV.cells, eq_self, fillA, Option.map, AV.fits, AV.one, List.all_cons, List.all_nil, Nat.reduceBEq, Bool.not_false, Bool.and_self, Nat.zero_add, splice, List.take, List.drop, Nat.reduceLeDiff, and_self]
  refine h1 _ _ ?_
  try clear h1 K_h1
  refine T.ret (Fin.ret rfl ⟨σ.next + 3, σ.next + 1, rfl, ⟨by simp, ⟨[], 0, ?_, rfl, .nil, fun _ h => by cases h⟩, by omega⟩, by omega, by omega, by simp, by simp, fun n x hx => ?_⟩)
  · rw [St.set_other _ _ (by omega)]; simp [objsAV]
  · have hn : n < σ.next := by
      rcases Nat.lt_or_ge n σ.next with h' | h'
      · exact h'
      · rw [wf n h'] at hx; cases hx
    rw [St.set_other _ _ (by omega), St.set_other _ _ (by omega)]; exact hx

def sizeO (k : ByteArray) (L : Objs) : Nat := ((getO k L).getD []).length

/-- what putting tells -/
def putC (room left : Int) (L : Objs) (k : ByteArray) (b : List UInt8) : Int :=
  if left = 0 then 8 else if namedB k = false then 1 else if (b.length : Int) > room - usedO L + sizeO k L then 6 else 0

set_option maxRecDepth 10000 in
set_option maxHeartbeats 2000000 in
theorem sput_ok {p m : Nat} {room left calls : Int} {L : Objs} {k : ByteArray} {b : List UInt8} {v : AV} {σ : St} (h : StS σ p m room left calls L) (hl : -1 ≤ left ∧ left ≤ 9223372036854775807) (hc : 0 ≤ calls ∧ calls < 9223372036854775807)
    (hu : usedO L ≤ 1099511627776) (hk : k.size ≤ 9223372036854775807) (hb : b.length ≤ 1099511627776) (hz : sizeO k L ≤ 1099511627776) (hr : 0 ≤ room ∧ room ≤ 1048576) (hv : BytesV σ v b) (hvp : ∀ n, v = .ref n 0 b.length → n ≠ p) :
    ACalls Tryd.prog n_sput [.ptr p 0, .str k, v] σ (fun w σ' => w = errAV (putC room left L k b) ∧ StS σ' p m room (leftB left) (calls + 1) (if putC room left L k b = 0 then putO k b L else L) ∧ Nx σ σ' p m) := by
  refine s_sput (fun wf => ?_)
  unfold c_sput
  have hv1 : BytesV (σ.set p (.obj [.int .i64 room, .map m, .int .i64 (leftB left), .int .i64 (calls + 1)])) v b := by
    rcases hv with hv | ⟨n, hn, hr⟩
    · exact .inl hv
    · exact .inr ⟨n, hn, by rw [St.set_other _ _ (hvp n hn)]; exact hr⟩
  have hS := h.called (leftB left) (calls + 1)
  have hN : Nx σ (σ.set p (.obj [.int .i64 room, .map m, .int .i64 (leftB left), .int .i64 (calls + 1)])) p m := Nx.set _
  refine T.seq_k (fun K_h1 h1 => ?_)
  refine T.regi hm ?_
  simp only [↓reduceIte, namesOf, List.any, I.names, aopsI, astep, ev, setd, List.set, List.cons_append, List.nil_append, List.length_cons, List.length_nil, List.replicate, then_normal, Bool.or_false, Bool.false_eq_true, up_zero, Nat.reduceAdd, Nat.reduceSub]
  refine h1 _ _ ?_
  try clear h1 K_h1
  refine T.seq_k (fun K_h1 h1 => ?_)
  refine T.block ?_
  refine T.seq_k (fun K_h2 h2 => ?_)
  refine T.regi hm ?_
  simp only [↓reduceIte, namesOf, List.any, I.names, aopsI, astep, ev, setd, List.set, List.getD, List.getElem?_cons_zero, List.getElem?_cons_succ, then_normal, Option.getD_some, Bool.or_false, Bool.false_eq_true, up_zero, List.map_cons, List.map_nil]
  refine (scall_ok h hl hc).mono ?_
  rintro w σ1 ⟨rfl, hσ1⟩
  rw [← hσ1] at hv1 hS hN
  clear hσ1
  try simp only []
  refine h2 _ _ ?_
  try clear h2 K_h2
  have bad : ∀ c : Int, c ≠ 0 → putC room left L k b = c → ∀ ρ' : List AV, ρ'.getD 6 .any = .iface tCode (.int .i64 c) → Fin σ [.t 6] (fun w σ' => w = errAV (putC room left L k b) ∧ StS σ' p m room (leftB left) (calls + 1) (if putC room left L k b = 0 then putO k b L else L) ∧ Nx σ σ' p m) .ret ρ' σ1 := by
    intro c hc0 hpc ρ' hρ
    refine Fin.ret (xs := [ρ'.getD 6 .any]) rfl ⟨?_, by rw [hpc, if_neg hc0]; exact hS, hN⟩
    rw [hρ, hpc, errAV_eq c hc0]; rfl
  by_cases c1 : left = 0
  · refine T.cond (b := true) (by simp [ev, c1]) (fun _ => ?_) (fun h => by cases h)
    refine T.seq_k (fun K_h2 h2 => ?_)
    refine T.regi hm ?_
    simp only [↓reduceIte, namesOf, List.any, I.names, aopsI, astep, ev, setd, List.set, List.getD, List.getElem?_cons_zero, List.getElem?_cons_succ, then_normal, Option.getD_some, Bool.or_false, Bool.false_eq_true, up_zero]
    refine h2 _ _ ?_
    try clear h2 K_h2
    exact T.ret (bad 8 (by omega) (by unfold putC; rw [if_pos c1]) _ rfl)
  refine T.cond (b := false) (by simp [ev, c1]) (fun h => by cases h) (fun _ => ?_)
  refine T.seq_k (fun K_h2 h2 => ?_)
  refine T.regi hm ?_
  simp only [↓reduceIte, namesOf, List.any, I.names, aopsI, astep, ev, setd, List.set, List.getD, List.getElem?_cons_zero, List.getElem?_cons_succ, then_normal, Option.getD_some, Bool.or_false, Bool.false_eq_true, up_zero, List.map_cons, List.map_nil]
  refine (named_ok hk).mono ?_
  rintro w σ2 ⟨rfl, rfl⟩
  try simp only []
  refine h2 _ _ ?_
  try clear h2 K_h2
  cases c2 : namedB k with
  | false =>
    refine T.cond (b := true) (by simp [ev]) (fun _ => ?_) (fun h => by cases h)
    refine T.seq_k (fun K_h2 h2 => ?_)
    refine T.regi hm ?_
    simp only [↓reduceIte, namesOf, List.any, I.names, aopsI, astep, ev, setd, List.set, List.getD, List.getElem?_cons_zero, List.getElem?_cons_succ, then_normal, Option.getD_some, Bool.or_false, Bool.false_eq_true, up_zero]
    refine h2 _ _ ?_
    try clear h2 K_h2
    exact T.ret (bad 1 (by omega) (by unfold putC; rw [if_neg c1, if_pos c2]) _ rfl)
  | true =>
  refine T.cond (b := false) (by simp [ev]) (fun h => by cases h) (fun _ => ?_)
  obtain ⟨ts, clk, hm', htl, hnd, hck⟩ := hS.map
  have hf := objs_find k L
  have hw1 : IntKind.i64.wrap (room - (usedO L : Int)) = room - (usedO L : Int) := wrap64 (by omega) (by omega)
  have hw2 : IntKind.i64.wrap (room - (usedO L : Int) + (sizeO k L : Int)) = room - (usedO L : Int) + (sizeO k L : Int) := wrap64 (by omega) (by omega)
  have hv2 := hv1
  refine T.seq_k (fun K_h2 h2 => ?_)
  refine T.regt hm (tbl := []) Tbl.ok_nil ?_
  refine aopsT_cut 2 (fun K_c h_c => ?_)
  try simp only [↓reduceIte, namesOf, List.any, I.names, aopsT, qstep, astep, ev, setd, List.set, List.getD, List.getElem?_cons_zero, List.getElem?_cons_succ, Option.getD_some, Bool.or_false, Bool.false_eq_true, up_zero, List.take_succ_cons, List.take_zero]
  rcases hv1 with ⟨g, rfl, _⟩ | ⟨n, rfl, _⟩
  all_goals
    try simp only [bytesAV_len]
    refine h_c _ _ ?_
    clear h_c K_c
    simp only [List.drop_succ_cons, List.drop_zero, Nat.zero_add]
    refine aopsT_cut 6 (fun K_c h_c => ?_)
    try simp only [aopsT, qstep, qget, Tbl.get, astep, ev, setd, List.set, List.getD, List.getElem?_cons_zero, List.getElem?_cons_succ, Option.getD_some, Nat.reduceAdd, ↓opt_def, ldc, List.map_cons, List.map_nil, List.take_succ_cons, List.take_zero, hS.obj]
    refine ⟨_, sused_ok hS hu, ?_⟩
    refine h_c _ _ ?_
    clear h_c K_c
    simp only [List.drop_succ_cons, List.drop_zero, Nat.reduceAdd]
    cases hg : getO k L
    all_goals
      rw [hg] at hf
      have hsz : sizeO k L = (((getO k L).getD []).length) := rfl
      rw [hg] at hsz
      simp only [Option.getD_none, Option.getD_some, List.length_nil] at hsz
      rw [hsz] at hw2
      try simp only [↓reduceIte, aopsT, qstep, astep, ev, setd, List.set, List.getD, List.getElem?_cons_zero, List.getElem?_cons_succ, List.length_nil, then_normal, Option.getD_some, Bool.false_eq_true, Nat.reduceAdd, binv, ↓opt_def, ldc, eq_self, hS.obj, hm', kshape, hf, Option.map_none, Option.map_some, hw1, hw2, bytesAV_len, List.length_nil]
      refine h2 _ _ ?_
      try clear h2 K_h2
      by_cases c3 : (b.length : Int) > room - usedO L + sizeO k L
      · refine T.cond (b := true) (by rw [hsz] at c3; simp [ev]; omega) (fun _ => ?_) (fun h => by cases h)
        refine T.seq_k (fun K_h2 h2 => ?_)
        refine T.regi hm ?_
        simp only [↓reduceIte, namesOf, List.any, I.names, aopsI, astep, ev, setd, List.set, List.getD, List.getElem?_cons_zero, List.getElem?_cons_succ, then_normal, Option.getD_some, Bool.or_false, Bool.false_eq_true, up_zero]
        refine h2 _ _ ?_
        try clear h2 K_h2
        exact T.ret (bad 6 (by omega) (by unfold putC; rw [if_neg c1, if_neg (by rw [c2]; simp), if_pos c3]) _ rfl)
      · have hpc : putC room left L k b = 0 := by unfold putC; rw [if_neg c1, if_neg (by rw [c2]; simp), if_neg c3]
        refine T.cond (b := false) (by rw [hsz] at c3; simp [ev]; omega) (fun h => by cases h) (fun _ => T.skip ?_)
        try simp only [then_normal, inBlock_normal, inBlock_normal]
        refine h1 _ _ ?_
        try clear h1 K_h1
        refine T.seq_k (fun K_h1 h1 => ?_)
        refine T.regt hm (tbl := []) Tbl.ok_nil ?_
        refine aopsT_cut 7 (fun K_c h_c => ?_)
        try simp only [↓reduceIte, namesOf, List.any, I.names, aopsT, qstep, qget, Tbl.get, astep, ev, setd, List.set, List.getD, List.getElem?_cons_zero, List.getElem?_cons_succ, Option.getD_some, Bool.or_false, Bool.false_eq_true, up_zero, Nat.reduceAdd, ↓opt_def, ldc, List.map_cons, List.map_nil, List.take_succ_cons, List.take_zero, hS.obj, up_zero]
        refine ⟨_, clone_q hb hv2, ?_⟩
        refine h_c _ _ ?_
        clear h_c K_c
        simp only [List.drop_succ_cons, List.drop_zero, Nat.zero_add]
        try simp only [↓reduceIte, aopsT, qstep, astep, ev, setd, List.getD, List.getElem?_cons_zero, List.getElem?_cons_succ, then_normal, Option.getD_some, eq_self, hm', kshape, hf, Option.map_none, Option.map_some, objs_put]
        refine h1 _ _ ?_
        try clear h1 K_h1
        refine T.seq_k (fun K_h1 h1 => ?_)
        refine T.regi hm ?_
        simp only [↓reduceIte, namesOf, List.any, I.names, aopsI, astep, ev, setd, List.set, then_normal, Bool.or_false, Bool.false_eq_true, up_zero]
        refine h1 _ _ ?_
        try clear h1 K_h1
        refine T.ret (Fin.ret rfl ⟨by rw [hpc]; rfl, ?_, hN.trans (Nx.setm _)⟩)
        rw [if_pos hpc]
        refine ⟨by rw [St.set_other _ _ hS.ne]; exact hS.obj, ⟨_, _, by rw [St.set_same], ?_⟩, hS.ne⟩
        have hpl := put_len k b L
        rw [hg] at hpl
        simp only [Option.isSome_none, Option.isSome_some, Bool.false_eq_true, if_true, if_false] at hpl
        first
          | exact ⟨by rw [hpl]; exact htl, hnd, hck⟩
          | exact ⟨by rw [hpl, List.length_append, htl]; rfl, List.nodup_append.2 ⟨hnd, by simp, fun t ht u hu => by simp only [List.mem_singleton] at hu; subst hu; exact Nat.ne_of_lt (hck t ht)⟩,
              fun t ht => by rcases List.mem_append.1 ht with ht | ht; exact Nat.lt_succ_of_lt (hck t ht); simp only [List.mem_singleton] at ht; subst ht; exact Nat.lt_succ_self _⟩

/-- what getting tells -/
def getC (left : Int) (L : Objs) (k : ByteArray) : Int := if left = 0 then 8 else if (getO k L).isNone then 4 else 0

set_option maxRecDepth 10000 in
set_option maxHeartbeats 2000000 in
theorem sget_ok {p m : Nat} {room left calls : Int} {L : Objs} {k : ByteArray} {σ : St} (h : StS σ p m room left calls L) (hl : -1 ≤ left ∧ left ≤ 9223372036854775807) (hc : 0 ≤ calls ∧ calls < 9223372036854775807)
    (hz : ∀ b, getO k L = some b → b.length ≤ 1099511627776) :
    ACalls Tryd.prog n_sget [.ptr p 0, .str k] σ (fun w σ' => w = .tup [.sl (bytesAV (if getC left L k = 0 then (getO k L).getD [] else [])) .none, errAV (getC left L k)] ∧ StS σ' p m room (leftB left) (calls + 1) L ∧ Nx σ σ' p m) := by
  refine s_sget (fun wf => ?_)
  unfold c_sget
  have hS := h.called (leftB left) (calls + 1)
  have hN : Nx σ (σ.set p (.obj [.int .i64 room, .map m, .int .i64 (leftB left), .int .i64 (calls + 1)])) p m := Nx.set _
  obtain ⟨ts, clk, hm', htl, hnd, hck⟩ := h.map
  have hf := objs_find k L
  refine T.seq_k (fun K_h1 h1 => ?_)
  refine T.regi hm ?_
  simp only [↓reduceIte, namesOf, List.any, I.names, aopsI, astep, ev, setd, List.set, List.cons_append, List.nil_append, List.length_cons, List.length_nil, List.replicate, then_normal, Bool.or_false, Bool.false_eq_true, up_zero, Nat.reduceAdd, Nat.reduceSub]
  refine h1 _ _ ?_
  try clear h1 K_h1
  refine T.seq_k (fun K_h1 h1 => ?_)
  cases hg : getO k L with
  | none =>
    rw [hg] at hf
    refine T.regi hm ?_
    simp only [↓reduceIte, namesOf, List.any, I.names, aopsI, astep, ev, setd, List.set, List.getD, List.getElem?_cons_zero, List.getElem?_cons_succ, then_normal, Option.getD_some, Option.getD_none, Bool.or_false, Bool.false_eq_true, up_zero, Nat.reduceAdd, ↓opt_def, ldc, eq_self, h.obj, hm', kshape, hf, Option.map_none]
    refine h1 _ _ ?_
    try clear h1 K_h1
    refine T.seq_k (fun K_h1 h1 => ?_)
    refine T.block ?_
    refine T.seq_k (fun K_h2 h2 => ?_)
    refine T.regi hm ?_
    simp only [↓reduceIte, namesOf, List.any, I.names, aopsI, astep, ev, setd, List.set, List.getD, List.getElem?_cons_zero, List.getElem?_cons_succ, then_normal, Option.getD_some, Bool.or_false, Bool.false_eq_true, up_zero, List.map_cons, List.map_nil]
    refine (scall_ok h hl hc).mono ?_
    rintro w σ1 ⟨rfl, hσ1⟩
    rw [← hσ1] at hS hN
    clear hσ1
    try simp only []
    refine h2 _ _ ?_
    try clear h2 K_h2
    by_cases c1 : left = 0
    · have hgc : getC left L k = 8 := by unfold getC; rw [if_pos c1]
      refine T.cond (b := true) (by simp [ev, c1]) (fun _ => ?_) (fun h => by cases h)
      refine T.seq_k (fun K_h2 h2 => ?_)
      refine T.regi hm ?_
      simp only [↓reduceIte, namesOf, List.any, I.names, aopsI, astep, ev, setd, List.set, List.getD, List.getElem?_cons_zero, List.getElem?_cons_succ, then_normal, Option.getD_some, Bool.or_false, Bool.false_eq_true, up_zero]
      refine h2 _ _ ?_
      try clear h2 K_h2
      exact T.ret (Fin.retw rfl (Wk.tup2 (Wk.sl _ _)) ⟨by rw [hgc]; rfl, hS, hN⟩)
    · have hgc : getC left L k = 4 := by unfold getC; rw [if_neg c1, hg]; rfl
      refine T.cond (b := false) (by simp [ev, c1]) (fun h => by cases h) (fun _ => ?_)
      refine T.seq_k (fun K_h2 h2 => ?_)
      refine T.regi hm ?_
      simp only [↓reduceIte, namesOf, List.any, I.names, aopsI, astep, ev, setd, List.set, List.getD, List.getElem?_cons_zero, List.getElem?_cons_succ, then_normal, Option.getD_some, Bool.or_false, Bool.false_eq_true, up_zero]
      refine h2 _ _ ?_
      try clear h2 K_h2
      refine T.cond rfl (fun _ => ?_) (fun h => by cases h)
      refine T.seq_k (fun K_h2 h2 => ?_)
      refine T.regi hm ?_
      simp only [↓reduceIte, namesOf, List.any, I.names, aopsI, astep, ev, setd, List.set, List.getD, List.getElem?_cons_zero, List.getElem?_cons_succ, then_normal, Option.getD_some, Bool.or_false, Bool.false_eq_true, up_zero]
      refine h2 _ _ ?_
      try clear h2 K_h2
      exact T.ret (Fin.retw rfl (Wk.tup2 (Wk.sl _ _)) ⟨by rw [hgc]; rfl, hS, hN⟩)
  | some b =>
    rw [hg] at hf
    have hbl := hz b hg
    refine T.regi hm ?_
    simp only [↓reduceIte, namesOf, List.any, I.names, aopsI, astep, ev, setd, List.set, List.getD, List.getElem?_cons_zero, List.getElem?_cons_succ, then_normal, Option.getD_some, Bool.or_false, Bool.false_eq_true, up_zero, Nat.reduceAdd, ↓opt_def, ldc, eq_self, h.obj, hm', kshape, hf, Option.map_some]
    refine h1 _ _ ?_
    try clear h1 K_h1
    refine T.seq_k (fun K_h1 h1 => ?_)
    refine T.block ?_
    refine T.seq_k (fun K_h2 h2 => ?_)
    refine T.regi hm ?_
    simp only [↓reduceIte, namesOf, List.any, I.names, aopsI, astep, ev, setd, List.set, List.getD, List.getElem?_cons_zero, List.getElem?_cons_succ, then_normal, Option.getD_some, Bool.or_false, Bool.false_eq_true, up_zero, List.map_cons, List.map_nil]
    refine (scall_ok h hl hc).mono ?_
    rintro w σ1 ⟨rfl, hσ1⟩
    rw [← hσ1] at hS hN
    clear hσ1
    try simp only []
    refine h2 _ _ ?_
    try clear h2 K_h2
    by_cases c1 : left = 0
    · have hgc : getC left L k = 8 := by unfold getC; rw [if_pos c1]
      refine T.cond (b := true) (by simp [ev, c1]) (fun _ => ?_) (fun h => by cases h)
      refine T.seq_k (fun K_h2 h2 => ?_)
      refine T.regi hm ?_
      simp only [↓reduceIte, namesOf, List.any, I.names, aopsI, astep, ev, setd, List.set, List.getD, List.getElem?_cons_zero, List.getElem?_cons_succ, then_normal, Option.getD_some, Bool.or_false, Bool.false_eq_true, up_zero]
      refine h2 _ _ ?_
      try clear h2 K_h2
      exact T.ret (Fin.retw rfl (Wk.tup2 (Wk.sl _ _)) ⟨by rw [hgc]; rfl, hS, hN⟩)
    · have hgc : getC left L k = 0 := by unfold getC; rw [if_neg c1, hg]; rfl
      refine T.cond (b := false) (by simp [ev, c1]) (fun h => by cases h) (fun _ => ?_)
      refine T.seq_k (fun K_h2 h2 => ?_)
      refine T.regi hm ?_
      simp only [↓reduceIte, namesOf, List.any, I.names, aopsI, astep, ev, setd, List.set, List.getD, List.getElem?_cons_zero, List.getElem?_cons_succ, then_normal, Option.getD_some, Bool.or_false, Bool.false_eq_true, up_zero]
      refine h2 _ _ ?_
      try clear h2 K_h2
      refine T.cond rfl (fun h => by cases h) (fun _ => T.skip ?_)
      try simp only [then_normal, inBlock_normal, inBlock_normal]
      refine h1 _ _ ?_
      try clear h1 K_h1
      refine T.seq_k (fun K_h1 h1 => ?_)
      refine T.regi hm ?_
      simp only [↓reduceIte, namesOf, List.any, I.names, aopsI, astep, ev, setd, List.set, List.getD, List.getElem?_cons_zero, List.getElem?_cons_succ, then_normal, Option.getD_some, Bool.or_false, Bool.false_eq_true, up_zero, List.map_cons, List.map_nil]
      refine (clone_q hbl (.inl ⟨_, rfl, by simp⟩)).mono ?_
      rintro w σ2 ⟨rfl, rfl⟩
      try simp only [↓reduceIte, namesOf, List.any, I.names, aops, aopsI, aopsT, qstep, CPt, qget, Tbl.get, astep, ev, setd, List.set, List.getD, List.getElem?_cons_zero, List.getElem?_cons_succ, List.getElem?_nil, List.cons_append, List.nil_append, List.length_cons, List.length_nil, List.replicate, then_normal, inBlock_normal, Option.getD_some, Option.getD_none, Bool.or_false, Bool.or_true, Bool.true_or, Bool.false_or, Bool.false_eq_true, if_false, if_true, up_zero, Nat.reduceAdd, Nat.reduceSub, binv, ↓opt_def, AV.isAny, AV.cells, ldc, List.map_cons, List.map_nil, St.set_next, St.set_same, St.up_next, Int.natCast_nonneg, lt_len, le_len, Int.toNat_natCast, true_and, and_true, eq_self, reduceCtorEq, decide_true, List.length_singleton, er_int, er_bool, er_str, srcR, up_zero]
      refine h1 _ _ ?_
      try clear h1 K_h1
      exact T.ret (Fin.ret rfl ⟨by simp only [hgc, hg, if_true, Option.getD_some]; rfl, hS, hN⟩)

end Go.VL

namespace Go.VL

open Go.Proofs

theorem get_put_same (k : ByteArray) (v : List UInt8) : ∀ L : Objs, getO k (putO k v L) = some v
  | [] => by simp [putO, getO]
  | e :: r => by
    unfold putO
    by_cases h : k = e.1
    · rw [if_pos h]; simp [getO]
    · rw [if_neg h, getO, if_neg h]; exact get_put_same k v r

theorem get_put_ne {k k' : ByteArray} (v : List UInt8) (hk : k ≠ k') : ∀ L : Objs, getO k (putO k' v L) = getO k L
  | [] => by simp [putO, getO, hk]
  | e :: r => by
    unfold putO
    by_cases h : k' = e.1
    · rw [if_pos h, getO, getO, if_neg hk, if_neg (h ▸ hk)]
    · rw [if_neg h, getO, getO]
      by_cases h2 : k = e.1
      · rw [if_pos h2, if_pos h2]
      · rw [if_neg h2, if_neg h2]; exact get_put_ne v hk r

theorem used_cons (e : ByteArray × List UInt8) (r : Objs) : usedO (e :: r) = e.2.length + usedO r := by simp [usedO]

theorem used_put (k : ByteArray) (v : List UInt8) : ∀ L : Objs, usedO (putO k v L) + sizeO k L = usedO L + v.length
  | [] => by simp [putO, usedO, sizeO, getO]
  | e :: r => by
    have ih := used_put k v r
    unfold putO; unfold sizeO at ih ⊢
    by_cases h : k = e.1
    · rw [if_pos h, getO, if_pos h, used_cons, used_cons]; simp only [Option.getD_some]; omega
    · rw [if_neg h, getO, if_neg h, used_cons, used_cons]; omega

theorem size_le (k : ByteArray) : ∀ L : Objs, sizeO k L ≤ usedO L
  | [] => by simp [sizeO, getO]
  | e :: r => by
    have ih := size_le k r
    unfold sizeO at *
    rw [used_cons]
    by_cases h : k = e.1
    · rw [getO, if_pos h]; simp
    · rw [getO, if_neg h]; omega

theorem get_le {k : ByteArray} {L : Objs} {b : List UInt8} (h : getO k L = some b) : b.length ≤ usedO L := by
  have := size_le k L
  unfold sizeO at this
  rw [h] at this; exact this

/-- a deed -/
structure Dd where
  what : Int
  name : ByteArray
  n : Int
  x : Int
  b : List UInt8

def Dd.av (d : Dd) : AV := .agg [.int .i64 d.what, .str d.name, .int .i64 d.n, .int .u8 d.x, .sl (bytesAV d.b) .none]

def Dd.ok (d : Dd) : Prop := (-9223372036854775808 ≤ d.what ∧ d.what ≤ 9223372036854775807) ∧ (-9223372036854775808 ≤ d.n ∧ d.n ≤ 9223372036854775807) ∧ (0 ≤ d.x ∧ d.x ≤ 255) ∧ d.name.size ≤ 9223372036854775807 ∧ d.b.length ≤ 9223372036854775807

end Go.VL

namespace Go.VL

open Go.Proofs

/-- a span -/
structure Sp where
  tr : Nat
  id : Nat
  st : Int
  en : Int
  da : List UInt8
  deriving DecidableEq

def Sp.av (s : Sp) : AV := .agg [.int .u64 (s.tr : Int), .int .u64 (s.id : Int), .int .i64 s.st, .int .i64 s.en, .sl (bytesAV s.da) .none]

/-- a trace -/
structure Tc where
  id : Nat
  sp : List Sp
  deriving DecidableEq

def Tc.av (t : Tc) : AV := .agg [.int .u64 (t.id : Int), .sl (t.sp.map Sp.av) .none]

end Go.VL

namespace Go.VL

/-- an entry of a heap: what it has, its row, when it was pushed -/
structure En (α : Type) where
  x : α
  row : Nat
  turn : Nat

section

variable {α : Type} {key : α → Int}

def aheadE (key : α → Int) (a b : En α) : Bool := decide (key a.x < key b.x ∨ key a.x = key b.x ∧ (a.row < b.row ∨ a.row = b.row ∧ a.turn < b.turn))

/-- none is ahead of the first one -/
def leE (key : α → Int) (a b : En α) : Prop := aheadE key b a = false

theorem leE.refl (a : En α) : leE key a a := by
  unfold leE aheadE; simp only [decide_eq_false_iff_not]; omega

theorem leE.trans {a b c : En α} (h : leE key a b) (k : leE key b c) : leE key a c := by
  unfold leE aheadE at *; simp only [decide_eq_false_iff_not] at *; omega

theorem ahead_le {a b : En α} (h : aheadE key a b = true) : leE key a b := by
  unfold leE aheadE at *; simp only [decide_eq_false_iff_not, decide_eq_true_eq] at *; omega

/-- each one is behind the one at half its place -/
def HeapL (key : α → Int) (l : List (En α)) : Prop := ∀ j a b, 0 < j → l[j]? = some b → l[(j - 1) / 2]? = some a → leE key a b

theorem HeapL.nil : HeapL key ([] : List (En α)) := by
  intro j a b _ h _
  simp at h

/-- two change places -/
def sw (l : List (En α)) (i k : Nat) (a b : En α) : List (En α) := (l.set i b).set k a

theorem sw_get {l : List (En α)} {i k : Nat} {a b : En α} (ha : l[i]? = some a) (hb : l[k]? = some b) (j : Nat) : (sw l i k a b)[j]? = if j = k then some a else if j = i then some b else l[j]? := by
  have hi := (List.getElem?_eq_some_iff.1 ha).1
  have hk := (List.getElem?_eq_some_iff.1 hb).1
  unfold sw
  rw [List.getElem?_set, List.getElem?_set]
  by_cases h1 : k = j
  · subst h1; simp [hk]
  · have h1' : ¬ j = k := fun e => h1 e.symm
    simp only [h1, h1', if_false]
    by_cases h2 : i = j
    · subst h2; simp [hi]
    · have h2' : ¬ j = i := fun e => h2 e.symm
      simp only [h2, h2', if_false]

/-! ### Pushing -/

def Rise (key : α → Int) (i : Nat) (l : List (En α)) : Prop :=
  (∀ j a b, 0 < j → j ≠ i → l[j]? = some b → l[(j - 1) / 2]? = some a → leE key a b) ∧
  (∀ j a b, 0 < j → 0 < i → (j - 1) / 2 = i → l[j]? = some b → l[(i - 1) / 2]? = some a → leE key a b)

theorem Rise.step {l : List (En α)} {i : Nat} {a b : En α} (hU : Rise key i l) (hi : 0 < i) (ha : l[i]? = some a) (hb : l[(i - 1) / 2]? = some b) (hab : aheadE key a b = true) : Rise key ((i - 1) / 2) (sw l i ((i - 1) / 2) a b) := by
  have hg := sw_get ha hb
  have hle := ahead_le hab
  obtain ⟨u1, u2⟩ := hU
  refine ⟨fun j x y hj hne hy hx => ?_, fun j x y hj hp0 hp hy hx => ?_⟩
  · rw [hg, if_neg hne] at hy
    rw [hg] at hx
    by_cases h1 : j = i
    · subst h1
      rw [if_pos rfl] at hy hx
      cases hy; cases hx; exact hle
    · rw [if_neg h1] at hy
      by_cases h2 : (j - 1) / 2 = (i - 1) / 2
      · rw [if_pos h2] at hx; cases hx
        exact hle.trans (u1 j b y hj h1 hy (by rw [h2]; exact hb))
      · rw [if_neg h2] at hx
        by_cases h3 : (j - 1) / 2 = i
        · rw [if_pos h3] at hx; cases hx
          exact u2 j b y hj hi h3 hy hb
        · rw [if_neg h3] at hx
          exact u1 j x y hj h1 hy hx
  · rw [hg] at hx hy
    rw [if_neg (by omega), if_neg (by omega)] at hx
    have hxb : leE key x b := u1 ((i - 1) / 2) x b hp0 (by omega) hb hx
    rw [if_neg (by omega)] at hy
    by_cases h1 : j = i
    · rw [if_pos h1] at hy; cases hy; exact hxb
    · rw [if_neg h1] at hy
      exact hxb.trans (u1 j b y hj h1 hy (by rw [hp]; exact hb))

theorem Rise.done {l : List (En α)} {i : Nat} (hU : Rise key i l) (h : 0 < i → ∀ a b, l[i]? = some a → l[(i - 1) / 2]? = some b → aheadE key a b = false) : HeapL key l := by
  intro j a b hj hb ha
  by_cases h1 : j = i
  · subst h1; exact h hj b a hb ha
  · exact hU.1 j a b hj h1 hb ha

/-! ### Popping -/

def Sink (key : α → Int) (i : Nat) (l : List (En α)) : Prop :=
  (∀ j a b, 0 < j → (j - 1) / 2 ≠ i → l[j]? = some b → l[(j - 1) / 2]? = some a → leE key a b) ∧
  (∀ j a b, 0 < j → 0 < i → (j - 1) / 2 = i → l[j]? = some b → l[(i - 1) / 2]? = some a → leE key a b)

theorem Sink.step {l : List (En α)} {i c : Nat} {a b : En α} (hD : Sink key i l) (hc0 : 0 < c) (hc : (c - 1) / 2 = i) (ha : l[i]? = some a) (hb : l[c]? = some b) (hba : leE key b a)
    (hmin : ∀ j y, 0 < j → (j - 1) / 2 = i → l[j]? = some y → leE key b y) : Sink key c (sw l i c a b) := by
  have hg := sw_get ha hb
  obtain ⟨d1, d2⟩ := hD
  refine ⟨fun j x y hj hne hy hx => ?_, fun j x y hj hp0 hp hy hx => ?_⟩
  · rw [hg] at hy hx
    rw [if_neg hne] at hx
    by_cases h1 : j = c
    · rw [if_pos h1] at hy; cases hy
      rw [h1, if_pos hc] at hx; cases hx
      exact hba
    · rw [if_neg h1] at hy
      by_cases h2 : j = i
      · rw [if_pos h2] at hy; cases hy
        rw [if_neg (by omega)] at hx
        subst h2
        exact d2 c x b hc0 hj hc hb hx
      · rw [if_neg h2] at hy
        by_cases h3 : (j - 1) / 2 = i
        · rw [if_pos h3] at hx; cases hx
          exact hmin j y hj h3 hy
        · rw [if_neg h3] at hx
          exact d1 j x y hj h3 hy hx
  · rw [hg] at hy hx
    rw [hc, if_neg (by omega), if_pos rfl] at hx; cases hx
    rw [if_neg (by omega), if_neg (by omega)] at hy
    exact d1 j b y hj (by omega) hy (by rw [hp]; exact hb)

theorem Sink.done {l : List (En α)} {i : Nat} (hD : Sink key i l) (h : ∀ a b j, 0 < j → (j - 1) / 2 = i → l[i]? = some a → l[j]? = some b → leE key a b) : HeapL key l := by
  intro j a b hj hb ha
  by_cases h1 : (j - 1) / 2 = i
  · exact h a b j hj h1 (by rw [← h1]; exact ha) hb
  · exact hD.1 j a b hj h1 hb ha

end

/-! ### Rows of elements of k cells -/

section

variable {β : Type} {f : β → List AV} {k : Nat}

theorem flatk_len (hf : ∀ b, (f b).length = k) (l : List β) : (l.flatMap f).length = l.length * k := by
  induction l with
  | nil => simp
  | cons b l ih => simp only [List.flatMap_cons, List.length_append, hf, ih, List.length_cons, Nat.add_mul]; omega

theorem flatk_take (hf : ∀ b, (f b).length = k) : ∀ (l : List β) (n : Nat), (l.flatMap f).take (n * k) = (l.take n).flatMap f
  | [], n => by simp
  | b :: l, 0 => by simp
  | b :: l, n + 1 => by
    have e : (n + 1) * k = (f b).length + n * k := by rw [hf, Nat.add_mul]; omega
    rw [List.flatMap_cons, e, List.take_length_add_append, flatk_take hf l n, List.take_succ_cons, List.flatMap_cons]

theorem flatk_drop (hf : ∀ b, (f b).length = k) : ∀ (l : List β) (n : Nat), (l.flatMap f).drop (n * k) = (l.drop n).flatMap f
  | [], n => by simp
  | b :: l, 0 => by simp
  | b :: l, n + 1 => by
    have e : (n + 1) * k = (f b).length + n * k := by rw [hf, Nat.add_mul]; omega
    rw [List.flatMap_cons, e, List.drop_length_add_append, flatk_drop hf l n, List.drop_succ_cons]

end

end Go.VL
