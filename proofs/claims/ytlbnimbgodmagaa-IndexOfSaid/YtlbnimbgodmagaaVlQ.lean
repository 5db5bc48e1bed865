/- The value logic, part Q: regions, and all code. -/
import Derived.Test.YtlbnimbgodmagaaVlP
import Derived.Tactics
import Derived.LoopN
namespace Go.VL

/-- Where the code of a function stands: what has become since its entry. -/
structure Run (κ0 : Kx) (w0 : World) (σ0 : St) (F : Nat → Prop) (κ : Kx) (a : Act) (w : World) (ρ : List AV) (σ : St) : Prop where
  inv : Inv w0 F κ a w ρ σ
  ext : Ext κ0 w0 κ w
  dom : ∀ n, κ.dom n → κ0.dom n ∨ σ0.next ≤ n
  next : σ0.next ≤ σ.next

section
variable {P : Program} {κ0 : Kx} {w0 : World} {σ0 : St} {F : Nat → Prop} {a : Act} {w : World} {κ : Kx} {ρ : List AV} {σ : St}

theorem Run.put (h : Run κ0 w0 σ0 F κ a w ρ σ) {nm : Nat} {κ' : Kx} {w' : World} {σ' : St} (hp : Post w0 F κ w σ nm κ' w' σ') (hnm : σ0.next ≤ nm) {v : Value} {x : AV} (hv : V κ' w' v x) (d : Option Nat) :
    Run κ0 w0 σ0 F κ' (a.put d v) w' (setd ρ x d) σ' where
  inv := ⟨hp.r, hp.fr, by
    have he := h.inv.env.mono hp.ext
    cases d with
    | none => exact he
    | some d => simpa [Act.put, setd] using he.set d hv, by cases d <;> exact h.inv.defers⟩
  ext := h.ext.trans hp.ext
  dom := fun n hn => by
    rcases hp.dom n hn with hx | hx | hx
    · exact h.dom n hx
    · right; omega
    · right; have := h.next; omega
  next := Nat.le_trans h.next hp.next

theorem Run.drawn (h : Run κ0 w0 σ0 F κ a w ρ σ) (n : Nat) : Run κ0 w0 σ0 F κ a { w with drawn := n } ρ σ := by
  have e : Ext κ w κ { w with drawn := n } := ⟨fun _ _ x => x, fun _ _ => rfl, fun _ _ => rfl, fun _ _ => rfl, fun _ _ => rfl, fun _ x => x, fun _ _ _ => rfl⟩
  refine ⟨⟨h.inv.r.step e h.inv.r.dom h.inv.r.imm (fun n r hr => .inl ⟨hr, rfl, fun _ x => x⟩), h.inv.fr.drawn n, h.inv.env.mono e, h.inv.defers⟩, h.ext.trans e, h.dom, h.next⟩

/-- the guard of an operation, and that of its instruction -/
def Gr (all : Array Oper) (o : Oper) (o' : O) : Prop := (o.guard = none ∧ o'.g = none) ∨ ∃ j b d, o.guard = some (j, b) ∧ (all[j]?).bind (·.dst) = some d ∧ o'.g = some (d, b)

theorem wanted_ok (h : Inv w0 F κ a w ρ σ) {all : Array Oper} {o : Oper} {o' : O} (hg : Gr all o o') {b : Bool} (hb : gd ρ o'.g = some b) : Region.wanted o (yielded all a.tmps) = b := by
  rcases hg with ⟨g1, g2⟩ | ⟨j, c, d, g1, g2, g3⟩
  · rw [g2] at hb; simp only [gd, Option.some.injEq] at hb; subst hb
    simp [Region.wanted, g1]
  · rw [g3] at hb
    simp only [gd] at hb
    have hv := h.env.get d
    have key : ∀ u, V κ w (a.tmps.getD d undef) u → ρ.getD d .any = u → u ≠ .any → a.tmps[d]? = some (a.tmps.getD d undef) := by
      intro u _ hu hne
      have hlen := h.env.length
      have : d < ρ.length := by
        rcases Nat.lt_or_ge d ρ.length with hlt | hge
        · exact hlt
        · exfalso; rw [List.getD_eq_getElem?_getD, List.getElem?_eq_none hge] at hu; exact hne hu.symm
      have hlt : d < a.tmps.size := by rw [← hlen] at this; simpa using this
      simp [hlt]
    have hv' : V κ w (a.tmps.getD d undef) (ρ.getD d .any) := by simpa using hv
    split at hb
    · rename_i c' hc
      simp only [Option.some.injEq] at hb; subst hb
      rw [hc] at hv'
      have := key _ hv' hc (by simp)
      rw [hv'.bool_inv] at this
      simp only [Region.wanted, g1, yielded, g2, Option.bind_some, this]
      cases c' <;> cases c <;> rfl
    · rename_i hc
      simp only [Option.some.injEq] at hb; subst hb
      rw [hc] at hv'
      have := key _ hv' hc (by simp)
      obtain ⟨u, e, hu⟩ := hv'.tup_inv
      rw [e] at this
      simp only [Region.wanted, g1, yielded, g2, Option.bind_some, this]
      rfl
    · cases hb

theorem one_ok (h : Run κ0 w0 σ0 F κ a w ρ σ) {all : Array Oper} {A : Ann} {q : Bool} {r i nm : Nat} {o : Oper} {o' : O} (hc : compileOp P A q r i o = some o'.i) (hd : o'.dst = o.dst) (hg : Gr all o o')
    (hN : o'.i.names = true → ¬ κ.dom nm ∧ nm < σ.next) (hnm : σ0.next ≤ nm) {K : List AV → St → Prop} (hk : aone (ACalls P) nm o' ρ σ K) {next : Act → World → Prop} {Q : Exit → Act → World → Prop}
    (hn : ∀ a' w' κ' ρ' σ', Run κ0 w0 σ0 F κ' a' w' ρ' σ' → (∀ n, κ'.dom n → κ.dom n ∨ n = nm ∨ σ.next ≤ n) → σ.next ≤ σ'.next → K ρ' σ' → next a' w') :
    if Region.wanted o (yielded all a.tmps) then o.wp P a w next Q else next (a.put o.dst undef) w := by
  unfold aone at hk
  split at hk
  · rename_i hb
    rw [wanted_ok h.inv hg hb]
    simp only [if_true]
    refine step_ok h.inv hN hc hk next Q (fun v w' κ' x σ' hp hv hkk => ?_)
    rw [← hd]
    exact hn _ _ κ' _ σ' (h.put hp hnm hv o'.dst) hp.dom hp.next hkk
  · rename_i hb
    rw [wanted_ok h.inv hg hb]
    simp only [Bool.false_eq_true, if_false]
    rw [← hd]
    exact hn _ _ κ _ σ (h.put (nm := nm) h.inv.refl hnm (.tup [] [] .nil) o'.dst) (fun n hx => .inl hx) (Nat.le_refl _) hk
  · exact hk.elim

theorem compileOps_get {A : Ann} {q : Bool} {r : Nat} {all : Array Oper} : ∀ {k : Nat} {ops : List Oper} {l : List O}, compileOps P A q r all k ops = some l → l.length = ops.length ∧ ∀ j o, ops[j]? = some o → ∃ o', l[j]? = some o' ∧ compileOp P A q r (k + j) o = some o'.i ∧ o'.dst = o.dst ∧ Gr all o o'
  | k, [], l, h => by simp only [compileOps, Option.some.injEq] at h; subst h; exact ⟨rfl, fun j o hj => by simp at hj⟩
  | k, p :: rest, l, h => by
    simp only [compileOps] at h
    split at h
    · rename_i x l' hx hl
      obtain ⟨g1, g2⟩ := compileOps_get hl
      have key : ∀ y : O, l = y :: l' → compileOp P A q r k p = some y.i → y.dst = p.dst → Gr all p y → l.length = (p :: rest).length ∧ ∀ j o, (p :: rest)[j]? = some o → ∃ o', l[j]? = some o' ∧ compileOp P A q r (k + j) o = some o'.i ∧ o'.dst = o.dst ∧ Gr all o o' := by
        rintro y rfl y1 y2 y3
        refine ⟨by simp [g1], fun j o hj => ?_⟩
        cases j with
        | zero => simp only [List.getElem?_cons_zero, Option.some.injEq] at hj; subst hj; exact ⟨y, rfl, y1, y2, y3⟩
        | succ j =>
          simp only [List.getElem?_cons_succ] at hj ⊢
          have := g2 j o hj
          rw [Nat.add_assoc, Nat.add_comm 1 j] at this
          exact this
      split at h
      · rename_i hgd
        simp only [Option.some.injEq] at h
        exact key _ h.symm hx rfl (.inl ⟨hgd, rfl⟩)
      · rename_i j b hgd
        split at h
        · rename_i d hdd
          simp only [Option.some.injEq] at h
          exact key _ h.symm hx rfl (.inr ⟨j, b, d, hgd, hdd, rfl⟩)
        · cases h
    · cases h

/-- what names are left -/
def Fresh (κ : Kx) (σ : St) (base len : Nat) (U : Nat → Prop) : Prop := len ≠ 0 → (∀ j, U j → j < len → ¬ κ.dom (base + j)) ∧ base + len ≤ σ.next

theorem Fresh.step {κ' : Kx} {σ' : St} {base len i : Nat} {U U' : Nat → Prop} (h : Fresh κ σ base len U) (hd : ∀ n, κ'.dom n → κ.dom n ∨ n = base + i ∨ σ.next ≤ n) (hn : σ.next ≤ σ'.next) (hU : ∀ j, U' j → U j ∧ j ≠ i) : Fresh κ' σ' base len U' := by
  intro hl
  obtain ⟨h1, h2⟩ := h hl
  refine ⟨fun j hj hjl hdom => ?_, by omega⟩
  rcases hd _ hdom with hx | hx | hx
  · exact h1 j (hU j hj).1 hjl hx
  · have := (hU j hj).2; omega
  · omega

theorem names_len {l : List O} {o : O} (ho : o ∈ l) (hn : o.i.names = true) : namesOf l = l.length := by
  unfold namesOf
  rw [if_pos (List.any_eq_true.2 ⟨o, ho, hn⟩)]

section
variable {ops : Array Oper} {A : Ann} {q : Bool} {r base : Nat} {l : List O} {K : List AV → St → Prop} {Q : Exit → Act → World → Prop}

theorem wpOp_one (hc : compileOps P A q r ops 0 ops.toList = some l) (hbase : σ0.next ≤ base) {i : Nat} {o : O} (ho : l[i]? = some o) (h : Run κ0 w0 σ0 F κ a w ρ σ) {U : Nat → Prop} (hF : Fresh κ σ base (namesOf l) U) (hU : U i)
    {K' : List AV → St → Prop} (hk : aone (ACalls P) (base + i) o ρ σ K') {next : Act → World → Prop}
    (hn : ∀ a' w' κ' ρ' σ', Run κ0 w0 σ0 F κ' a' w' ρ' σ' → Fresh κ' σ' base (namesOf l) (fun j => U j ∧ j ≠ i) → K' ρ' σ' → next a' w') : wpOp P ops Q i next a w := by
  obtain ⟨hlen, hget⟩ := compileOps_get hc
  have hi : i < l.length := (List.getElem?_eq_some_iff.1 ho).1
  have hi' : i < ops.size := by rw [hlen] at hi; simpa using hi
  obtain ⟨o', g1, g2, g3, g4⟩ := hget i ops[i] (by simp [hi'])
  have : o' = o := Option.some.inj (g1.symm.trans ho)
  subst this
  have := one_ok (Q := Q) (next := next) h g2 g3 g4 (fun hnm => by
    have hl := names_len (List.mem_of_getElem? ho) hnm
    obtain ⟨f1, f2⟩ := hF (by rw [hl]; omega)
    exact ⟨f1 i hU (by rw [hl]; exact hi), by rw [hl] at f2; omega⟩) (Nat.le_trans hbase (Nat.le_add_right _ _)) hk
    (fun a' w' κ' ρ' σ' hR hdm hnx hkk => hn a' w' κ' ρ' σ' hR (hF.step hdm hnx (fun j hj => hj)) hkk)
  unfold wpOp
  simp only [Array.getElem?_eq_getElem hi']
  split
  · rename_i hw; rw [if_pos hw] at this; exact .inl this
  · rename_i hw; rw [if_neg hw] at this; exact this

theorem seq_ok (hc : compileOps P A q r ops 0 ops.toList = some l) (hbase : σ0.next ≤ base) : ∀ (is : List Nat) {κ : Kx} {a : Act} {w : World} {ρ : List AV} {σ : St}, is.Nodup → Run κ0 w0 σ0 F κ a w ρ σ → Fresh κ σ base (namesOf l) (fun j => j ∈ is) →
    aSeq (ACalls P) base l is ρ σ K → (∀ κ a w ρ σ, Run κ0 w0 σ0 F κ a w ρ σ → K ρ σ → Q .normal a w) → wpOps P ops Q is a w
  | [], κ, a, w, ρ, σ, _, h, _, hk, hn => hn κ a w ρ σ h hk
  | i :: is, κ, a, w, ρ, σ, hnd, h, hF, hk, hn => by
    rw [wpOps_cons]
    simp only [aSeq] at hk
    cases ho : l[i]? with
    | none => rw [ho] at hk; exact hk.elim
    | some o =>
      rw [ho] at hk
      refine wpOp_one hc hbase ho h hF (by simp) hk (fun a' w' κ' ρ' σ' hR hF' hkk => seq_ok hc hbase is (List.nodup_cons.1 hnd).2 hR ?_ hkk hn)
      intro hl
      obtain ⟨f1, f2⟩ := hF' hl
      exact ⟨fun j hj => f1 j ⟨List.mem_cons_of_mem _ hj, fun e => (List.nodup_cons.1 hnd).1 (e ▸ hj)⟩, f2⟩

theorem any_ok (hc : compileOps P A q r ops 0 ops.toList = some l) (hbase : σ0.next ≤ base) : ∀ (fuel : Nat) (listed : Array Bool) {κ : Kx} {a : Act} {w : World} {ρ : List AV} {σ : St}, Run κ0 w0 σ0 F κ a w ρ σ → Fresh κ σ base (namesOf l) (fun j => listed.getD j true = false) →
    aAny (ACalls P) ops base l K fuel listed ρ σ → (∀ κ a w ρ σ, Run κ0 w0 σ0 F κ a w ρ σ → K ρ σ → Q .normal a w) → wpAny P .any ops Q fuel listed a w
  | 0, listed, κ, a, w, ρ, σ, h, _, hk, hn => ⟨hk.1, hn κ a w ρ σ h hk.2⟩
  | fuel + 1, listed, κ, a, w, ρ, σ, h, hF, hk, hn => by
    refine ⟨fun h0 => hn κ a w ρ σ h (hk.1 h0), fun i hi => ?_⟩
    have hki := hk.2 i hi
    cases ho : l[i]? with
    | none => rw [ho] at hki; exact hki.elim
    | some o =>
      rw [ho] at hki
      refine wpOp_one hc hbase ho h hF (mem_ready.1 hi).1 hki (fun a' w' κ' ρ' σ' hR hF' hkk => any_ok hc hbase fuel _ hR ?_ hkk hn)
      intro hl
      obtain ⟨f1, f2⟩ := hF' hl
      refine ⟨fun j hj => f1 j ?_, f2⟩
      by_cases hij : i = j
      · subst hij
        exfalso
        rcases Nat.lt_or_ge i listed.size with h' | h'
        · simp [h'] at hj
        · simp [h'] at hj
      · change (listed.setIfInBounds i true).getD j true = false at hj
        rw [getD_set_ne true hij] at hj
        exact ⟨hj, Ne.symm hij⟩
end

theorem ACalls_mono : CPMono (ACalls P) := fun _ _ _ _ _ h k => k.mono h

theorem noCall {A : Ann} {r : Nat} {all : Array Oper} {k : Nat} {ops : List Oper} {l : List O} (h : compileOps P A true r all k ops = some l) : ∀ o ∈ l, o.i.isCall = false := by
  obtain ⟨hlen, hget⟩ := compileOps_get h
  intro o ho
  obtain ⟨j, hj⟩ := List.getElem?_of_mem ho
  have hlt : j < l.length := (List.getElem?_eq_some_iff.1 hj).1
  rw [hlen] at hlt
  obtain ⟨o', g1, g2, _⟩ := hget j ops[j] (by simp [hlt])
  have : o' = o := Option.some.inj (g1.symm.trans hj)
  subst this
  revert g2
  generalize o'.i = ins
  intro g2
  cases ins <;> first | rfl | skip
  all_goals
    exfalso
    unfold compileOp at g2
    repeat' (split at g2)
    all_goals first
      | (simp only [Option.map_eq_some_iff, Option.some.injEq, reduceCtorEq, and_false, exists_false] at g2; done)
      | (cases g2; done)
      | skip
  all_goals first
    | (exact absurd rfl ‹¬ true = true›)
    | skip
  all_goals
    unfold compileCall at g2
    repeat' (split at g2)
    all_goals first
      | (simp only [Option.map_eq_some_iff, Option.some.injEq, reduceCtorEq, and_false, exists_false] at g2; done)
      | (simp at g2; done)
      | (exact absurd rfl ‹¬ true = true›)

theorem Run.up (h : Run κ0 w0 σ0 F κ a w ρ σ) (k : Nat) : Run κ0 w0 σ0 F κ a w ρ (σ.up k) :=
  ⟨⟨⟨fun n hn => Nat.lt_of_lt_of_le (h.inv.r.dom n hn) (Nat.le_add_right _ _), h.inv.r.own, h.inv.r.apart, h.inv.r.imm, h.inv.r.foot⟩, h.inv.fr, h.inv.env, h.inv.defers⟩, h.ext, h.dom, Nat.le_trans h.next (Nat.le_add_right _ _)⟩

def Ex.to : Ex → Exit
  | .normal => .normal
  | .exit id => .exit id
  | .ret => .ret

/-! ### Ghost steps, and what code comes to -/

/-- what may be told of a place in another way -/
def Gh (ρ : List AV) (σ : St) (ρ' : List AV) (σ' : St) : Prop :=
  ∀ (κ0 : Kx) (w0 : World) (σ0 : St) (F : Nat → Prop) (κ : Kx) (a : Act) (w : World), Run κ0 w0 σ0 F κ a w ρ σ → ∃ κ', Run κ0 w0 σ0 F κ' a w ρ' σ'

theorem Gh.refl {ρ : List AV} {σ : St} : Gh ρ σ ρ σ := fun _ _ _ _ κ _ _ h => ⟨κ, h⟩
theorem Gh.trans {ρ ρ1 ρ2 : List AV} {σ σ1 σ2 : St} (h : Gh ρ σ ρ1 σ1) (k : Gh ρ1 σ1 ρ2 σ2) : Gh ρ σ ρ2 σ2 := fun κ0 w0 σ0 F κ a w hR => by
  obtain ⟨κ1, h1⟩ := h κ0 w0 σ0 F κ a w hR
  exact k κ0 w0 σ0 F κ1 a w h1

/-- THE CODE c, AT VALUES ρ AND OWNED THINGS σ, COMES TO Q -/
def T (P : Program) (A : Ann) (c : C) (Q : Ex → List AV → St → Prop) (ρ : List AV) (σ : St) : Prop :=
  ∀ (code : Code), compileC P A code = some c → ∀ (κ0 : Kx) (w0 : World) (σ0 : St) (F : Nat → Prop) (κ : Kx) (a : Act) (w : World), Run κ0 w0 σ0 F κ a w ρ σ →
    code.wp P (fun e a' w' => ∃ e' κ' ρ' σ', e = Ex.to e' ∧ Run κ0 w0 σ0 F κ' a' w' ρ' σ' ∧ Q e' ρ' σ') a w

def Ex.then (K : List AV → St → Prop) (Q : Ex → List AV → St → Prop) : Ex → List AV → St → Prop
  | .normal, ρ, σ => K ρ σ
  | e, ρ, σ => Q e ρ σ
def Ex.inBlock (id : Nat) (Q : Ex → List AV → St → Prop) : Ex → List AV → St → Prop
  | .exit i, ρ, σ => if i = id then Q .normal ρ σ else Q (.exit i) ρ σ
  | e, ρ, σ => Q e ρ σ

section
variable {A : Ann} {Q : Ex → List AV → St → Prop}

theorem T.mono {c : C} {Q' : Ex → List AV → St → Prop} (h : T P A c Q ρ σ) (hq : ∀ e ρ σ, Q e ρ σ → Q' e ρ σ) : T P A c Q' ρ σ :=
  fun code hc κ0 w0 σ0 F κ a w hR => wp_mono (h code hc κ0 w0 σ0 F κ a w hR) fun _ _ _ ⟨e', κ', ρ', σ', h1, h2, h3⟩ => ⟨e', κ', ρ', σ', h1, h2, hq _ _ _ h3⟩

theorem T.gh {c : C} {ρ' : List AV} {σ' : St} (g : Gh ρ σ ρ' σ') (h : T P A c Q ρ' σ') : T P A c Q ρ σ := fun code hc κ0 w0 σ0 F κ a w hR => by
  obtain ⟨κ', hR'⟩ := g κ0 w0 σ0 F κ a w hR
  exact h code hc κ0 w0 σ0 F κ' a w hR'

theorem compile_seq {code : Code} {x y : C} (h : compileC P A code = some (.seq x y)) : ∃ a b, code = .seq a b ∧ compileC P A a = some x ∧ compileC P A b = some y := by
  cases code <;> simp only [compileC] at h
  all_goals first
    | (cases h; done)
    | (split at h
       · rename_i h1 h2; simp only [Option.some.injEq, C.seq.injEq] at h; obtain ⟨rfl, rfl⟩ := h; exact ⟨_, _, rfl, h1, h2⟩
       · cases h)
    | (split at h
       · simp at h
       · cases h)
    | (simp at h; done)
    | (exfalso; repeat' (split at h) <;> simp at h)
theorem compile_skip {code : Code} (h : compileC P A code = some .skip) : code = .skip := by
  cases code <;> simp only [compileC] at h
  all_goals first
    | rfl
    | (cases h; done)
    | (simp at h; done)
    | (exfalso; repeat' (split at h) <;> simp at h)
theorem compile_exit {code : Code} {id : Nat} (h : compileC P A code = some (.exit id)) : code = .exit id := by
  cases code <;> simp only [compileC] at h
  all_goals first
    | (simp only [Option.some.injEq, C.exit.injEq] at h; subst h; rfl)
    | (cases h; done)
    | (simp at h; done)
    | (exfalso; repeat' (split at h) <;> simp at h)
theorem compile_ret {code : Code} (h : compileC P A code = some .ret) : code = .ret := by
  cases code <;> simp only [compileC] at h
  all_goals first
    | rfl
    | (cases h; done)
    | (simp at h; done)
    | (exfalso; repeat' (split at h) <;> simp at h)
theorem compile_block {code : Code} {id : Nat} {x : C} (h : compileC P A code = some (.block id x)) : ∃ c, code = .block id c ∧ compileC P A c = some x := by
  cases code <;> simp only [compileC] at h
  all_goals first
    | (simp only [Option.map_eq_some_iff, C.block.injEq] at h; obtain ⟨c', h1, rfl, rfl⟩ := h; exact ⟨_, rfl, h1⟩)
    | (cases h; done)
    | (simp at h; done)
    | (exfalso; repeat' (split at h) <;> simp at h)
theorem compile_loop {code : Code} {x : C} (h : compileC P A code = some (.loop x)) : ∃ c, code = .loop c ∧ compileC P A c = some x := by
  cases code <;> simp only [compileC] at h
  all_goals first
    | (simp only [Option.map_eq_some_iff, C.loop.injEq] at h; obtain ⟨c', h1, rfl⟩ := h; exact ⟨_, rfl, h1⟩)
    | (cases h; done)
    | (simp at h; done)
    | (exfalso; repeat' (split at h) <;> simp at h)
theorem compile_cond {code : Code} {x : X} {y z : C} (h : compileC P A code = some (.cond x y z)) : ∃ c a b, code = .cond c a b ∧ opX c = some x ∧ compileC P A a = some y ∧ compileC P A b = some z := by
  cases code <;> simp only [compileC] at h
  all_goals first
    | (cases h; done)
    | (split at h
       · rename_i h1 h2 h3; simp only [Option.some.injEq, C.cond.injEq] at h; obtain ⟨rfl, rfl, rfl⟩ := h; exact ⟨_, _, _, rfl, h1, h2, h3⟩
       · cases h)
    | (simp at h; done)
    | (exfalso; repeat' (split at h) <;> simp at h)
theorem compile_reg {code : Code} {l : List O} (h : compileC P A code = some (.reg l)) : ∃ id ops draw, code = .region id ops draw ∧ compileOps P A draw id ops 0 ops.toList = some l ∧ (draw = true → commOk ops l = true ∧ backOk ops = true) := by
  cases code <;> simp only [compileC] at h
  case region id ops draw =>
    refine ⟨id, ops, draw, rfl, ?_⟩
    split at h
    · rename_i l' hl
      split at h
      · split at h
        · rename_i hcb
          simp only [Option.some.injEq, C.reg.injEq] at h; subst h
          simp only [Bool.and_eq_true] at hcb
          exact ⟨hl, fun _ => hcb⟩
        · cases h
      · rename_i hd
        simp only [Option.some.injEq, C.reg.injEq] at h; subst h
        exact ⟨hl, fun hx => absurd hx hd⟩
    · cases h
  all_goals first
    | (cases h; done)
    | (simp at h; done)
    | (exfalso; repeat' (split at h) <;> simp at h)

theorem T.skip (h : Q .normal ρ σ) : T P A .skip Q ρ σ := fun code hc κ0 w0 σ0 F κ a w hR => by
  rw [compile_skip hc]; exact wp_skip ⟨.normal, κ, ρ, σ, rfl, hR, h⟩
theorem T.exit {id : Nat} (h : Q (.exit id) ρ σ) : T P A (.exit id) Q ρ σ := fun code hc κ0 w0 σ0 F κ a w hR => by
  rw [compile_exit hc]; exact wp_exit ⟨.exit id, κ, ρ, σ, rfl, hR, h⟩
theorem T.ret (h : Q .ret ρ σ) : T P A .ret Q ρ σ := fun code hc κ0 w0 σ0 F κ a w hR => by
  rw [compile_ret hc]; exact wp_ret ⟨.ret, κ, ρ, σ, rfl, hR, h⟩

theorem T.seq {x y : C} (h : T P A x (Ex.then (T P A y Q) Q) ρ σ) : T P A (.seq x y) Q ρ σ := fun code hc κ0 w0 σ0 F κ a w hR => by
  obtain ⟨c1, c2, rfl, h1, h2⟩ := compile_seq hc
  refine wp_seq (wp_mono (h c1 h1 κ0 w0 σ0 F κ a w hR) ?_)
  rintro e a w ⟨e', κ', ρ', σ', rfl, hR', hq⟩
  cases e' with
  | normal => exact hq c2 h2 κ0 w0 σ0 F κ' a w hR'
  | exit id => exact ⟨.exit id, κ', ρ', σ', rfl, hR', hq⟩
  | ret => exact ⟨.ret, κ', ρ', σ', rfl, hR', hq⟩

theorem T.cond {x : X} {c1 c2 : C} {b : Bool} (hb : ev ρ x = .bool b) (h1 : b = true → T P A c1 Q ρ σ) (h2 : b = false → T P A c2 Q ρ σ) : T P A (.cond x c1 c2) Q ρ σ := fun code hc κ0 w0 σ0 F κ a w hR => by
  obtain ⟨c, d1, d2, rfl, hx, k1, k2⟩ := compile_cond hc
  have hv := hR.inv.opX hx
  rw [hb] at hv
  exact wp_cond_split (t := b) hv.bool_inv (fun hb => h1 hb d1 k1 κ0 w0 σ0 F κ a w hR) (fun hb => h2 hb d2 k2 κ0 w0 σ0 F κ a w hR)

theorem T.block {id : Nat} {c : C} (h : T P A c (Ex.inBlock id Q) ρ σ) : T P A (.block id c) Q ρ σ := fun code hc κ0 w0 σ0 F κ a w hR => by
  obtain ⟨d, rfl, hd⟩ := compile_block hc
  refine wp_block (wp_mono (h d hd κ0 w0 σ0 F κ a w hR) ?_)
  rintro e a w ⟨e', κ', ρ', σ', rfl, hR', hq⟩
  cases e' with
  | normal => exact ⟨.normal, κ', ρ', σ', rfl, hR', hq⟩
  | exit i =>
    simp only [Ex.inBlock] at hq
    simp only [Ex.to, Exit.inBlock]
    by_cases hi : i = id
    · simp only [hi, if_true] at hq ⊢; exact ⟨.normal, κ', ρ', σ', rfl, hR', hq⟩
    · simp only [hi, if_false] at hq ⊢; exact ⟨.exit i, κ', ρ', σ', rfl, hR', hq⟩
  | ret => exact ⟨.ret, κ', ρ', σ', rfl, hR', hq⟩

/-- a loop: at its head J, and a number that falls -/
theorem T.loop {c : C} (J : List AV → St → Prop) (μ : List AV → St → Nat) (h0 : J ρ σ)
    (h : ∀ ρ σ, J ρ σ → T P A c (Ex.then (fun ρ' σ' => ∃ ρ'' σ'', Gh ρ' σ' ρ'' σ'' ∧ J ρ'' σ'' ∧ μ ρ'' σ'' < μ ρ σ) Q) ρ σ) : T P A (.loop c) Q ρ σ := fun code hc κ0 w0 σ0 F κ a w hR => by
  obtain ⟨d, rfl, hd⟩ := compile_loop hc
  have key : ∀ n κ a w ρ σ, Run κ0 w0 σ0 F κ a w ρ σ → J ρ σ → μ ρ σ < n → Code.rounds P d (fun e a' w' => ∃ e' κ' ρ' σ', e = Ex.to e' ∧ Run κ0 w0 σ0 F κ' a' w' ρ' σ' ∧ Q e' ρ' σ') n a w := by
    intro n
    induction n with
    | zero => intro κ a w ρ σ _ _ hlt; omega
    | succ n ihn =>
      intro κ a w ρ σ hR hj hlt
      rw [rounds_succ]
      refine wp_mono (h ρ σ hj d hd κ0 w0 σ0 F κ a w hR) ?_
      rintro e a w ⟨e', κ', ρ', σ', rfl, hR', hq⟩
      cases e' with
      | normal =>
        obtain ⟨ρ'', σ'', hg, hj', hlt'⟩ := hq
        obtain ⟨κ'', hR''⟩ := hg κ0 w0 σ0 F κ' a w hR'
        exact ihn κ'' a w ρ'' σ'' hR'' hj' (by omega)
      | exit id => exact ⟨.exit id, κ', ρ', σ', rfl, hR', hq⟩
      | ret => exact ⟨.ret, κ', ρ', σ', rfl, hR', hq⟩
  exact wp_loop_rounds (μ ρ σ + 1) (key _ κ a w ρ σ hR h0 (Nat.lt_succ_self _))

/-- a loop that counts: at its head J i, and i grows up to n -/
theorem T.loopi {c : C} (J : Nat → List AV → St → Prop) (n i0 : Nat) (hi : i0 ≤ n) (h0 : J i0 ρ σ)
    (h : ∀ i ρ σ, i ≤ n → J i ρ σ → T P A c (Ex.then (fun ρ' σ' => i < n ∧ ∃ ρ'' σ'', Gh ρ' σ' ρ'' σ'' ∧ J (i + 1) ρ'' σ'') Q) ρ σ) : T P A (.loop c) Q ρ σ := fun code hc κ0 w0 σ0 F κ a w hR => by
  obtain ⟨d, rfl, hd⟩ := compile_loop hc
  have key : ∀ m i κ a w ρ σ, i ≤ n → Run κ0 w0 σ0 F κ a w ρ σ → J i ρ σ → n < i + m → Code.rounds P d (fun e a' w' => ∃ e' κ' ρ' σ', e = Ex.to e' ∧ Run κ0 w0 σ0 F κ' a' w' ρ' σ' ∧ Q e' ρ' σ') m a w := by
    intro m
    induction m with
    | zero => intro i κ a w ρ σ hin _ _ hlt; omega
    | succ m ihm =>
      intro i κ a w ρ σ hin hR hj hlt
      rw [rounds_succ]
      refine wp_mono (h i ρ σ hin hj d hd κ0 w0 σ0 F κ a w hR) ?_
      rintro e a w ⟨e', κ', ρ', σ', rfl, hR', hq⟩
      cases e' with
      | normal =>
        obtain ⟨hlt', ρ'', σ'', hg, hj'⟩ := hq
        obtain ⟨κ'', hR''⟩ := hg κ0 w0 σ0 F κ' a w hR'
        exact ihm (i + 1) κ'' a w ρ'' σ'' hlt' hR'' hj' (by omega)
      | exit id => exact ⟨.exit id, κ', ρ', σ', rfl, hR', hq⟩
      | ret => exact ⟨.ret, κ', ρ', σ', rfl, hR', hq⟩
  exact wp_loop_rounds (n + 1) (key _ i0 κ a w ρ σ hi hR h0 (by omega))

theorem T.reg (hm : P.follows .mixedOrders = true) {l : List O} (h : aops (ACalls P) σ.next 0 l ρ (σ.up (namesOf l)) (Q .normal)) : T P A (.reg l) Q ρ σ := fun code hc κ0 w0 σ0 F κ a w hR => by
  obtain ⟨id, ops, draw, rfl, hl, hcb⟩ := compile_reg hc
  have hlen : l.length = ops.size := by rw [(compileOps_get hl).1]; simp
  have hfr : ∀ U, Fresh κ (σ.up (namesOf l)) σ.next (namesOf l) U := fun U _ => ⟨fun j _ _ hd => by have := hR.inv.r.dom _ hd; omega, Nat.le_refl _⟩
  cases draw with
  | false =>
    refine wp_region ?_
    have hs := aSeq_of_aops (l := l) ACalls_mono l 0 (by simp) h
    rw [← List.range_eq_range', hlen] at hs
    exact seq_ok hl hR.next _ List.nodup_range (hR.up _) (hfr _) hs (fun κ a w ρ σ hR hq => ⟨.normal, κ, ρ, σ, rfl, hR, hq⟩)
  | true =>
    obtain ⟨hcm, hbk⟩ := hcb rfl
    refine wp_region_any hm ?_
    exact any_ok hl hR.next _ _ ((hR.up _).drawn _) (hfr _) (aAny_of_aops ACalls_mono hlen (noCall hl) hcm hbk h) (fun κ a w ρ σ hR hq => ⟨.normal, κ, ρ, σ, rfl, hR, hq⟩)
end
end
end Go.VL
