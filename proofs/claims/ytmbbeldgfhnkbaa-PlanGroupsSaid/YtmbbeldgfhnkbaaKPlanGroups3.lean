/- Texts put together, of these what the theorem needs: The value logic, part Q: regions, and all code. The value logic, part R: ghost steps, and from a function's body to a call of it. The value logic, part S: walking. The value logic, part X: code that is run at given values (the kernel reckons it). The value logic, part T: what an argument's reading is, over values; and a law's frame. The value logic, part U: a law that returns true, whatever its arguments: the contract of its row. The compiled code of functions of this seat. MADE BY PROGRAM (mkc.py). Contracts: small things. Contracts: numbers as bytes. PLAIN LAW: a checksum by a table is the checksum bit by bit. Contracts: the checksum by a table. Contracts: sealed bytes opened. Contracts: readers. A reader is an owned row of three: bytes, how far, where amiss. Contracts: small things that are used often; an error's number. Contracts: readers, told as functions. States that are alike but for new names; a named end among them; arithmetic of words. The compiled code of functions of this seat. MADE BY PROGRAM (mkc.py). Contracts: spans and traces that are few; what may be. Contracts: pages that are few; comparing. Contracts: canonical traces. Gathering and sorting a row of spans, told over values. Keys of two numbers: gathered and sorted, told over values. What gathers and sorts places at this seat: numbers and facts. MADE BY PROGRAM (mkpl.py). The compiled code of functions of this seat. MADE BY PROGRAM (mkc.py). Contracts: the document's gathering. Contracts: spans out of bytes. A page out of bytes: what is told of it, and readers moved with their bytes. Metas: are they the same, do they rise? (ref 14, ref 19) What is to be merged of metas, the document's answer (ref 19). The value logic: a slice that is appended to, again and again. -/
import Derived.Test.YtmbbeldgfhnkbaaKPlanGroups2
import Derived.Test.YtmbbeldgfhnkbaaChecked

set_option linter.unusedSimpArgs false
set_option linter.unusedVariables false

namespace Go.VL

/-- Where the code of a function stands: what has become since its entry. -/
structure Run (κ0 : Kx) (w0 : World) (σ0 : St) (F : Nat → Prop) (κ : Kx) (a : Act) (w : World) (ρ : List AV) (σ : St) : Prop where
  inv : Inv w0 F κ a w ρ σ
  ext : Ext κ0 w0 κ w
  dom : ∀ n, κ.dom n → κ0.dom n ∨ σ0.next ≤ n
  next : σ0.next ≤ σ.next

section

variable {P : Program} {κ0 : Kx} {w0 : World} {σ0 : St} {F : Nat → Prop} {a : Act} {w : World} {κ : Kx} {ρ : List AV} {σ : St}

theorem Run.put (h : Run κ0 w0 σ0 F κ a w ρ σ) {nm : Nat} {κ' : Kx} {w' : World} {σ' : St} (hp : Post w0 F κ w σ nm κ' w' σ') (hnm : σ0.next ≤ nm) {v : Value} {x : AV} (hv : V κ' w' v x) (d : Option Nat) :
    Run κ0 w0 σ0 F κ' (a.put d v) w' (setd ρ x d) σ' where
  inv := ⟨hp.r, hp.fr, by
    have he := h.inv.env.mono hp.ext
    cases d with
    | none => exact he
    | some d => simpa [Act.put, setd] using he.set d hv, by cases d <;> exact h.inv.defers⟩
  ext := h.ext.trans hp.ext
  dom := fun n hn => by
    rcases hp.dom n hn with hx | hx | hx
    · exact h.dom n hx
    · right; omega
    · right; have := h.next; omega
  next := Nat.le_trans h.next hp.next

theorem Run.drawn (h : Run κ0 w0 σ0 F κ a w ρ σ) (n : Nat) (hn : w.drawn ≤ n) : Run κ0 w0 σ0 F κ a { w with drawn := n } ρ σ := by
  have e : Ext κ w κ { w with drawn := n } := ⟨fun _ _ x => x, fun _ _ => rfl, fun _ _ => rfl, fun _ _ => rfl, fun _ _ => rfl, fun _ x => x, fun _ _ _ => rfl⟩
  refine ⟨⟨h.inv.r.step e h.inv.r.dom h.inv.r.imm (fun n r hr => .inl ⟨hr, rfl, fun _ x => x⟩), h.inv.fr.drawn n hn, h.inv.env.mono e, h.inv.defers⟩, h.ext.trans e, h.dom, h.next⟩

/-- but for the places of D all is as it was -/
def AsWas (D : Nat → Prop) (a a' : Act) : Prop := a'.tmps.size = a.tmps.size ∧ ∀ i, ¬ D i → a'.tmps[i]? = a.tmps[i]?

theorem AsWas.refl (D : Nat → Prop) (a : Act) : AsWas D a a := ⟨rfl, fun _ _ => rfl⟩

theorem AsWas.trans {D : Nat → Prop} {a b c : Act} (h : AsWas D a b) (k : AsWas D b c) : AsWas D a c := ⟨k.1.trans h.1, fun i hi => (k.2 i hi).trans (h.2 i hi)⟩

theorem AsWas.wider {D E : Nat → Prop} {a b : Act} (h : AsWas D a b) (hd : ∀ i, D i → E i) : AsWas E a b := ⟨h.1, fun i hi => h.2 i fun hx => hi (hd i hx)⟩

theorem AsWas.put {D : Nat → Prop} {a b : Act} (h : AsWas D a b) (d : Option Nat) (v : Value) (hd : ∀ x, d = some x → D x) : AsWas D a (b.put d v) := by
  cases d with
  | none => exact h
  | some x =>
    refine ⟨by simp [Act.put, h.1], fun i hi => ?_⟩
    have hx : x ≠ i := fun e => hi (e ▸ hd x rfl)
    rw [← h.2 i hi]
    simp [Act.put, hx]

/-- is a place written by the code? -/
def C.wr : C → Nat → Bool
  | .reg l, i => l.any (fun o => o.dst == some i)
  | .seq x y, i => x.wr i || y.wr i
  | .cond _ x y, i => x.wr i || y.wr i
  | .block _ c, i => c.wr i
  | .loop c, i => c.wr i
  | _, _ => false

/-- the guard of an operation, and that of its instruction -/
def Gr (all : Array Oper) (o : Oper) (o' : O) : Prop := (o.guard = none ∧ o'.g = none) ∨ ∃ j b d, o.guard = some (j, b) ∧ (all[j]?).bind (·.dst) = some d ∧ o'.g = some (d, b)

theorem wanted_ok (h : Inv w0 F κ a w ρ σ) {all : Array Oper} {o : Oper} {o' : O} (hg : Gr all o o') {b : Bool} (hb : gd ρ o'.g = some b) : Region.wanted o (yielded all a.tmps) = b := by
  rcases hg with ⟨g1, g2⟩ | ⟨j, c, d, g1, g2, g3⟩
  · rw [g2] at hb; simp only [gd, Option.some.injEq] at hb; subst hb
    simp [Region.wanted, g1]
  · rw [g3] at hb
    simp only [gd] at hb
    have hv := h.env.get d
    have key : ∀ u, V κ w (a.tmps.getD d undef) u → ρ.getD d .any = u → u ≠ .any → a.tmps[d]? = some (a.tmps.getD d undef) := by
      intro u _ hu hne
      have hlen := h.env.length
      have : d < ρ.length := by
        rcases Nat.lt_or_ge d ρ.length with hlt | hge
        · exact hlt
        · exfalso; rw [List.getD_eq_getElem?_getD, List.getElem?_eq_none hge] at hu; exact hne hu.symm
      have hlt : d < a.tmps.size := by rw [← hlen] at this; simpa using this
      simp [hlt]
    have hv' : V κ w (a.tmps.getD d undef) (ρ.getD d .any) := by simpa using hv
    split at hb
    · rename_i c' hc
      simp only [Option.some.injEq] at hb; subst hb
      rw [hc] at hv'
      have := key _ hv' hc (by simp)
      rw [hv'.bool_inv] at this
      simp only [Region.wanted, g1, yielded, g2, Option.bind_some, this]
      cases c' <;> cases c <;> rfl
    · rename_i hc
      simp only [Option.some.injEq] at hb; subst hb
      rw [hc] at hv'
      have := key _ hv' hc (by simp)
      obtain ⟨u, e, hu⟩ := hv'.tup_inv
      rw [e] at this
      simp only [Region.wanted, g1, yielded, g2, Option.bind_some, this]
      rfl
    · cases hb

theorem one_ok (h : Run κ0 w0 σ0 F κ a w ρ σ) {all : Array Oper} {A : Ann} {q : Bool} {r i nm : Nat} {o : Oper} {o' : O} (hc : compileOp P A q r i o = some o'.i) (hd : o'.dst = o.dst) (hg : Gr all o o')
    (hN : o'.i.names = true → ¬ κ.dom nm ∧ nm < σ.next) (hnm : σ0.next ≤ nm) {K : List AV → St → Prop} (hk : aone (ACalls P) nm o' ρ σ K) {next : Act → World → Prop} {Q : Exit → Act → World → Prop}
    (hn : ∀ a' w' κ' ρ' σ', (∃ v, a' = a.put o'.dst v) → Run κ0 w0 σ0 F κ' a' w' ρ' σ' → (∀ n, κ'.dom n → κ.dom n ∨ n = nm ∨ σ.next ≤ n) → σ.next ≤ σ'.next → K ρ' σ' → next a' w') :
    if Region.wanted o (yielded all a.tmps) then o.wp P a w next Q else next (a.put o.dst undef) w := by
  unfold aone at hk
  split at hk
  · rename_i hb
    rw [wanted_ok h.inv hg hb]
    simp only [if_true]
    refine step_ok h.inv hN hc hk next Q (fun v w' κ' x σ' hp hv hkk => ?_)
    rw [← hd]
    exact hn _ _ κ' _ σ' ⟨v, rfl⟩ (h.put hp hnm hv o'.dst) hp.dom hp.next hkk
  · rename_i hb
    rw [wanted_ok h.inv hg hb]
    simp only [Bool.false_eq_true, if_false]
    rw [← hd]
    exact hn _ _ κ _ σ ⟨undef, rfl⟩ (h.put (nm := nm) h.inv.refl hnm (.tup [] [] .nil) o'.dst) (fun n hx => .inl hx) (Nat.le_refl _) hk
  · exact hk.elim

theorem compileOps_get {A : Ann} {q : Bool} {r : Nat} {all : Array Oper} : ∀ {k : Nat} {ops : List Oper} {l : List O}, compileOps P A q r all k ops = some l → l.length = ops.length ∧ ∀ j o, ops[j]? = some o → ∃ o', l[j]? = some o' ∧ compileOp P A q r (k + j) o = some o'.i ∧ o'.dst = o.dst ∧ Gr all o o'
  | k, [], l, h => by simp only [compileOps, Option.some.injEq] at h; subst h; exact ⟨rfl, fun j o hj => by simp at hj⟩
  | k, p :: rest, l, h => by
    simp only [compileOps] at h
    split at h
    · rename_i x l' hx hl
      obtain ⟨g1, g2⟩ := compileOps_get hl
      have key : ∀ y : O, l = y :: l' → compileOp P A q r k p = some y.i → y.dst = p.dst → Gr all p y → l.length = (p :: rest).length ∧ ∀ j o, (p :: rest)[j]? = some o → ∃ o', l[j]? = some o' ∧ compileOp P A q r (k + j) o = some o'.i ∧ o'.dst = o.dst ∧ Gr all o o' := by
        rintro y rfl y1 y2 y3
        refine ⟨by simp [g1], fun j o hj => ?_⟩
        cases j with
        | zero => simp only [List.getElem?_cons_zero, Option.some.injEq] at hj; subst hj; exact ⟨y, rfl, y1, y2, y3⟩
        | succ j =>
          simp only [List.getElem?_cons_succ] at hj ⊢
          have := g2 j o hj
          rw [Nat.add_assoc, Nat.add_comm 1 j] at this
          exact this
      split at h
      · rename_i hgd
        simp only [Option.some.injEq] at h
        exact key _ h.symm hx rfl (.inl ⟨hgd, rfl⟩)
      · rename_i j b hgd
        split at h
        · rename_i d hdd
          simp only [Option.some.injEq] at h
          exact key _ h.symm hx rfl (.inr ⟨j, b, d, hgd, hdd, rfl⟩)
        · cases h
    · cases h

/-- what names are left -/
def Fresh (κ : Kx) (σ : St) (base len : Nat) (U : Nat → Prop) : Prop := len ≠ 0 → (∀ j, U j → j < len → ¬ κ.dom (base + j)) ∧ base + len ≤ σ.next

theorem Fresh.step {κ' : Kx} {σ' : St} {base len i : Nat} {U U' : Nat → Prop} (h : Fresh κ σ base len U) (hd : ∀ n, κ'.dom n → κ.dom n ∨ n = base + i ∨ σ.next ≤ n) (hn : σ.next ≤ σ'.next) (hU : ∀ j, U' j → U j ∧ j ≠ i) : Fresh κ' σ' base len U' := by
  intro hl
  obtain ⟨h1, h2⟩ := h hl
  refine ⟨fun j hj hjl hdom => ?_, by omega⟩
  rcases hd _ hdom with hx | hx | hx
  · exact h1 j (hU j hj).1 hjl hx
  · have := (hU j hj).2; omega
  · omega

theorem names_len {l : List O} {o : O} (ho : o ∈ l) (hn : o.i.names = true) : namesOf l = l.length := by
  unfold namesOf
  rw [if_pos (List.any_eq_true.2 ⟨o, ho, hn⟩)]

section

variable {ops : Array Oper} {A : Ann} {q : Bool} {r base : Nat} {l : List O} {K : List AV → St → Prop} {Q : Exit → Act → World → Prop}

theorem wpOp_one (hc : compileOps P A q r ops 0 ops.toList = some l) (hbase : σ0.next ≤ base) {i : Nat} {o : O} (ho : l[i]? = some o) (h : Run κ0 w0 σ0 F κ a w ρ σ) {U : Nat → Prop} (hF : Fresh κ σ base (namesOf l) U) (hU : U i)
    {K' : List AV → St → Prop} (hk : aone (ACalls P) (base + i) o ρ σ K') {next : Act → World → Prop}
    (hn : ∀ a' w' κ' ρ' σ', (∃ v, a' = a.put o.dst v) → Run κ0 w0 σ0 F κ' a' w' ρ' σ' → Fresh κ' σ' base (namesOf l) (fun j => U j ∧ j ≠ i) → K' ρ' σ' → next a' w') : wpOp P ops Q i next a w := by
  obtain ⟨hlen, hget⟩ := compileOps_get hc
  have hi : i < l.length := (List.getElem?_eq_some_iff.1 ho).1
  have hi' : i < ops.size := by rw [hlen] at hi; simpa using hi
  obtain ⟨o', g1, g2, g3, g4⟩ := hget i ops[i] (by simp [hi'])
  have : o' = o := Option.some.inj (g1.symm.trans ho)
  subst this
  have := one_ok (Q := Q) (next := next) h g2 g3 g4 (fun hnm => by
    have hl := names_len (List.mem_of_getElem? ho) hnm
    obtain ⟨f1, f2⟩ := hF (by rw [hl]; omega)
    exact ⟨f1 i hU (by rw [hl]; exact hi), by rw [hl] at f2; omega⟩) (Nat.le_trans hbase (Nat.le_add_right _ _)) hk
    (fun a' w' κ' ρ' σ' hs hR hdm hnx hkk => hn a' w' κ' ρ' σ' hs hR (hF.step hdm hnx (fun j hj => hj)) hkk)
  unfold wpOp
  simp only [Array.getElem?_eq_getElem hi']
  split
  · rename_i hw; rw [if_pos hw] at this; exact .inl this
  · rename_i hw; rw [if_neg hw] at this; exact this

theorem seq_ok {D : Nat → Prop} {aS : Act} (hD : ∀ o ∈ l, ∀ x, o.dst = some x → D x) (hc : compileOps P A q r ops 0 ops.toList = some l) (hbase : σ0.next ≤ base) : ∀ (is : List Nat) {κ : Kx} {a : Act} {w : World} {ρ : List AV} {σ : St}, is.Nodup → Run κ0 w0 σ0 F κ a w ρ σ → Fresh κ σ base (namesOf l) (fun j => j ∈ is) →
    aSeq (ACalls P) base l is ρ σ K → AsWas D aS a → (∀ κ a w ρ σ, AsWas D aS a → Run κ0 w0 σ0 F κ a w ρ σ → K ρ σ → Q .normal a w) → wpOps P ops Q is a w
  | [], κ, a, w, ρ, σ, _, h, _, hk, hs, hn => hn κ a w ρ σ hs h hk
  | i :: is, κ, a, w, ρ, σ, hnd, h, hF, hk, hs, hn => by
    rw [wpOps_cons]
    simp only [aSeq] at hk
    cases ho : l[i]? with
    | none => rw [ho] at hk; exact hk.elim
    | some o =>
      rw [ho] at hk
      refine wpOp_one hc hbase ho h hF (by simp) hk (fun a' w' κ' ρ' σ' hv hR hF' hkk => seq_ok hD hc hbase is (List.nodup_cons.1 hnd).2 hR ?_ hkk (by obtain ⟨v, rfl⟩ := hv; exact hs.put _ _ (hD o (List.mem_of_getElem? ho))) hn)
      intro hl
      obtain ⟨f1, f2⟩ := hF' hl
      exact ⟨fun j hj => f1 j ⟨List.mem_cons_of_mem _ hj, fun e => (List.nodup_cons.1 hnd).1 (e ▸ hj)⟩, f2⟩

theorem any_ok {D : Nat → Prop} {aS : Act} (hD : ∀ o ∈ l, ∀ x, o.dst = some x → D x) (hc : compileOps P A q r ops 0 ops.toList = some l) (hbase : σ0.next ≤ base) : ∀ (fuel : Nat) (listed : Array Bool) {κ : Kx} {a : Act} {w : World} {ρ : List AV} {σ : St}, Run κ0 w0 σ0 F κ a w ρ σ → Fresh κ σ base (namesOf l) (fun j => listed.getD j true = false) →
    aAny (ACalls P) ops base l K fuel listed ρ σ → AsWas D aS a → (∀ κ a w ρ σ, AsWas D aS a → Run κ0 w0 σ0 F κ a w ρ σ → K ρ σ → Q .normal a w) → wpAny P .any ops Q fuel listed a w
  | 0, listed, κ, a, w, ρ, σ, h, _, hk, hs, hn => ⟨hk.1, hn κ a w ρ σ hs h hk.2⟩
  | fuel + 1, listed, κ, a, w, ρ, σ, h, hF, hk, hs, hn => by
    refine ⟨fun h0 => hn κ a w ρ σ hs h (hk.1 h0), fun i hi => ?_⟩
    have hki := hk.2 i hi
    cases ho : l[i]? with
    | none => rw [ho] at hki; exact hki.elim
    | some o =>
      rw [ho] at hki
      refine wpOp_one hc hbase ho h hF (mem_ready.1 hi).1 hki (fun a' w' κ' ρ' σ' hv hR hF' hkk => any_ok hD hc hbase fuel _ hR ?_ hkk (by obtain ⟨v, rfl⟩ := hv; exact hs.put _ _ (hD o (List.mem_of_getElem? ho))) hn)
      intro hl
      obtain ⟨f1, f2⟩ := hF' hl
      refine ⟨fun j hj => f1 j ?_, f2⟩
      by_cases hij : i = j
      · subst hij
        exfalso
        rcases Nat.lt_or_ge i listed.size with h' | h'
        · simp [h'] at hj
        · simp [h'] at hj
      · change (listed.setIfInBounds i true).getD j true = false at hj
        rw [getD_set_ne true hij] at hj
        exact ⟨hj, Ne.symm hij⟩

end

theorem ACalls_mono : CPMono (ACalls P) := fun _ _ _ _ _ h k => k.mono h

theorem Run.up (h : Run κ0 w0 σ0 F κ a w ρ σ) (k : Nat) : Run κ0 w0 σ0 F κ a w ρ (σ.up k) :=
  ⟨⟨⟨fun n hn => Nat.lt_of_lt_of_le (h.inv.r.dom n hn) (Nat.le_add_right _ _), h.inv.r.own, h.inv.r.apart, h.inv.r.imm, h.inv.r.foot⟩, h.inv.fr, h.inv.env, h.inv.defers⟩, h.ext, h.dom, Nat.le_trans h.next (Nat.le_add_right _ _)⟩

def Ex.to : Ex → Exit
  | .normal => .normal
  | .exit id => .exit id
  | .ret => .ret

/-! ### Ghost steps, and what code comes to -/

/-- what may be told of a place in another way -/
def Gh (ρ : List AV) (σ : St) (ρ' : List AV) (σ' : St) : Prop :=
  ∀ (κ0 : Kx) (w0 : World) (σ0 : St) (F : Nat → Prop) (κ : Kx) (a : Act) (w : World), Run κ0 w0 σ0 F κ a w ρ σ → ∃ κ', Run κ0 w0 σ0 F κ' a w ρ' σ'

theorem Gh.refl {ρ : List AV} {σ : St} : Gh ρ σ ρ σ := fun _ _ _ _ κ _ _ h => ⟨κ, h⟩

theorem Gh.trans {ρ ρ1 ρ2 : List AV} {σ σ1 σ2 : St} (h : Gh ρ σ ρ1 σ1) (k : Gh ρ1 σ1 ρ2 σ2) : Gh ρ σ ρ2 σ2 := fun κ0 w0 σ0 F κ a w hR => by
  obtain ⟨κ1, h1⟩ := h κ0 w0 σ0 F κ a w hR
  exact k κ0 w0 σ0 F κ1 a w h1

/-- THE CODE c, AT VALUES ρ AND OWNED THINGS σ, COMES TO Q -/
def T (P : Program) (A : Ann) (c : C) (Q : Ex → List AV → St → Prop) (ρ : List AV) (σ : St) : Prop :=
  ∀ (code : Code), compileC P A code = some c → ∀ (κ0 : Kx) (w0 : World) (σ0 : St) (F : Nat → Prop) (κ : Kx) (a : Act) (w : World), Run κ0 w0 σ0 F κ a w ρ σ →
    code.wp P (fun e a' w' => ∃ e' κ' ρ' σ', e = Ex.to e' ∧ Run κ0 w0 σ0 F κ' a' w' ρ' σ' ∧ Q e' ρ' σ' ∧ AsWas (fun i => c.wr i = true) a a') a w

def Ex.then (K : List AV → St → Prop) (Q : Ex → List AV → St → Prop) : Ex → List AV → St → Prop
  | .normal, ρ, σ => K ρ σ
  | e, ρ, σ => Q e ρ σ

def Ex.inBlock (id : Nat) (Q : Ex → List AV → St → Prop) : Ex → List AV → St → Prop
  | .exit i, ρ, σ => if i = id then Q .normal ρ σ else Q (.exit i) ρ σ
  | e, ρ, σ => Q e ρ σ

section

variable {A : Ann} {Q : Ex → List AV → St → Prop}

theorem T.mono {c : C} {Q' : Ex → List AV → St → Prop} (h : T P A c Q ρ σ) (hq : ∀ e ρ σ, Q e ρ σ → Q' e ρ σ) : T P A c Q' ρ σ :=
  fun code hc κ0 w0 σ0 F κ a w hR => wp_mono (h code hc κ0 w0 σ0 F κ a w hR) fun _ _ _ ⟨e', κ', ρ', σ', h1, h2, h3, h4⟩ => ⟨e', κ', ρ', σ', h1, h2, hq _ _ _ h3, h4⟩

theorem T.gh {c : C} {ρ' : List AV} {σ' : St} (g : Gh ρ σ ρ' σ') (h : T P A c Q ρ' σ') : T P A c Q ρ σ := fun code hc κ0 w0 σ0 F κ a w hR => by
  obtain ⟨κ', hR'⟩ := g κ0 w0 σ0 F κ a w hR
  exact h code hc κ0 w0 σ0 F κ' a w hR'

theorem compile_seq {code : Code} {x y : C} (h : compileC P A code = some (.seq x y)) : ∃ a b, code = .seq a b ∧ compileC P A a = some x ∧ compileC P A b = some y := by
  cases code <;> simp only [compileC] at h
  all_goals first
    | (cases h; done)
    | (split at h
       · rename_i h1 h2; simp only [Option.some.injEq, C.seq.injEq] at h; obtain ⟨rfl, rfl⟩ := h; exact ⟨_, _, rfl, h1, h2⟩
       · cases h)
    | (split at h
       · simp at h
       · cases h)
    | (simp at h; done)
    | (exfalso; repeat' (split at h) <;> simp at h)

theorem compile_skip {code : Code} (h : compileC P A code = some .skip) : code = .skip := by
  cases code <;> simp only [compileC] at h
  all_goals first
    | rfl
    | (cases h; done)
    | (simp at h; done)
    | (exfalso; repeat' (split at h) <;> simp at h)

theorem compile_exit {code : Code} {id : Nat} (h : compileC P A code = some (.exit id)) : code = .exit id := by
  cases code <;> simp only [compileC] at h
  all_goals first
    | (simp only [Option.some.injEq, C.exit.injEq] at h; subst h; rfl)
    | (cases h; done)
    | (simp at h; done)
    | (exfalso; repeat' (split at h) <;> simp at h)

theorem compile_ret {code : Code} (h : compileC P A code = some .ret) : code = .ret := by
  cases code <;> simp only [compileC] at h
  all_goals first
    | rfl
    | (cases h; done)
    | (simp at h; done)
    | (exfalso; repeat' (split at h) <;> simp at h)

theorem compile_block {code : Code} {id : Nat} {x : C} (h : compileC P A code = some (.block id x)) : ∃ c, code = .block id c ∧ compileC P A c = some x := by
  cases code <;> simp only [compileC] at h
  all_goals first
    | (simp only [Option.map_eq_some_iff, C.block.injEq] at h; obtain ⟨c', h1, rfl, rfl⟩ := h; exact ⟨_, rfl, h1⟩)
    | (cases h; done)
    | (simp at h; done)
    | (exfalso; repeat' (split at h) <;> simp at h)

theorem compile_loop {code : Code} {x : C} (h : compileC P A code = some (.loop x)) : ∃ c, code = .loop c ∧ compileC P A c = some x := by
  cases code <;> simp only [compileC] at h
  all_goals first
    | (simp only [Option.map_eq_some_iff, C.loop.injEq] at h; obtain ⟨c', h1, rfl⟩ := h; exact ⟨_, rfl, h1⟩)
    | (cases h; done)
    | (simp at h; done)
    | (exfalso; repeat' (split at h) <;> simp at h)

theorem compile_cond {code : Code} {x : X} {y z : C} (h : compileC P A code = some (.cond x y z)) : ∃ c a b, code = .cond c a b ∧ opX c = some x ∧ compileC P A a = some y ∧ compileC P A b = some z := by
  cases code <;> simp only [compileC] at h
  all_goals first
    | (cases h; done)
    | (split at h
       · rename_i h1 h2 h3; simp only [Option.some.injEq, C.cond.injEq] at h; obtain ⟨rfl, rfl, rfl⟩ := h; exact ⟨_, _, _, rfl, h1, h2, h3⟩
       · cases h)
    | (simp at h; done)
    | (exfalso; repeat' (split at h) <;> simp at h)

theorem compile_reg {code : Code} {l : List O} (h : compileC P A code = some (.reg l)) : ∃ id ops draw, code = .region id ops draw ∧ compileOps P A draw id ops 0 ops.toList = some l ∧ (draw = true → commOk ops l = true ∧ backOk ops = true) := by
  cases code <;> simp only [compileC] at h
  case region id ops draw =>
    refine ⟨id, ops, draw, rfl, ?_⟩
    split at h
    · rename_i l' hl
      split at h
      · split at h
        · rename_i hcb
          simp only [Option.some.injEq, C.reg.injEq] at h; subst h
          simp only [Bool.and_eq_true] at hcb
          exact ⟨hl, fun _ => hcb⟩
        · cases h
      · rename_i hd
        simp only [Option.some.injEq, C.reg.injEq] at h; subst h
        exact ⟨hl, fun hx => absurd hx hd⟩
    · cases h
  all_goals first
    | (cases h; done)
    | (simp at h; done)
    | (exfalso; repeat' (split at h) <;> simp at h)

theorem T.skip (h : Q .normal ρ σ) : T P A .skip Q ρ σ := fun code hc κ0 w0 σ0 F κ a w hR => by
  rw [compile_skip hc]; exact wp_skip ⟨.normal, κ, ρ, σ, rfl, hR, h, .refl _ _⟩

theorem T.exit {id : Nat} (h : Q (.exit id) ρ σ) : T P A (.exit id) Q ρ σ := fun code hc κ0 w0 σ0 F κ a w hR => by
  rw [compile_exit hc]; exact wp_exit ⟨.exit id, κ, ρ, σ, rfl, hR, h, .refl _ _⟩

theorem T.ret (h : Q .ret ρ σ) : T P A .ret Q ρ σ := fun code hc κ0 w0 σ0 F κ a w hR => by
  rw [compile_ret hc]; exact wp_ret ⟨.ret, κ, ρ, σ, rfl, hR, h, .refl _ _⟩

theorem T.seq {x y : C} (h : T P A x (Ex.then (T P A y Q) Q) ρ σ) : T P A (.seq x y) Q ρ σ := fun code hc κ0 w0 σ0 F κ a w hR => by
  obtain ⟨c1, c2, rfl, h1, h2⟩ := compile_seq hc
  refine wp_seq (wp_mono (h c1 h1 κ0 w0 σ0 F κ a w hR) ?_)
  rintro e a1 w ⟨e', κ', ρ', σ', rfl, hR', hq, hs⟩
  have hs' : AsWas (fun i => (C.seq x y).wr i = true) a a1 := hs.wider fun i hi => by simp [C.wr, hi]
  cases e' with
  | normal =>
    refine wp_mono (hq c2 h2 κ0 w0 σ0 F κ' a1 w hR') ?_
    rintro e a2 w2 ⟨e2, κ2, ρ2, σ2, g1, g2, g3, g4⟩
    exact ⟨e2, κ2, ρ2, σ2, g1, g2, g3, hs'.trans (g4.wider fun i hi => by simp [C.wr, hi])⟩
  | exit id => exact ⟨.exit id, κ', ρ', σ', rfl, hR', hq, hs'⟩
  | ret => exact ⟨.ret, κ', ρ', σ', rfl, hR', hq, hs'⟩

theorem T.cond {x : X} {c1 c2 : C} {b : Bool} (hb : ev ρ x = .bool b) (h1 : b = true → T P A c1 Q ρ σ) (h2 : b = false → T P A c2 Q ρ σ) : T P A (.cond x c1 c2) Q ρ σ := fun code hc κ0 w0 σ0 F κ a w hR => by
  obtain ⟨c, d1, d2, rfl, hx, k1, k2⟩ := compile_cond hc
  have hv := hR.inv.opX hx
  rw [hb] at hv
  refine wp_cond_split (t := b) hv.bool_inv (fun hb => wp_mono (h1 hb d1 k1 κ0 w0 σ0 F κ a w hR) ?_) (fun hb => wp_mono (h2 hb d2 k2 κ0 w0 σ0 F κ a w hR) ?_)
  · rintro e a2 w2 ⟨e2, κ2, ρ2, σ2, g1, g2, g3, g4⟩
    exact ⟨e2, κ2, ρ2, σ2, g1, g2, g3, g4.wider fun i hi => by simp [C.wr, hi]⟩
  · rintro e a2 w2 ⟨e2, κ2, ρ2, σ2, g1, g2, g3, g4⟩
    exact ⟨e2, κ2, ρ2, σ2, g1, g2, g3, g4.wider fun i hi => by simp [C.wr, hi]⟩

theorem T.block {id : Nat} {c : C} (h : T P A c (Ex.inBlock id Q) ρ σ) : T P A (.block id c) Q ρ σ := fun code hc κ0 w0 σ0 F κ a w hR => by
  obtain ⟨d, rfl, hd⟩ := compile_block hc
  refine wp_block (wp_mono (h d hd κ0 w0 σ0 F κ a w hR) ?_)
  rintro e a1 w ⟨e', κ', ρ', σ', rfl, hR', hq, hs⟩
  cases e' with
  | normal => exact ⟨.normal, κ', ρ', σ', rfl, hR', hq, hs⟩
  | exit i =>
    simp only [Ex.inBlock] at hq
    simp only [Ex.to, Exit.inBlock]
    by_cases hi : i = id
    · simp only [hi, if_true] at hq ⊢; exact ⟨.normal, κ', ρ', σ', rfl, hR', hq, hs⟩
    · simp only [hi, if_false] at hq ⊢; exact ⟨.exit i, κ', ρ', σ', rfl, hR', hq, hs⟩
  | ret => exact ⟨.ret, κ', ρ', σ', rfl, hR', hq, hs⟩

/-- a loop: at its head J, and a number that falls -/
theorem T.loop {c : C} (J : List AV → St → Prop) (μ : List AV → St → Nat) (h0 : J ρ σ)
    (h : ∀ ρ σ, J ρ σ → T P A c (Ex.then (fun ρ' σ' => ∃ ρ'' σ'', Gh ρ' σ' ρ'' σ'' ∧ J ρ'' σ'' ∧ μ ρ'' σ'' < μ ρ σ) Q) ρ σ) : T P A (.loop c) Q ρ σ := fun code hc κ0 w0 σ0 F κ a w hR => by
  obtain ⟨d, rfl, hd⟩ := compile_loop hc
  have key : ∀ n κ a1 w ρ σ, AsWas (fun i => c.wr i = true) a a1 → Run κ0 w0 σ0 F κ a1 w ρ σ → J ρ σ → μ ρ σ < n → Code.rounds P d (fun e a' w' => ∃ e' κ' ρ' σ', e = Ex.to e' ∧ Run κ0 w0 σ0 F κ' a' w' ρ' σ' ∧ Q e' ρ' σ' ∧ AsWas (fun i => (C.loop c).wr i = true) a a') n a1 w := by
    intro n
    induction n with
    | zero => intro κ a w ρ σ _ _ _ hlt; omega
    | succ n ihn =>
      intro κ a1 w ρ σ hs hR hj hlt
      rw [rounds_succ]
      refine wp_mono (h ρ σ hj d hd κ0 w0 σ0 F κ a1 w hR) ?_
      rintro e a2 w ⟨e', κ', ρ', σ', rfl, hR', hq, hs2⟩
      have hs' := hs.trans hs2
      cases e' with
      | normal =>
        obtain ⟨ρ'', σ'', hg, hj', hlt'⟩ := hq
        obtain ⟨κ'', hR''⟩ := hg κ0 w0 σ0 F κ' a2 w hR'
        exact ihn κ'' a2 w ρ'' σ'' hs' hR'' hj' (by omega)
      | exit id => exact ⟨.exit id, κ', ρ', σ', rfl, hR', hq, hs'⟩
      | ret => exact ⟨.ret, κ', ρ', σ', rfl, hR', hq, hs'⟩
  exact wp_loop_rounds (μ ρ σ + 1) (key _ κ a w ρ σ (.refl _ _) hR h0 (Nat.lt_succ_self _))

/-- a loop that counts: at its head J i, and i grows up to n -/
theorem T.loopi {c : C} (J : Nat → List AV → St → Prop) (n i0 : Nat) (hi : i0 ≤ n) (h0 : J i0 ρ σ)
    (h : ∀ i ρ σ, i ≤ n → J i ρ σ → T P A c (Ex.then (fun ρ' σ' => i < n ∧ ∃ ρ'' σ'', Gh ρ' σ' ρ'' σ'' ∧ J (i + 1) ρ'' σ'') Q) ρ σ) : T P A (.loop c) Q ρ σ := fun code hc κ0 w0 σ0 F κ a w hR => by
  obtain ⟨d, rfl, hd⟩ := compile_loop hc
  have key : ∀ m i κ a1 w ρ σ, i ≤ n → AsWas (fun i => c.wr i = true) a a1 → Run κ0 w0 σ0 F κ a1 w ρ σ → J i ρ σ → n < i + m → Code.rounds P d (fun e a' w' => ∃ e' κ' ρ' σ', e = Ex.to e' ∧ Run κ0 w0 σ0 F κ' a' w' ρ' σ' ∧ Q e' ρ' σ' ∧ AsWas (fun i => (C.loop c).wr i = true) a a') m a1 w := by
    intro m
    induction m with
    | zero => intro i κ a w ρ σ hin _ _ _ hlt; omega
    | succ m ihm =>
      intro i κ a1 w ρ σ hin hs hR hj hlt
      rw [rounds_succ]
      refine wp_mono (h i ρ σ hin hj d hd κ0 w0 σ0 F κ a1 w hR) ?_
      rintro e a2 w ⟨e', κ', ρ', σ', rfl, hR', hq, hs2⟩
      have hs' := hs.trans hs2
      cases e' with
      | normal =>
        obtain ⟨hlt', ρ'', σ'', hg, hj'⟩ := hq
        obtain ⟨κ'', hR''⟩ := hg κ0 w0 σ0 F κ' a2 w hR'
        exact ihm (i + 1) κ'' a2 w ρ'' σ'' hlt' hs' hR'' hj' (by omega)
      | exit id => exact ⟨.exit id, κ', ρ', σ', rfl, hR', hq, hs'⟩
      | ret => exact ⟨.ret, κ', ρ', σ', rfl, hR', hq, hs'⟩
  exact wp_loop_rounds (n + 1) (key _ i0 κ a w ρ σ hi (.refl _ _) hR h0 (by omega))

theorem T.reg (hm : P.follows .mixedOrders = true) {l : List O} (h : aops (ACalls P) σ.next 0 l ρ (σ.up (namesOf l)) (Q .normal)) : T P A (.reg l) Q ρ σ := fun code hc κ0 w0 σ0 F κ a w hR => by
  obtain ⟨id, ops, draw, rfl, hl, hcb⟩ := compile_reg hc
  have hlen : l.length = ops.size := by rw [(compileOps_get hl).1]; simp
  have hD : ∀ o ∈ l, ∀ x, o.dst = some x → (fun i => (C.reg l).wr i = true) x := fun o ho x hx => by
    show l.any (fun o => o.dst == some x) = true
    exact List.any_eq_true.2 ⟨o, ho, by simp [hx]⟩
  have hfr : ∀ U, Fresh κ (σ.up (namesOf l)) σ.next (namesOf l) U := fun U _ => ⟨fun j _ _ hd => by have := hR.inv.r.dom _ hd; omega, Nat.le_refl _⟩
  cases draw with
  | false =>
    refine wp_region ?_
    have hs := aSeq_of_aops (l := l) ACalls_mono l 0 (by simp) h
    rw [← List.range_eq_range', hlen] at hs
    exact seq_ok hD hl hR.next _ List.nodup_range (hR.up _) (hfr _) hs (.refl _ a) (fun κ a w ρ σ hsm hR hq => ⟨.normal, κ, ρ, σ, rfl, hR, hq, hsm⟩)
  | true =>
    obtain ⟨hcm, hbk⟩ := hcb rfl
    refine wp_region_any hm ?_
    exact any_ok hD hl hR.next _ _ ((hR.up _).drawn _ (Nat.le_succ _)) (hfr _) (aAny_of_aops ACalls_mono hlen hcm hbk h) (.refl _ a) (fun κ a w ρ σ hsm hR hq => ⟨.normal, κ, ρ, σ, rfl, hR, hq, hsm⟩)

end

end

end Go.VL

namespace Go.VL

/-! ### Names in values -/

def Ver.nb (m : Nat) : Ver → Prop
  | .tip h => h < m
  | _ => True

mutual
def AV.nb (m : Nat) : AV → Prop
  | .any | .bool _ | .int _ _ | .str _ | .nilp | .nilm | .nilf | .nili => True
  | .ptr n _ => n < m
  | .eptr cs => nbs m cs
  | .sl xs g => nbs m xs ∧ g.nb m
  | .ref n _ _ => n < m
  | .refr n _ _ => n < m
  | .room g _ => g < m
  | .map n => n < m
  | .func _ a b => nbs m a ∧ nbs m b
  | .iface _ x => x.nb m
  | .agg cs => nbs m cs
  | .tup xs => nbs m xs
def nbs (m : Nat) : List AV → Prop
  | [] => True
  | x :: r => x.nb m ∧ nbs m r
end

theorem nbs_iff {m : Nat} : ∀ {xs : List AV}, nbs m xs ↔ ∀ x ∈ xs, x.nb m
  | [] => by simp [nbs]
  | x :: r => by simp [nbs, nbs_iff (xs := r)]

theorem nb_cells {m : Nat} (x : AV) : nbs m x.cells ↔ x.nb m := by
  cases x <;> simp [AV.cells, nbs, AV.nb]

theorem nbs_flat {m : Nat} : ∀ {xs : List AV}, nbs m (xs.flatMap AV.cells) ↔ nbs m xs
  | [] => by simp [nbs]
  | x :: r => by
    have := nbs_flat (m := m) (xs := r)
    simp only [nbs_iff] at this ⊢
    simp only [List.flatMap_cons, List.mem_append, List.mem_cons]
    constructor
    · intro h y hy
      rcases hy with rfl | hy
      · exact (nb_cells y).1 (nbs_iff.2 fun z hz => h z (.inl hz))
      · exact this.1 (fun z hz => h z (.inr hz)) y hy
    · intro h y hy
      rcases hy with hy | hy
      · exact nbs_iff.1 ((nb_cells x).2 (h x (.inl rfl))) y hy
      · exact this.2 (fun z hz => h z (.inr hz)) y hy

mutual
theorem V.nb {κ : Kx} {w : World} {m : Nat} (hd : ∀ n, κ.dom n → n < m) : ∀ {v : Value} {x : AV}, V κ w v x → x.nb m
  | _, _, .any _ | _, _, .bool _ | _, _, .int _ _ | _, _, .str _ | _, _, .nilp | _, _, .nilm | _, _, .nilf | _, _, .nili => by simp [AV.nb]
  | _, _, .ptr n off h => by simpa [AV.nb] using hd n h
  | _, _, .eptr b o cs h => by simpa [AV.nb] using Vs.nb hd h
  | _, _, .slnil g hg => by rcases hg with rfl | rfl | rfl <;> simp [AV.nb, nbs, Ver.nb]
  | _, _, .slz a g hg => by rcases hg with rfl | rfl <;> simp [AV.nb, nbs, Ver.nb]
  | _, _, .sl b o cap k xs hk hc h => by simpa [AV.nb, Ver.nb] using nbs_flat.1 (Vs.nb hd h)
  | _, _, .tip o cap g xs hk hc hg he hr h => by simpa [AV.nb, Ver.nb] using ⟨nbs_flat.1 (Vs.nb hd h), hd g hg⟩
  | _, _, .ref n off len cap h hc => by simpa [AV.nb] using hd n h
  | _, _, .refr n k len cap h hc hr => by simpa [AV.nb] using hd n h
  | _, _, .room o cap g n hg hc he hr => by simpa [AV.nb] using hd g hg
  | _, _, .map n h => by simpa [AV.nb] using hd n h
  | _, _, .func f a b x y h1 h2 => by simpa [AV.nb] using ⟨Vl.nb hd h1, Vl.nb hd h2⟩
  | _, _, .iface t v x h => by simpa [AV.nb] using V.nb hd h
  | _, _, .agg a x h => by simpa [AV.nb] using Vl.nb hd h
  | _, _, .tup a x h => by simpa [AV.nb] using Vl.nb hd h
theorem Vs.nb {κ : Kx} {w : World} {m : Nat} (hd : ∀ n, κ.dom n → n < m) : ∀ {b o : Nat} {xs : List AV}, Vs κ w b o xs → nbs m xs
  | _, _, _, .nil b o => by simp [nbs]
  | _, _, _, .cons b o u x xs hI hc hu ht => by simpa [nbs] using ⟨V.nb hd hu, Vs.nb hd ht⟩
theorem Vl.nb {κ : Kx} {w : World} {m : Nat} (hd : ∀ n, κ.dom n → n < m) : ∀ {vs : List Value} {xs : List AV}, Vl κ w vs xs → nbs m xs
  | _, _, .nil => by simp [nbs]
  | _, _, .cons v x vs xs h t => by simpa [nbs] using ⟨V.nb hd h, Vl.nb hd t⟩
end

def Kx.cut (κ : Kx) (m : Nat) : Kx := { κ with dom := fun n => κ.dom n ∧ n < m }

mutual
theorem V.cut {κ : Kx} {w : World} {m : Nat} : ∀ {v : Value} {x : AV}, V κ w v x → x.nb m → V (κ.cut m) w v x
  | _, _, .any _, _ => .any _
  | _, _, .bool _, _ => .bool _
  | _, _, .int _ _, _ => .int _ _
  | _, _, .str _, _ => .str _
  | _, _, .nilp, _ => .nilp
  | _, _, .nilm, _ => .nilm
  | _, _, .nilf, _ => .nilf
  | _, _, .nili, _ => .nili
  | _, _, .ptr n off h, hb => V.ptr (κ := κ.cut m) n off ⟨h, by simpa [AV.nb] using hb⟩
  | _, _, .eptr b o cs h, hb => .eptr b o cs (Vs.cut h (by simpa [AV.nb] using hb))
  | _, _, .slnil g hg, _ => .slnil g hg
  | _, _, .slz a g hg, _ => .slz a g hg
  | _, _, .sl b o cap k xs hk hc h, hb => .sl b o cap k xs hk hc (Vs.cut h (nbs_flat.2 (by simp only [AV.nb] at hb; exact hb.1)))
  | _, _, .tip o cap g xs hk hc hg he hr h, hb => V.tip (κ := κ.cut m) o cap g xs hk hc ⟨hg, by simp only [AV.nb, Ver.nb] at hb; exact hb.2⟩ he hr (Vs.cut h (nbs_flat.2 (by simp only [AV.nb] at hb; exact hb.1)))
  | _, _, .ref n off len cap h hc, hb => V.ref (κ := κ.cut m) n off len cap ⟨h, by simpa [AV.nb] using hb⟩ hc
  | _, _, .refr n k len cap h hc hr, hb => V.refr (κ := κ.cut m) n k len cap ⟨h, by simpa [AV.nb] using hb⟩ hc hr
  | _, _, .room o cap g n hg hc he hr, hb => V.room (κ := κ.cut m) o cap g n ⟨hg, by simpa [AV.nb] using hb⟩ hc he hr
  | _, _, .map n h, hb => V.map (κ := κ.cut m) n ⟨h, by simpa [AV.nb] using hb⟩
  | _, _, .func f a b x y h1 h2, hb => .func f a b x y (Vl.cut h1 (by simp only [AV.nb] at hb; exact hb.1)) (Vl.cut h2 (by simp only [AV.nb] at hb; exact hb.2))
  | _, _, .iface t v x h, hb => .iface t v x (V.cut h (by simpa [AV.nb] using hb))
  | _, _, .agg a x h, hb => .agg a x (Vl.cut h (by simpa [AV.nb] using hb))
  | _, _, .tup a x h, hb => .tup a x (Vl.cut h (by simpa [AV.nb] using hb))
theorem Vs.cut {κ : Kx} {w : World} {m : Nat} : ∀ {b o : Nat} {xs : List AV}, Vs κ w b o xs → nbs m xs → Vs (κ.cut m) w b o xs
  | _, _, _, .nil b o, _ => .nil b o
  | _, _, _, .cons b o u x xs hI hc hu ht, hb => .cons b o u x xs hI hc (V.cut hu (by simp only [nbs] at hb; exact hb.1)) (Vs.cut ht (by simp only [nbs] at hb; exact hb.2))
theorem Vl.cut {κ : Kx} {w : World} {m : Nat} : ∀ {vs : List Value} {xs : List AV}, Vl κ w vs xs → nbs m xs → Vl (κ.cut m) w vs xs
  | _, _, .nil, _ => .nil
  | _, _, .cons v x vs xs h t, hb => .cons v x vs xs (V.cut h (by simp only [nbs] at hb; exact hb.1)) (Vl.cut t (by simp only [nbs] at hb; exact hb.2))
end

def enb (m : Nat) : List (AV × AV) → Prop
  | [] => True
  | e :: r => (e.1.nb m ∧ e.2.nb m) ∧ enb m r

def Res.nb (m : Nat) : Res → Prop
  | .obj cs => nbs m cs
  | .tip _ => True
  | .map es _ _ => enb m es
  | .iter n _ _ _ => ∀ n', n = some n' → n' < m
  | .siter _ _ => True
  | .glob _ _ => True

theorem Vm.cut {κ : Kx} {w : World} {m : Nat} : ∀ {es : List MapEntry} {ps : List (AV × AV)}, Vm κ w es ps → enb m ps → Vm (κ.cut m) w es ps
  | _, _, .nil, _ => .nil
  | _, _, .cons e p es ps hk hv t, hb => .cons e p es ps (hk.cut hb.1.1) (hv.cut hb.1.2) (t.cut hb.2)

theorem Vm.nb {κ : Kx} {w : World} {m : Nat} (hd : ∀ n, κ.dom n → n < m) : ∀ {es : List MapEntry} {ps : List (AV × AV)}, Vm κ w es ps → enb m ps
  | _, _, .nil => trivial
  | _, _, .cons e p es ps hk hv t => ⟨⟨hk.nb hd, hv.nb hd⟩, t.nb hd⟩

theorem Owns.cut {κ : Kx} {w : World} {n m : Nat} {r : Res} (h : Owns κ w n r) (hb : r.nb m) : Owns (κ.cut m) w n r := by
  cases r with
  | obj cs => obtain ⟨us, rest, t, fz, h1, h2, h3, h4⟩ := h; exact ⟨us, rest, t, fz, h1, h2, h3.cut hb, h4⟩
  | tip k => exact h
  | map es ts clk => obtain ⟨ents, h1, h2, h4⟩ := h; exact ⟨ents, h1, h2.cut hb, h4⟩
  | iter n' since seen last => exact ⟨h.1, fun m' hm => ⟨h.2.1 m' hm, hb m' hm⟩, h.2.2⟩
  | siter s p => exact h
  | glob b v => exact h

theorem Owns.nb {κ : Kx} {w : World} {n m : Nat} {r : Res} (hd : ∀ n, κ.dom n → n < m) (h : Owns κ w n r) : r.nb m := by
  cases r with
  | obj cs => obtain ⟨us, rest, t, fz, h1, h2, h3, h4, _⟩ := h; exact h3.nb hd
  | tip k => trivial
  | map es ts clk => obtain ⟨ents, h1, h2, h4⟩ := h; exact h2.nb hd
  | iter n' since seen last => exact fun n' hn => hd n' (h.2.1 n' hn)
  | siter s p => trivial
  | glob b v => trivial

/-! ### Ghost steps -/

theorem R.fewer {B : Nat} {F : Nat → Prop} {κ : Kx} {w : World} {σ σ' : St} (h : R B F κ w σ) (hn : σ.next ≤ σ'.next) (hr : ∀ n r, σ'.res n = some r → σ.res n = some r) : R B F κ w σ' :=
  ⟨fun n hd => Nat.lt_of_lt_of_le (h.dom n hd) hn, fun n r hx => h.own n r (hr n r hx), fun n m r s hx hy => h.apart n m r s (hr n r hx) (hr m s hy), h.imm, fun n r hx hrl => h.foot n r (hr n r hx) hrl⟩

theorem Gh.drop {ρ : List AV} {σ σ' : St} (hn : σ'.next = σ.next) (hr : ∀ n r, σ'.res n = some r → σ.res n = some r) : Gh ρ σ ρ σ' := fun κ0 w0 σ0 F κ a w h =>
  ⟨κ, ⟨h.inv.r.fewer (Nat.le_of_eq hn.symm) hr, h.inv.fr, h.inv.env, h.inv.defers⟩, h.ext, h.dom, by rw [hn]; exact h.next⟩

/-- a weaker view of one value -/
def Wk (x y : AV) : Prop := ∀ (κ : Kx) (w : World) (v : Value), V κ w v x → V κ w v y

theorem Wk.refl (x : AV) : Wk x x := fun _ _ _ h => h

theorem Wk.any (x : AV) : Wk x .any := fun _ _ v _ => .any v

theorem Wk.sl (xs : List AV) (g : Ver) : Wk (.sl xs g) (.sl xs .none) := fun _ _ _ h => h.weak

inductive Wks : List AV → List AV → Prop where
  | nil : Wks [] []
  | cons {x y : AV} {xs ys : List AV} (h : Wk x y) (t : Wks xs ys) : Wks (x :: xs) (y :: ys)

theorem Wks.vl {κ : Kx} {w : World} : ∀ {xs ys : List AV}, Wks xs ys → ∀ {vs : List Value}, Vl κ w vs xs → Vl κ w vs ys
  | _, _, .nil, _, h => h
  | _, _, .cons h t, _, k => by
    cases k with
    | cons v x vs xs hv ht => exact .cons _ _ _ _ (h κ w v hv) (t.vl ht)

theorem Wks.refl : ∀ xs, Wks xs xs
  | [] => .nil
  | x :: xs => .cons (.refl x) (Wks.refl xs)

theorem Gh.env {ρ ρ' : List AV} {σ : St} (h : Wks ρ ρ') : Gh ρ σ ρ' σ := fun κ0 w0 σ0 F κ a w hR =>
  ⟨κ, ⟨hR.inv.r, hR.inv.fr, h.vl hR.inv.env, hR.inv.defers⟩, hR.ext, hR.dom, hR.next⟩

/-- only what is listed is kept -/
def keep (l : List Nat) (k : Nat) : List AV → List AV
  | [] => []
  | x :: r => (if l.contains k then x else .any) :: keep l (k + 1) r

theorem keep_wks (l : List Nat) : ∀ (k : Nat) (ρ : List AV), Wks ρ (keep l k ρ)
  | _, [] => .nil
  | k, x :: r => .cons (by split; exact .refl x; exact .any x) (keep_wks l (k + 1) r)

theorem Gh.keep (l : List Nat) {ρ : List AV} {σ : St} : Gh ρ σ (keep l 0 ρ) σ := .env (keep_wks l 0 ρ)

/-- an owned row that is told to be a value -/
theorem Gh.freeze {ρ : List AV} {σ : St} {t n off len k : Nat} {cs xs : List AV} (ht : ρ[t]? = some (.ref n off len)) (hr : σ.res n = some (.obj cs)) (hlen : xs.length = len) (hk : ∀ x ∈ xs, x.cells.length = k)
    (hx : xs.flatMap AV.cells = (cs.drop off).take (len * k)) (hoff : off ≤ cs.length) : Gh ρ σ (ρ.set t (.sl xs .none)) (σ.del n) := by
  intro κ0 w0 σ0 F κ a w h
  obtain ⟨hd, us, rest, ty, fz, h1, h2, h3, h4, _⟩ := h.inv.r.own n _ hr
  have e : Ext κ w { κ with I := fun b o => κ.I b o ∨ (b = κ.φ n ∧ o < us.length) } w := ⟨fun _ _ x => .inl x, fun _ _ => rfl, fun _ _ => rfl, fun _ _ => rfl, fun _ _ => rfl, fun _ x => x, fun _ _ _ => rfl⟩
  have hlt := h.inv.r.lt hr
  have hR : R w0.heap.size F { κ with I := fun b o => κ.I b o ∨ (b = κ.φ n ∧ o < us.length) } w (σ.del n) := by
    refine h.inv.r.step e (fun m hm => h.inv.r.dom m hm) (fun b o hi => ?_) (fun m r hm => ?_)
    · rcases hi with hi | ⟨rfl, _⟩
      · exact h.inv.r.imm b o hi
      · exact hlt
    · have hmn : m ≠ n := by intro e; subst e; simp [St.del] at hm
      have hm' : σ.res m = some r := by simpa [St.del, hmn] using hm
      refine .inl ⟨hm', rfl, fun o hi => ?_⟩
      rcases hi with hi | ⟨hx, _⟩
      · exact hi
      · exact absurd (h.inv.r.apart _ _ _ _ hm' hr hx) hmn
  refine ⟨_, ⟨hR, h.inv.fr, ?_, h.inv.defers⟩, h.ext.trans e, h.dom, h.next⟩
  obtain ⟨v, hv, hvv⟩ := h.inv.env.get? t _ ht
  have henv := h.inv.env.mono e
  obtain ⟨cap, rfl, hcap, _⟩ := hvv.ref_inv
  have hset : a.tmps.toList.set t (.slice (some ⟨κ.φ n, off, none⟩) len cap) = a.tmps.toList := by
    apply List.ext_getElem?
    intro i
    rw [List.getElem?_set]
    split
    · rename_i hi; subst hi
      split
      · rw [hv]
      · rename_i hge; rw [List.getElem?_eq_none (by omega)] at hv; cases hv
    · rfl
  rw [← hset]
  refine henv.set t ?_
  rw [← hlen]
  refine .sl _ _ cap k xs hk (by rw [hlen]; exact hcap) ?_
  rw [hx]
  have hlen' : us.length = cs.length := h3.length
  refine Vs.mk (us := (us.drop off).take (len * k)) (((h3.mono e).drop off).take _) (fun i u hu => ?_)
  have hu2 : us[off + i]? = some u := by
    rw [List.getElem?_take] at hu
    split at hu
    · simpa using hu
    · cases hu
  have hil : off + i < us.length := (List.getElem?_eq_some_iff.1 hu2).1
  exact ⟨.inr ⟨rfl, hil⟩, by rw [cell_of h1, List.getElem?_append_left hil]; exact hu2⟩

/-! ### Results -/

inductive RX where
  | t (i : Nat)
  | cell (a : Nat) (k : Option Nat)

def resX1 (P : Program) : ResultVar → Option RX
  | .tmp t => some (.t t)
  | .cell a ty => (kindOf P ty).map fun k => .cell a k

def resX (P : Program) : List ResultVar → Option (List RX)
  | [] => some []
  | r :: rest => match resX1 P r, resX P rest with
    | some x, some y => some (x :: y)
    | _, _ => none

def rval (ρ : List AV) (σ : St) : RX → Option AV
  | .t i => some (ρ.getD i .any)
  | .cell a k => match ρ.getD a .any with
    | .ptr n off => match σ.res n with
      | some (.obj cs) => ldc cs off k
      | _ => none
    | _ => none

def rvals (ρ : List AV) (σ : St) : List RX → Option (List AV)
  | [] => some []
  | r :: rest => match rval ρ σ r, rvals ρ σ rest with
    | some x, some y => some (x :: y)
    | _, _ => none

def pack : List AV → AV
  | [x] => x
  | xs => .tup xs

section

variable {P : Program} {κ0 : Kx} {w0 : World} {σ0 : St} {F : Nat → Prop} {a : Act} {w : World} {κ : Kx} {ρ : List AV} {σ : St}

def resOne (tmps : Array Value) : ResultVar → Sem Value
  | .tmp t => pure (tmps.getD t undef)
  | .cell a t => do loadVar t (← asAddr (tmps.getD a undef))

theorem results_eq (fn : Func) (tmps : Array Value) : results fn tmps = (do let vs ← fn.results.mapM (resOne tmps); pure (if h : vs.size = 1 then vs[0] else .tuple vs)) := rfl

theorem res1_ok (h : Inv w0 F κ a w ρ σ) {r : ResultVar} {x : RX} (hx : resX1 P r = some x) {y : AV} (hy : rval ρ σ x = some y) :
    ∃ v, (resOne a.tmps r).run P w = .ok v w ∧ V κ w v y := by
  cases r with
  | tmp t =>
    simp only [resX1, Option.some.injEq] at hx; subst hx
    simp only [rval, Option.some.injEq] at hy; subst hy
    exact ⟨a.tmps.getD t undef, by simp [resOne], by simpa using h.env.get t⟩
  | cell b ty =>
    simp only [resX1, Option.map_eq_some_iff] at hx
    obtain ⟨k, hk, rfl⟩ := hx
    simp only [rval] at hy
    split at hy
    · rename_i n off hp
      split at hy
      · rename_i cs hr
        have hv := h.env.get b
        rw [hp] at hv
        have e1 : a.tmps.getD b undef = .pointer (some ⟨κ.φ n, off, none⟩) := by
          have := hv.ptr_inv.1
          simpa using this
        have hrow := (Row.of_own (h.r.own n _ hr).2).drop off
        rw [Nat.zero_add] at hrow
        obtain ⟨u, g1, g2⟩ := run_loadVar (P := P) hk hrow (ldc_drop hy)
        exact ⟨u, by simp only [resOne, e1]; simpa [asAddr] using g1, g2⟩
      · cases hy
    · cases hy

theorem res_ok (h : Inv w0 F κ a w ρ σ) : ∀ {rs : List ResultVar} {xs : List RX} {ys : List AV}, resX P rs = some xs → rvals ρ σ xs = some ys →
    ∃ vs, (List.mapM (m := Sem) (resOne a.tmps) rs).run P w = .ok vs w ∧ Vl κ w vs ys
  | [], xs, ys, hx, hy => by
    simp only [resX, Option.some.injEq] at hx; subst hx
    simp only [rvals, Option.some.injEq] at hy; subst hy
    exact ⟨[], by simp, .nil⟩
  | r :: rs, xs, ys, hx, hy => by
    simp only [resX] at hx
    split at hx
    · rename_i x xs' h1 h2
      simp only [Option.some.injEq] at hx; subst hx
      simp only [rvals] at hy
      split at hy
      · rename_i y ys' k1 k2
        simp only [Option.some.injEq] at hy; subst hy
        obtain ⟨v, g1, g2⟩ := res1_ok h h1 k1
        obtain ⟨vs, g3, g4⟩ := res_ok h h2 k2
        refine ⟨v :: vs, ?_, .cons _ _ _ _ g2 g4⟩
        rw [List.mapM_cons]
        simp only [Sem.run_bind]
        rw [g1]
        simp only [Result.andThen_ok]
        rw [g3]
        simp
      · cases hy
    · cases hx

theorem results_ok (h : Inv w0 F κ a w ρ σ) {fn : Func} {xs : List RX} {ys : List AV} (hx : resX P fn.results.toList = some xs) (hy : rvals ρ σ xs = some ys) :
    ∃ v, (results fn a.tmps).run P w = .ok v w ∧ V κ w v (pack ys) := by
  obtain ⟨vs, g1, g2⟩ := res_ok h hx hy
  have g3 := run_mapM_arr (P := P) (w := w) _ fn.results vs g1
  rw [results_eq]
  simp only [Sem.run_bind]
  rw [g3]
  simp only [Result.andThen_ok, Sem.run_pure]
  refine ⟨_, rfl, ?_⟩
  cases g2 with
  | nil => simpa [pack] using V.tup [] [] .nil
  | cons v x vs xs hv t =>
    cases t with
    | nil => simpa [pack] using hv
    | cons v' x' vs' xs' hv' t' => simpa [pack] using V.tup (v :: v' :: vs') (x :: x' :: xs') (.cons _ _ _ _ hv (.cons _ _ _ _ hv' t'))

end

/-- names ahead are free -/
def WF (σ : St) : Prop := ∀ n, σ.next ≤ n → σ.res n = none

/-- What a call leaves may be told in another way. -/
def Gv (σ0 : St) (x : AV) (σ : St) (x' : AV) (σ' : St) : Prop :=
  ∀ (κ0 : Kx) (w0 : World) (B0 : Nat) (F0 F : Nat → Prop) (κ : Kx) (w : World) (v : Value), R B0 F0 κ0 w0 σ0 → R w0.heap.size F κ w σ → Ext κ0 w0 κ w → (∀ n, κ.dom n → κ0.dom n ∨ σ0.next ≤ n) → σ0.next ≤ σ.next → V κ w v x →
    ∃ κ', R w0.heap.size F κ' w σ' ∧ Ext κ0 w0 κ' w ∧ (∀ n, κ'.dom n → κ0.dom n ∨ σ0.next ≤ n) ∧ σ0.next ≤ σ'.next ∧ V κ' w v x'

theorem Gv.refl {σ0 σ : St} {x : AV} : Gv σ0 x σ x σ := fun _ _ _ _ _ κ _ _ _ h1 h2 h3 h4 h5 => ⟨κ, h1, h2, h3, h4, h5⟩

theorem Gv.wk {σ0 σ : St} {x y : AV} (h : Wk x y) : Gv σ0 x σ y σ := fun _ _ _ _ _ κ _ _ _ h1 h2 h3 h4 h5 => ⟨κ, h1, h2, h3, h4, h _ _ _ h5⟩

/-- names that nobody needs any more are given back -/
theorem Gv.cut {σ0 σ σ' : St} {x : AV} (hm0 : σ0.next ≤ σ'.next) (hx : x.nb σ'.next) (hr : ∀ n r, σ'.res n = some r → σ.res n = some r ∧ (σ0.res n = some r ∨ (n < σ'.next ∧ r.nb σ'.next))) : Gv σ0 x σ x σ' := by
  intro κ0 w0 B0 F0 F κ w v h0 hR he hd hn hv
  have hd0 : ∀ n, κ0.dom n → n < σ'.next := fun n h => Nat.lt_of_lt_of_le (h0.dom n h) hm0
  refine ⟨κ.cut σ'.next, ⟨fun n h => h.2, fun n r hnr => ?_, fun n m r s hx hy => hR.apart n m r s (hr n r hx).1 (hr m s hy).1, hR.imm, fun n r hx hrl => hR.foot n r (hr n r hx).1 hrl⟩, ?_, fun n h => hd n h.1, hm0, hv.cut hx⟩
  · obtain ⟨h1, h2⟩ := hr n r hnr
    obtain ⟨k1, k2⟩ := hR.own n r h1
    rcases h2 with h2 | ⟨h2, h3⟩
    · obtain ⟨g1, g2⟩ := h0.own n r h2
      exact ⟨⟨k1, hd0 n g1⟩, k2.cut (g2.nb hd0)⟩
    · exact ⟨⟨k1, h2⟩, k2.cut h3⟩
  · exact ⟨he.I, he.φ, he.ψ, he.χ, he.ξ, fun n h => ⟨he.dom n h, hd0 n h⟩, he.cell⟩

theorem Gv.quiet {σ0 σ : St} {x : AV} (hx : x.nb σ0.next) (hr : ∀ n r, σ0.res n = some r → σ.res n = some r) : Gv σ0 x σ x σ0 :=
  .cut (Nat.le_refl _) hx (fun n r h => ⟨hr n r h, .inl h⟩)

theorem Gv.trans {σ0 σ σ1 σ2 : St} {x x1 x2 : AV} (h : Gv σ0 x σ x1 σ1) (k : Gv σ0 x1 σ1 x2 σ2) : Gv σ0 x σ x2 σ2 := by
  intro κ0 w0 B0 F0 F κ w v h0 h1 h2 h3 h4 h5
  obtain ⟨κ1, g1, g2, g3, g4, g5⟩ := h κ0 w0 B0 F0 F κ w v h0 h1 h2 h3 h4 h5
  exact k κ0 w0 B0 F0 F κ1 w v h0 g1 g2 g3 g4 g5

/-- WHERE A FUNCTION ENDS -/
def Fin (σ0 : St) (rs : List RX) (K : AV → St → Prop) : Ex → List AV → St → Prop
  | .exit _, _, _ => False
  | _, ρ, σ => ∃ ρ' σ' xs x σ'', Gh ρ σ ρ' σ' ∧ rvals ρ' σ' rs = some xs ∧ Gv σ0 (pack xs) σ' x σ'' ∧ K x σ''

theorem calls_ok {P : Program} {A : Ann} {f : Nat} {fn : Func} {code : Code} {c : C} {rs : List RX} {nt : Nat} (hf : P.funcs[f]? = some fn) (hb : fn.body = some code) (hnm : (fn.name == "runtime.NumGoroutine") = false)
    (hc : compileC P A code = some c) (hr : resX P fn.results.toList = some rs) (hnt : fn.ntmps = nt) {args : List AV} {σ : St} {K : AV → St → Prop}
    (h : WF σ → T P A c (Fin σ rs K) (args ++ List.replicate (nt - args.length) (.tup [])) σ) : ACalls P f args σ K := by
  refine ⟨⟨fn, hf, by simp [hb], hnm⟩, fun κ w vs B F hR hv => ?_⟩
  have hwf : WF σ := fun n hn => by
    cases hx : σ.res n with
    | none => rfl
    | some r => have := hR.dom n (hR.own n r hx).1; omega
  have hlen := hv.length
  have hR' : R w.heap.size (ownd κ σ) κ w σ := ⟨hR.dom, hR.own, hR.apart, hR.imm, fun n r hx hrl => .inl ⟨n, r, hx, hrl, rfl⟩⟩
  have hanys : ∀ k, Vl κ w (List.replicate k undef) (List.replicate k (.tup [])) := by
    intro k
    induction k with
    | zero => exact .nil
    | succ k ih => exact .cons _ _ _ _ (.tup [] [] .nil) ih
  refine calls_of_wp hf hb ?_
  have hrun : Run κ w σ (ownd κ σ) κ { tmps := (⟨vs⟩ : Array Value) ++ Array.replicate (fn.ntmps - (⟨vs⟩ : Array Value).size) undef, defers := [] } w (args ++ List.replicate (nt - args.length) (.tup [])) σ := by
    refine ⟨⟨hR', .refl _ _, ?_, rfl⟩, .refl _ _, fun n h => .inl h, Nat.le_refl _⟩
    have : ((⟨vs⟩ : Array Value) ++ Array.replicate (fn.ntmps - (⟨vs⟩ : Array Value).size) undef).toList = vs ++ List.replicate (nt - args.length) undef := by
      rw [Array.toList_append, Array.toList_replicate, hnt, ← hlen]
      simp
    rw [this]
    exact hv.append (hanys _)
  refine wp_mono (h hwf code hc κ w σ _ κ _ w hrun) ?_
  rintro e a' w' ⟨e', κ', ρ', σ', rfl, hR1, hq, _⟩
  have fin : (∃ ρ1 σ1 xs x σ'', Gh ρ' σ' ρ1 σ1 ∧ rvals ρ1 σ1 rs = some xs ∧ Gv σ (pack xs) σ1 x σ'' ∧ K x σ'') → a'.defers = [] ∧ ∃ v, (results fn a'.tmps).run P w' = .ok v w' ∧
      (∃ v' x κ' σ', Ending.returned v = .returned v' ∧ Ext κ w κ' w' ∧ (∀ n, κ'.dom n → κ.dom n ∨ σ.next ≤ n) ∧ R w.heap.size (ownd κ σ) κ' w' σ' ∧ Fr (ownd κ σ) w w' ∧ σ.next ≤ σ'.next ∧ V κ' w' v' x ∧ K x σ') := by
    rintro ⟨ρ1, σ1, xs, x, σ'', hg, hxs, hgv, hk⟩
    obtain ⟨κ1, hR2⟩ := hg κ w σ (ownd κ σ) κ' a' w' hR1
    obtain ⟨v, hv1, hv2⟩ := results_ok hR2.inv hr hxs
    obtain ⟨κ2, g1, g2, g3, g4, g5⟩ := hgv κ w B F (ownd κ σ) κ1 w' v hR hR2.inv.r hR2.ext hR2.dom hR2.next hv2
    exact ⟨hR2.inv.defers, v, hv1, v, x, κ2, σ'', rfl, g2, g3, g1, hR2.inv.fr, g4, g5, hk⟩
  cases e' with
  | normal => exact fin hq
  | exit id => exact hq.elim
  | ret => exact fin hq

end Go.VL

namespace Go.VL

/-- a value list's length is any -/
theorem T.seq_k {P : Program} {A : Ann} {x y : C} {Q : Ex → List AV → St → Prop} {ρ : List AV} {σ : St} (h : ∀ K : List AV → St → Prop, (∀ ρ σ, T P A y Q ρ σ → K ρ σ) → T P A x (Ex.then K Q) ρ σ) : T P A (.seq x y) Q ρ σ :=
  T.seq (h _ fun _ _ h => h)

/-- (the thing itself is looked at first: else what follows is walked once too often at each step) -/
theorem opt_def {α : Type} (K : α → Prop) (z : Option α) : opt K z = (match z with | some v => K v | none => False) := by cases z <;> rfl

theorem then_normal {K : List AV → St → Prop} {Q : Ex → List AV → St → Prop} : Ex.then K Q .normal = K := rfl

theorem then_exit {K : List AV → St → Prop} {Q : Ex → List AV → St → Prop} {i : Nat} : Ex.then K Q (.exit i) = Q (.exit i) := rfl

theorem inBlock_normal {Q : Ex → List AV → St → Prop} {i : Nat} : Ex.inBlock i Q .normal = Q .normal := rfl

theorem inBlock_exit {Q : Ex → List AV → St → Prop} {i : Nat} : Ex.inBlock i Q (.exit i) = Q .normal := by funext ρ σ; simp [Ex.inBlock]

theorem lt_len {α : Type} (i : Nat) (l : List α) : ((i : Int) < (l.length : Int)) = (i < l.length) := by simp

theorem le_len {α : Type} (i : Nat) (l : List α) : ((i : Int) ≤ (l.length : Int)) = (i ≤ l.length) := by simp

theorem er_int (k : IntKind) (n : Int) : (AV.int k n).er = .int k n := rfl

theorem er_bool (b : Bool) : (AV.bool b).er = .bool b := rfl

theorem er_str (s : ByteArray) : (AV.str s).er = .str s := rfl

theorem up_zero (σ : St) : σ.up 0 = σ := rfl

theorem Fin.ret {σ0 : St} {rs : List RX} {K : AV → St → Prop} {ρ : List AV} {σ : St} {xs : List AV} (h1 : rvals ρ σ rs = some xs) (h2 : K (pack xs) σ) : Fin σ0 rs K .ret ρ σ :=
  ⟨ρ, σ, xs, _, σ, .refl, h1, .refl, h2⟩

theorem Fin.quiet {σ0 : St} {rs : List RX} {K : AV → St → Prop} {ρ : List AV} {σ : St} {xs : List AV} (h1 : rvals ρ σ rs = some xs) (hx : (pack xs).nb σ0.next) (hr : ∀ n r, σ0.res n = some r → σ.res n = some r) (h2 : K (pack xs) σ0) : Fin σ0 rs K .ret ρ σ :=
  ⟨ρ, σ, xs, _, σ0, .refl, h1, .quiet hx hr, h2⟩

/-- the same, a guard as 'if': it is looked at before what it guards -/
def aopsI (CP : CallP) (base : Nat) : Nat → List O → List AV → St → (List AV → St → Prop) → Prop
  | _, [], ρ, σ, K => K ρ σ
  | i, o :: r, ρ, σ, K =>
    match o.g with
    | none => astep CP (base + i) ρ σ (fun v σ' => aopsI CP base (i + 1) r (setd ρ v o.dst) σ' K) o.i
    | some (t, b) => match ρ.getD t .any with
      | .bool c => if c = b then astep CP (base + i) ρ σ (fun v σ' => aopsI CP base (i + 1) r (setd ρ v o.dst) σ' K) o.i else aopsI CP base (i + 1) r (setd ρ (.tup []) o.dst) σ K
      | .tup [] => aopsI CP base (i + 1) r (setd ρ (.tup []) o.dst) σ K
      | _ => False

theorem aops_of_I {CP : CallP} (hCP : CPMono CP) {base : Nat} {K : List AV → St → Prop} : ∀ {i : Nat} {l : List O} {ρ : List AV} {σ : St}, aopsI CP base i l ρ σ K → aops CP base i l ρ σ K
  | _, [], _, _, h => h
  | i, o :: r, ρ, σ, h => by
    simp only [aopsI] at h
    simp only [aops]
    cases hg : o.g with
    | none => rw [hg] at h; exact astep_mono hCP (fun v σ' h => aops_of_I hCP h) h
    | some p =>
      obtain ⟨t, b⟩ := p
      simp only [hg] at h ⊢
      split at h
      · rename_i c hc
        simp only [hc]
        split at h
        · rename_i hcb
          exact ⟨fun _ => astep_mono hCP (fun v σ' h => aops_of_I hCP h) h, fun h2 => by subst hcb; cases c <;> cases h2⟩
        · rename_i hcb
          exact ⟨fun h2 => absurd h2 hcb, fun _ => aops_of_I hCP h⟩
      · rename_i hc; simp only [hc]; exact aops_of_I hCP h
      · exact h.elim

theorem T.regi {P : Program} {A : Ann} {Q : Ex → List AV → St → Prop} {ρ : List AV} {σ : St} (hm : P.follows .mixedOrders = true) {l : List O} (h : aopsI (ACalls P) σ.next 0 l ρ (σ.up (namesOf l)) (Q .normal)) : T P A (.reg l) Q ρ σ :=
  T.reg hm (aops_of_I ACalls_mono h)

/-- what a call comes to may be told in another way -/
theorem ACalls.gv {P : Program} {f : Nat} {args : List AV} {σ : St} {K K' : AV → St → Prop} (h : ACalls P f args σ K) (hk : WF σ → ∀ v σ', K v σ' → ∃ v' σ'', Gv σ v σ' v' σ'' ∧ K' v' σ'') : ACalls P f args σ K' := by
  refine ⟨h.1, fun κ w vs B F hR hv => (h.2 κ w vs B F hR hv).mono ?_⟩
  rintro e w' ⟨v, x, κ', σ', rfl, h2, h3, h4, h5, h6, h7, h8⟩
  have hwf : WF σ := fun n hn => by
    cases hx : σ.res n with
    | none => rfl
    | some r => have := hR.dom n (hR.own n r hx).1; omega
  obtain ⟨x', σ'', hg, hk'⟩ := hk hwf x σ' h8
  obtain ⟨κ2, g1, g2, g3, g4, g5⟩ := hg κ w B F (ownd κ σ) κ' w' v hR h4 h2 h3 h6 h7
  exact ⟨v, x', κ2, σ'', rfl, g2, g3, g1, h5, g4, g5, hk'⟩

/-- but for one named end what is owned is as it was -/
structure OneTip (σ σ' : St) (g k : Nat) : Prop where
  lo : σ.next ≤ g
  hi : g < σ'.next
  res : σ'.res = (σ.set g (.tip k)).res

theorem OneTip.at_ {σ σ' : St} {g k : Nat} (h : OneTip σ σ' g k) : σ'.res g = some (.tip k) := by rw [h.res]; simp

theorem OneTip.new {σ : St} {n i k : Nat} (hi : i < n) : OneTip σ ((σ.up n).set (σ.next + i) (.tip k)) (σ.next + i) k := ⟨by omega, by simp; omega, rfl⟩

theorem OneTip.app {σ σ' : St} {g k n i : Nat} (wf : WF σ) (h : OneTip σ σ' g k) (hi : i < n) : OneTip σ (((σ'.up n).del g).set (σ'.next + i) (.tip k)) (σ'.next + i) k := by
  have h1 := h.lo
  have h2 := h.hi
  refine ⟨by omega, by simp; omega, ?_⟩
  funext m
  have hr := congrFun h.res m
  simp only [St.set, St.del, St.up] at hr ⊢
  by_cases hm : m = σ'.next + i
  · simp [hm]
  · simp only [hm, if_false]
    by_cases hg : m = g
    · subst hg; simp; exact (wf m h1).symm
    · simp [hg] at hr ⊢; exact hr

theorem OneTip.mv {σ σ' : St} {g g2 k : Nat} (wf : WF σ) (h : OneTip σ σ' g k) (hlo : σ.next ≤ g2) (hhi : g2 < σ'.next) : OneTip σ ((σ'.del g).set g2 (.tip k)) g2 k := by
  have h1 := h.lo
  refine ⟨hlo, by simpa using hhi, ?_⟩
  funext m
  have hr := congrFun h.res m
  simp only [St.set, St.del] at hr ⊢
  by_cases hm : m = g2
  · simp [hm]
  · simp only [hm, if_false]
    by_cases hg : m = g
    · subst hg; simp; exact (wf m h1).symm
    · simp [hg] at hr ⊢; exact hr

theorem OneTip.up {σ σ' : St} {g k : Nat} (h : OneTip σ σ' g k) (n : Nat) : OneTip σ (σ'.up n) g k := ⟨h.lo, Nat.lt_of_lt_of_le h.hi (Nat.le_add_right _ _), h.res⟩

theorem OneTip.quiet {σ σ' : St} {g k : Nat} (wf : WF σ) (h : OneTip σ σ' g k) : ∀ n r, σ.res n = some r → σ'.res n = some r := by
  intro n r hr
  rw [h.res]
  have : n ≠ g := fun e => by subst e; rw [wf n h.lo] at hr; cases hr
  rw [St.set_other _ _ this]; exact hr

/-! ### A table of what quiet calls come to -/

def PureC (P : Program) (f : Nat) (g : List AV → Option AV) : Prop := ∀ args σ v, g args = some v → ACalls P f args σ (fun x σ' => x = v ∧ σ' = σ)

abbrev Tbl := List (Nat × (List AV → Option AV))

def Tbl.get : Tbl → Nat → Option (List AV → Option AV)
  | [], _ => none
  | p :: r, f => if p.1 = f then some p.2 else Tbl.get r f

def CPt (P : Program) (tbl : Tbl) (f : Nat) (args : List AV) (σ : St) (K : AV → St → Prop) : Prop :=
  match tbl.get f with
  | some g => opt (fun v => K v σ) (g args)
  | none => ACalls P f args σ K

def Tbl.ok (P : Program) (tbl : Tbl) : Prop := ∀ p ∈ tbl, PureC P p.1 p.2

theorem Tbl.ok_nil {P : Program} : Tbl.ok P [] := fun _ h => by cases h

theorem Tbl.ok_cons {P : Program} {f : Nat} {g : List AV → Option AV} {tbl : Tbl} (h : PureC P f g) (t : Tbl.ok P tbl) : Tbl.ok P ((f, g) :: tbl) := fun p hp => by
  rcases List.mem_cons.1 hp with rfl | hp
  · exact h
  · exact t p hp

theorem Tbl.get_ok {P : Program} : ∀ {tbl : Tbl}, tbl.ok P → ∀ {f : Nat} {g : List AV → Option AV}, tbl.get f = some g → PureC P f g
  | [], _, _, _, h => by cases h
  | p :: r, hok, f, g, h => by
    simp only [Tbl.get] at h
    split at h
    · rename_i he
      simp only [Option.some.injEq] at h
      subst he; subst h
      exact hok p (by simp)
    · exact Tbl.get_ok (fun q hq => hok q (List.mem_cons_of_mem _ hq)) h

theorem CPt_le {P : Program} {tbl : Tbl} (hok : tbl.ok P) {f : Nat} {args : List AV} {σ : St} {K : AV → St → Prop} (h : CPt P tbl f args σ K) : ACalls P f args σ K := by
  unfold CPt at h
  split at h
  · rename_i g hg
    obtain ⟨v, hv, hk⟩ := opt_some h
    exact (Tbl.get_ok hok hg args σ v hv).mono fun x σ' ⟨e1, e2⟩ => by rw [e1, e2]; exact hk
  · exact h

theorem CPt_mono {P : Program} {tbl : Tbl} : CPMono (CPt P tbl) := by
  intro f args σ K K' hk h
  unfold CPt at *
  split at h
  · exact opt_mono (fun v h => hk v σ h) h
  · exact h.mono hk

/-- a quiet call, as a table tells it -/
def qstep (CP : CallP) (nm : Nat) (ρ : List AV) (σ : St) (K : AV → St → Prop) (Q : Nat → List AV → St → (AV → St → Prop) → Prop) : I → Prop
  | .qcall f args => Q f (args.map (ev ρ)) σ K
  | .qcallv x args => match ev ρ x with
    | .func f first captured => Q f (first ++ args.map (ev ρ) ++ captured) σ K
    | _ => False
  | i => astep CP nm ρ σ K i

def qget (P : Program) (tbl : Tbl) (f : Nat) (args : List AV) (σ : St) (K : AV → St → Prop) : Prop :=
  match tbl.get f with
  | some g => opt (fun v => K v σ) (g args)
  | none => ∃ v, ACalls P f args σ (fun v' σ' => v' = v ∧ σ' = σ) ∧ K v σ

theorem qget_ok {P : Program} {tbl : Tbl} (hok : tbl.ok P) {f : Nat} {args : List AV} {σ : St} {K : AV → St → Prop} (h : qget P tbl f args σ K) : ∃ v, ACalls P f args σ (fun v' σ' => v' = v ∧ σ' = σ) ∧ K v σ := by
  unfold qget at h
  split at h
  · rename_i g hg
    obtain ⟨v, hv, hk⟩ := opt_some h
    exact ⟨v, Tbl.get_ok hok hg args σ v hv, hk⟩
  · exact h

theorem step_le {P : Program} {tbl : Tbl} (hok : tbl.ok P) {nm : Nat} {ρ : List AV} {σ : St} {K : AV → St → Prop} {i : I} (h : qstep (CPt P tbl) nm ρ σ K (qget P tbl) i) : astep (ACalls P) nm ρ σ K i := by
  by_cases hc : i.isCall = true
  · cases i <;> simp only [I.isCall, Bool.false_eq_true] at hc
    case eqS => exact h
    case next => exact h
    case entry => exact h
    · simp only [qstep, astep] at h ⊢; exact CPt_le hok h
    · simp only [qstep, astep] at h ⊢
      split at h
      · exact CPt_le hok h
      · exact h.elim
  · cases i
    case qcall f args => simp only [qstep] at h; simp only [astep]; exact qget_ok hok h
    case pcall f args =>
      simp only [qstep, astep] at h ⊢
      obtain ⟨v, e, h⟩ := h
      exact ⟨v, fun σ2 => CPt_le hok (e σ2), h⟩
    case qcallv x args =>
      simp only [qstep] at h; simp only [astep]
      split at h
      · rename_i he; try simp only [he]
        exact qget_ok hok h
      · exact h.elim
    case call => simp [I.isCall] at hc
    case callv => simp [I.isCall] at hc
    all_goals exact h

def aopsT (P : Program) (tbl : Tbl) (base : Nat) : Nat → List O → List AV → St → (List AV → St → Prop) → Prop
  | _, [], ρ, σ, K => K ρ σ
  | i, o :: r, ρ, σ, K =>
    match o.g with
    | none => qstep (CPt P tbl) (base + i) ρ σ (fun v σ' => aopsT P tbl base (i + 1) r (setd ρ v o.dst) σ' K) (qget P tbl) o.i
    | some (t, b) => match ρ.getD t .any with
      | .bool c => if c = b then qstep (CPt P tbl) (base + i) ρ σ (fun v σ' => aopsT P tbl base (i + 1) r (setd ρ v o.dst) σ' K) (qget P tbl) o.i else aopsT P tbl base (i + 1) r (setd ρ (.tup []) o.dst) σ K
      | .tup [] => aopsT P tbl base (i + 1) r (setd ρ (.tup []) o.dst) σ K
      | _ => False

theorem aopsI_of_T {P : Program} {tbl : Tbl} (hok : tbl.ok P) {base : Nat} {K : List AV → St → Prop} : ∀ {i : Nat} {l : List O} {ρ : List AV} {σ : St}, aopsT P tbl base i l ρ σ K → aopsI (ACalls P) base i l ρ σ K
  | _, [], _, _, h => h
  | i, o :: r, ρ, σ, h => by
    simp only [aopsT] at h
    simp only [aopsI]
    cases hg : o.g with
    | none => rw [hg] at h; exact astep_mono ACalls_mono (fun v σ' h => aopsI_of_T hok h) (step_le hok h)
    | some p =>
      obtain ⟨t, b⟩ := p
      simp only [hg] at h ⊢
      split at h
      · rename_i c hc
        try simp only [hc]
        split at h
        · rename_i hcb
          rw [if_pos hcb]; exact astep_mono ACalls_mono (fun v σ' h => aopsI_of_T hok h) (step_le hok h)
        · rename_i hcb
          rw [if_neg hcb]; exact aopsI_of_T hok h
      · rename_i hc; try simp only [hc]
        exact aopsI_of_T hok h
      · exact h.elim

/-- a region, the first n operations ahead of the others -/
theorem aopsT_cut {P : Program} {tbl : Tbl} {base : Nat} : ∀ (n : Nat) {i : Nat} {l : List O} {ρ : List AV} {σ : St} {K : List AV → St → Prop},
    (∀ K1 : List AV → St → Prop, (∀ ρ' σ', aopsT P tbl base (i + n) (l.drop n) ρ' σ' K → K1 ρ' σ') → aopsT P tbl base i (l.take n) ρ σ K1) → aopsT P tbl base i l ρ σ K := by
  intro n i l ρ σ K h0
  have h := h0 _ fun _ _ h => h
  clear h0
  induction n generalizing i l ρ σ with
  | zero => simpa [aopsT] using h
  | succ n ih =>
    cases l with
    | nil => simpa [aopsT] using h
    | cons o r =>
      have hmono : ∀ {ρ : List AV} {σ : St}, aopsT P tbl base (i + 1) (r.take n) ρ σ (fun ρ' σ' => aopsT P tbl base (i + (n + 1)) (r.drop n) ρ' σ' K) → aopsT P tbl base (i + 1) r ρ σ K :=
        fun h => ih (by rw [Nat.add_assoc, Nat.add_comm 1 n]; exact h)
      simp only [List.take_succ_cons, List.drop_succ_cons, aopsT] at h ⊢
      have hq : ∀ {i0 : I} {nm : Nat} {ρ : List AV} {σ : St} {K1 K2 : AV → St → Prop}, (∀ v σ', K1 v σ' → K2 v σ') → qstep (CPt P tbl) nm ρ σ K1 (qget P tbl) i0 → qstep (CPt P tbl) nm ρ σ K2 (qget P tbl) i0 := by
        intro i0 nm ρ σ K1 K2 hk hh
        have hg : ∀ {f : Nat} {args : List AV}, qget P tbl f args σ K1 → qget P tbl f args σ K2 := by
          intro f args hh
          unfold qget at hh ⊢
          split at hh
          · exact opt_mono (fun v h => hk v σ h) hh
          · obtain ⟨v, h1, h2⟩ := hh; exact ⟨v, h1, hk _ _ h2⟩
        by_cases hc : (∃ f a, i0 = .qcall f a) ∨ ∃ x a, i0 = .qcallv x a
        · rcases hc with ⟨f, a, rfl⟩ | ⟨x, a, rfl⟩
          · exact hg hh
          · simp only [qstep] at hh ⊢
            split at hh
            · exact hg hh
            · exact hh.elim
        · have e : ∀ K3, qstep (CPt P tbl) nm ρ σ K3 (qget P tbl) i0 = astep (CPt P tbl) nm ρ σ K3 i0 := by
            intro K3
            cases i0 <;> first | rfl | (exact absurd (.inl ⟨_, _, rfl⟩) hc) | (exact absurd (.inr ⟨_, _, rfl⟩) hc)
          rw [e] at hh ⊢
          exact astep_mono CPt_mono hk hh
      split at h
      · exact hq (fun v σ' h => hmono h) h
      · split at h
        · split at h
          · rename_i hc; rw [if_pos hc]; exact hq (fun v σ' h => hmono h) h
          · rename_i hc; rw [if_neg hc]; exact hmono h
        · exact hmono h
        · exact h.elim

theorem T.regt {P : Program} {A : Ann} {Q : Ex → List AV → St → Prop} {ρ : List AV} {σ : St} (hm : P.follows .mixedOrders = true) {tbl : Tbl} (hok : tbl.ok P) {l : List O} (h : aopsT P tbl σ.next 0 l ρ (σ.up (namesOf l)) (Q .normal)) : T P A (.reg l) Q ρ σ :=
  T.regi hm (aopsI_of_T hok h)

end Go.VL

namespace Go.VL

/-- What is owned, as a list; what lies below `low` is as it was. -/
structure DS where
  next : Nat
  l : List (Nat × Res)
  low : Nat

def rget (n : Nat) : List (Nat × Res) → Option Res
  | [] => none
  | p :: r => if p.1 = n then some p.2 else rget n r

def rdel (n : Nat) : List (Nat × Res) → List (Nat × Res)
  | [] => []
  | p :: r => if p.1 = n then rdel n r else p :: rdel n r

theorem rget_del (n m : Nat) : ∀ l, rget m (rdel n l) = if m = n then none else rget m l
  | [] => by simp [rdel, rget]
  | p :: r => by
    have ih := rget_del n m r
    unfold rdel
    by_cases h : p.1 = n
    · rw [if_pos h, ih]
      by_cases hm : m = n
      · rw [if_pos hm, if_pos hm]
      · rw [if_neg hm, if_neg hm, rget, if_neg (by rw [h]; exact fun e => hm e.symm)]
    · rw [if_neg h, rget, rget, ih]
      by_cases hm : m = n
      · rw [if_pos hm, if_pos hm, if_neg (by rw [hm]; exact h)]
      · rw [if_neg hm, if_neg hm]

def DS.st (s : DS) : St := ⟨s.next, fun n => rget n s.l⟩

def DS.res (s : DS) (n : Nat) : Option Res := rget n s.l

def DS.set (s : DS) (n : Nat) (r : Res) : DS := ⟨s.next, (n, r) :: rdel n s.l, if n < s.low then n else s.low⟩

def DS.del (s : DS) (n : Nat) : DS := ⟨s.next, rdel n s.l, if n < s.low then n else s.low⟩

def DS.up (s : DS) (k : Nat) : DS := ⟨s.next + k, s.l, s.low⟩

theorem DS.st_set (s : DS) (n : Nat) (r : Res) : (s.set n r).st = s.st.set n r := by
  simp only [DS.st, DS.set, St.set, St.mk.injEq, true_and]
  funext m
  by_cases h : m = n
  · simp [h, rget]
  · rw [if_neg h]
    have h' : ¬ n = m := fun e => h e.symm
    simp only [rget, h', if_false]
    rw [rget_del, if_neg h]

theorem DS.st_del (s : DS) (n : Nat) : (s.del n).st = s.st.del n := by
  simp only [DS.st, DS.del, St.del, St.mk.injEq, true_and]
  funext m
  rw [rget_del]

/-- what lies below is as it was -/
structure Sm (s s' : DS) : Prop where
  le : s'.low ≤ s.low
  eq : ∀ n, n < s'.low → s'.res n = s.res n

theorem Sm.refl (s : DS) : Sm s s := ⟨Nat.le_refl _, fun _ _ => rfl⟩

theorem Sm.trans {s s1 s2 : DS} (h : Sm s s1) (k : Sm s1 s2) : Sm s s2 := ⟨Nat.le_trans k.le h.le, fun n hn => (k.eq n hn).trans (h.eq n (Nat.lt_of_lt_of_le hn k.le))⟩

theorem Sm.set (s : DS) (n : Nat) (r : Res) : Sm s (s.set n r) := by
  refine ⟨by simp only [DS.set]; split <;> omega, fun m hm => ?_⟩
  have hne : m ≠ n := by
    simp only [DS.set] at hm
    split at hm <;> omega
  have := congrFun (congrArg St.res (DS.st_set s n r)) m
  rw [St.set_other _ _ hne] at this
  exact this

theorem Sm.del (s : DS) (n : Nat) : Sm s (s.del n) := by
  refine ⟨by simp only [DS.del]; split <;> omega, fun m hm => ?_⟩
  have hne : m ≠ n := by
    simp only [DS.del] at hm
    split at hm <;> omega
  have := congrFun (congrArg St.res (DS.st_del s n)) m
  rw [show (s.st.del n).res m = s.st.res m by simp [St.del, hne]] at this
  exact this

theorem Sm.up (s : DS) (k : Nat) : Sm s (s.up k) := ⟨Nat.le_refl _, fun _ _ => rfl⟩

abbrev DR := Option (AV × DS)

def DR.of (s : DS) (v : Option AV) : DR := match v with | some v => some (v, s) | none => none

/-- a function's code, its temporaries, its results -/
structure FnC where
  c : C
  nt : Nat
  rs : List RX

def FnOk (P : Program) (f : Nat) (F : FnC) : Prop := ∃ A, ∀ (args : List AV) (σ : St) (K : AV → St → Prop), (WF σ → T P A F.c (Fin σ F.rs K) (args ++ List.replicate (F.nt - args.length) (.tup [])) σ) → ACalls P f args σ K

abbrev FTab := List (Nat × FnC)

def FTab.get (f : Nat) : FTab → Option FnC
  | [] => none
  | p :: r => if p.1 = f then some p.2 else FTab.get f r

def FTab.ok (P : Program) (tb : FTab) : Prop := ∀ f F, FTab.get f tb = some F → FnOk P f F

theorem FTab.ok_nil {P : Program} : FTab.ok P [] := fun _ _ h => by cases h

theorem FTab.ok_cons {P : Program} {f nt : Nat} {c : C} {rs : List RX} {tb : FTab} {A : Ann} (h : ∀ {args : List AV} {σ : St} {K : AV → St → Prop}, (WF σ → T P A c (Fin σ rs K) (args ++ List.replicate (nt - args.length) (.tup [])) σ) → ACalls P f args σ K) (t : FTab.ok P tb) :
    FTab.ok P ((f, ⟨c, nt, rs⟩) :: tb) := fun g F hg => by
  simp only [FTab.get] at hg
  split at hg
  · rename_i he
    simp only [Option.some.injEq] at hg; subst hg; subst he
    exact ⟨A, fun _ _ _ hh => h hh⟩
  · exact t g F hg

end Go.VL

namespace Go.VL

def κ0 (W : World) : Kx := ⟨fun b _ => b < W.heap.size, fun _ => 0, fun _ => 0, fun _ => 0, fun _ => 0, fun _ => False⟩

def σ0 : St := ⟨0, fun _ => none⟩

theorem R0 (W : World) : R 0 (fun _ => False) (κ0 W) W σ0 := ⟨fun _ h => h.elim, fun _ _ h => by simp [σ0] at h, fun _ _ _ _ h => by simp [σ0] at h, fun _ _ h => h, fun _ _ h _ => by simp [σ0] at h⟩

def isStruct (P : Program) (t : TypeId) : Bool := match P.underlying t with
  | some (.struct _) => true
  | _ => false

def contig (P : Program) : Nat → List Field → Option Nat
  | off, [] => some off
  | off, f :: r => if f.offset = off then contig P (off + P.cellsOf f.type) r else none

/-- a type of numbers, bools, texts, rows and structs of such, n deep -/
def goodT (P : Program) : Nat → TypeId → Bool
  | 0, _ => false
  | n + 1, t => match P.underlying t with
    | some .bool | some (.int _) | some .string => true
    | some (.slice e) => goodT P n e && decide (0 < P.cellsOf e)
    | some (.struct fs) => fs.toList.all (fun f => goodT P n f.type) && (contig P 0 fs.toList == some (P.cellsOf t))
    | _ => false

mutual
def HasT (P : Program) : Nat → TypeId → List AV → Prop
  | 0, _, _ => False
  | n + 1, t, xs => match P.underlying t with
    | some .bool => ∃ b, xs = [.bool b]
    | some (.int k) => ∃ m, xs = [.int k m] ∧ k.min ≤ m ∧ m ≤ k.max
    | some .string => ∃ s, xs = [.str s] ∧ s.size ≤ maxLen
    | some (.slice e) => ∃ ys, xs = [.sl ys .none] ∧ ys.length ≤ maxLen ∧ ∀ y ∈ ys, HasE P n e y
    | some (.struct fs) => HasF P n fs.toList xs
    | _ => False
/-- an element of a row -/
def HasE (P : Program) : Nat → TypeId → AV → Prop
  | n, e, y => HasT P n e y.cells ∧ (isStruct P e = true → ∃ zs, y = .agg zs) ∧ (isStruct P e = false → y.cells = [y])
def HasF (P : Program) : Nat → List Field → List AV → Prop
  | _, [], xs => xs = []
  | n, f :: r, xs => ∃ ys zs, xs = ys ++ zs ∧ HasT P n f.type ys ∧ HasF P n r zs
end

theorem hasT_succ (P : Program) (n : Nat) (t : TypeId) (xs : List AV) : HasT P (n + 1) t xs = (match P.underlying t with
    | some .bool => ∃ b, xs = [.bool b]
    | some (.int k) => ∃ m, xs = [.int k m] ∧ k.min ≤ m ∧ m ≤ k.max
    | some .string => ∃ s, xs = [.str s] ∧ s.size ≤ maxLen
    | some (.slice e) => ∃ ys, xs = [.sl ys .none] ∧ ys.length ≤ maxLen ∧ ∀ y ∈ ys, HasE P n e y
    | some (.struct fs) => HasF P n fs.toList xs
    | _ => False) := by rw [HasT]

theorem hasE_iff (P : Program) (n : Nat) (e : TypeId) (y : AV) : HasE P n e y = (HasT P n e y.cells ∧ (isStruct P e = true → ∃ zs, y = .agg zs) ∧ (isStruct P e = false → y.cells = [y])) := by rw [HasE]

theorem hasF_nil (P : Program) (n : Nat) (xs : List AV) : HasF P n [] xs = (xs = []) := by rw [HasF]

theorem hasF_cons (P : Program) (n : Nat) (f : Field) (r : List Field) (xs : List AV) : HasF P n (f :: r) xs = ∃ ys zs, xs = ys ++ zs ∧ HasT P n f.type ys ∧ HasF P n r zs := by rw [HasF]

/-- what is no struct is one cell -/
theorem HasT.single {P : Program} {n : Nat} {t : TypeId} {xs : List AV} (h : HasT P n t xs) (hs : isStruct P t = false) : ∃ x, xs = [x] ∧ x.cells = [x] := by
  cases n with
  | zero => rw [HasT] at h; exact h.elim
  | succ n =>
    rw [hasT_succ] at h
    unfold isStruct at hs
    split at h
    · obtain ⟨b, rfl⟩ := h; exact ⟨_, rfl, rfl⟩
    · obtain ⟨m, rfl, _⟩ := h; exact ⟨_, rfl, rfl⟩
    · obtain ⟨s, rfl, _⟩ := h; exact ⟨_, rfl, rfl⟩
    · obtain ⟨ys, rfl, _⟩ := h; exact ⟨_, rfl, rfl⟩
    · rename_i hu; rw [hu] at hs; cases hs
    · exact h.elim

def mkE (P : Program) (e : TypeId) (xs : List AV) : AV := if isStruct P e then .agg xs else xs.headD .any

theorem mkE_has {P : Program} {n : Nat} {e : TypeId} {xs : List AV} (h : HasT P n e xs) : (mkE P e xs).cells = xs ∧ HasE P n e (mkE P e xs) := by
  unfold mkE
  by_cases hs : isStruct P e = true
  · simp only [hs, if_true]
    exact ⟨rfl, by rw [hasE_iff]; exact ⟨h, fun _ => ⟨_, rfl⟩, fun h => by rw [hs] at h; cases h⟩⟩
  · have hs' : isStruct P e = false := by simpa using hs
    obtain ⟨x, rfl, hx⟩ := h.single hs'
    simp only [hs', Bool.false_eq_true, if_false, List.headD_cons]
    exact ⟨hx, by rw [hasE_iff, hx]; exact ⟨h, fun h => (by rw [hs'] at h; cases h), fun _ => rfl⟩⟩

/-- a row out of its elements -/
theorem vs_elems {κ : Kx} {w : World} {b k : Nat} : ∀ {ys : List AV} {o : Nat} {f : Nat → List Value}, (∀ i y, ys[i]? = some y → Vl κ w (f i) y.cells ∧ y.cells.length = k ∧ ∀ j u, (f i)[j]? = some u → κ.I b (o + i * k + j) ∧ w.cell? ⟨b, o + i * k + j, none⟩ = some u) →
    Vs κ w b o (ys.flatMap AV.cells)
  | [], o, f, _ => .nil b o
  | y :: r, o, f, h => by
    obtain ⟨h1, h2, h3⟩ := h 0 y rfl
    rw [List.flatMap_cons]
    refine Vs.append (Vs.mk h1 (fun j u hj => by simpa using h3 j u hj)) ?_
    rw [h2]
    exact vs_elems (f := fun i => f (i + 1)) (fun i z hz => by
      obtain ⟨g1, g2, g3⟩ := h (i + 1) z (by simpa using hz)
      exact ⟨g1, g2, fun j u hj => by
        have := g3 j u hj
        rwa [show o + (i + 1) * k + j = o + k + i * k + j by rw [Nat.add_mul]; omega] at this⟩)

theorem has_slice {P : Program} {n : Nat} {t e : TypeId} {x : AV} (hu : P.underlying t = some (.slice e)) (h : HasE P (n + 1) t x) : ∃ ys, x = .sl ys .none ∧ ys.length ≤ maxLen ∧ ∀ y ∈ ys, HasE P n e y := by
  rw [hasE_iff] at h
  obtain ⟨h1, _, h3⟩ := h
  have hs : isStruct P t = false := by unfold isStruct; rw [hu]
  rw [h3 hs, hasT_succ, hu] at h1
  obtain ⟨ys, e, h⟩ := h1
  simp only [List.cons.injEq, and_true] at e
  exact ⟨ys, e, h⟩

theorem has_int {P : Program} {n : Nat} {t : TypeId} {k : IntKind} {x : AV} (hu : P.underlying t = some (.int k)) (h : HasE P (n + 1) t x) : ∃ m, x = .int k m ∧ k.min ≤ m ∧ m ≤ k.max := by
  rw [hasE_iff] at h
  obtain ⟨h1, _, h3⟩ := h
  have hs : isStruct P t = false := by unfold isStruct; rw [hu]
  rw [h3 hs, hasT_succ, hu] at h1
  obtain ⟨m, e, h⟩ := h1
  simp only [List.cons.injEq, and_true] at e
  exact ⟨m, e, h⟩

section

variable {H : Type} {enc : TypeId × Value → H} {P : Program} {W : World} {held : Bool}

theorem fields_has {n m : Nat} {cs : List Value} (ih : ∀ {t : TypeId} {cs : List Value} {x : DataW H × List MemPlace}, goodT P n t = true → DataW.trod enc P W 0 (fun _ => true) held m t cs = some x → ∃ xs, Vl (κ0 W) W cs xs ∧ HasT P n t xs) :
    ∀ {fs : List Field} {off tot : Nat}, contig P off fs = some tot → tot ≤ cs.length → (∀ f ∈ fs, goodT P n f.type = true ∧ ∃ x : DataW H × List MemPlace, DataW.trod enc P W 0 (fun _ => true) held m f.type ((cs.drop f.offset).take (P.cellsOf f.type)) = some x) →
      off ≤ tot ∧ ∃ xs, Vl (κ0 W) W ((cs.drop off).take (tot - off)) xs ∧ HasF P n fs xs
  | [], off, tot, hc, hl, h => by
    simp only [contig, Option.some.injEq] at hc; subst hc
    exact ⟨Nat.le_refl _, [], by simpa using Vl.nil, by rw [hasF_nil]⟩
  | f :: r, off, tot, hc, hl, h => by
    simp only [contig] at hc
    split at hc
    · rename_i ho
      subst ho
      obtain ⟨h1, x, hx⟩ := h f (by simp)
      obtain ⟨ys, hy1, hy2⟩ := ih h1 hx
      obtain ⟨hle, zs, hz1, hz2⟩ := fields_has ih hc hl (fun g hg => h g (List.mem_cons_of_mem _ hg))
      refine ⟨by omega, ys ++ zs, ?_, by rw [hasF_cons]; exact ⟨ys, zs, rfl, hy2, hz2⟩⟩
      have : (cs.drop f.offset).take (tot - f.offset) = (cs.drop f.offset).take (P.cellsOf f.type) ++ (cs.drop (f.offset + P.cellsOf f.type)).take (tot - (f.offset + P.cellsOf f.type)) := by
        rw [show tot - f.offset = P.cellsOf f.type + (tot - (f.offset + P.cellsOf f.type)) by omega, List.take_add, List.drop_drop]
      rw [this]
      exact hy1.append hz1
    · cases hc

/-- AN ARGUMENT THAT READS is a value of its type. -/
theorem trod_has : ∀ {n : Nat} {t : TypeId} {cs : List Value} {fuel : Nat} {x : DataW H × List MemPlace}, goodT P n t = true → DataW.trod enc P W 0 (fun _ => true) held fuel t cs = some x → ∃ xs, Vl (κ0 W) W cs xs ∧ HasT P n t xs
  | 0, _, _, _, _, hg, _ => by cases hg
  | n + 1, t, cs, fuel, x, hg, h => by
    unfold goodT at hg
    split at hg
    · rename_i hu
      obtain ⟨b, rfl, rfl⟩ := DataW.trod_bool hu h
      exact ⟨[.bool b], .cons _ _ _ _ (.bool b) .nil, by rw [hasT_succ, hu]; exact ⟨b, rfl⟩⟩
    · rename_i k hu
      obtain ⟨m, rfl, rfl, hw⟩ := DataW.trod_int hu h
      simp only [Lit.wf, Bool.and_eq_true, decide_eq_true_eq] at hw
      exact ⟨[.int k m], .cons _ _ _ _ (.int k m) .nil, by rw [hasT_succ, hu]; exact ⟨m, rfl, hw⟩⟩
    · rename_i hu
      obtain ⟨s, rfl, rfl, hs⟩ := DataW.trod_string hu h
      exact ⟨[.str s], .cons _ _ _ _ (.str s) .nil, by rw [hasT_succ, hu]; exact ⟨s, rfl, hs⟩⟩
    · rename_i e hu
      simp only [Bool.and_eq_true, decide_eq_true_eq] at hg
      obtain ⟨hge, hpos⟩ := hg
      rcases DataW.trod_slice hu h with ⟨rfl, rfl⟩ | ⟨a, len, cap, elems, rest, m, rfl, rfl, rfl, _, hlc, hcm, hel, he, hr, _⟩
      · exact ⟨[.sl [] .none], .cons _ _ _ _ (.slnil _ (.inr (.inl rfl))) .nil, by rw [hasT_succ, hu]; exact ⟨[], rfl, Nat.zero_le _, fun y hy => by cases hy⟩⟩
      · have hread : ∀ i, i < cap → ∃ cs y, W.cells? 0 (a.add (i * P.cellsOf e)) (P.cellsOf e) = some cs ∧ DataW.trod enc P W 0 (fun _ => true) held m e cs = some y := by
          intro i hi
          by_cases hil : i < len
          · have h1 := he i hil
            obtain ⟨y, hy⟩ : ∃ y, elems[i]? = some y := ⟨elems[i]'(by omega), by simp [show i < elems.length by omega]⟩
            rw [hy] at h1
            obtain ⟨cs, g1, g2⟩ := Option.bind_eq_some_iff.1 h1
            exact ⟨cs, y, g1, g2⟩
          · obtain ⟨hrl, hr'⟩ := hr rfl
            have h1 := hr' (i - len) (by omega)
            rw [show len + (i - len) = i by omega] at h1
            obtain ⟨y, hy⟩ : ∃ y, rest[i - len]? = some y := ⟨rest[i - len]'(by omega), by simp [show i - len < rest.length by omega]⟩
            rw [hy] at h1
            obtain ⟨cs, g1, g2⟩ := Option.bind_eq_some_iff.1 h1
            exact ⟨cs, y, g1, g2⟩
        by_cases hc0 : cap = 0
        · subst hc0
          have : len = 0 := by omega
          subst this
          exact ⟨[.sl [] .none], .cons _ _ _ _ (.slz a _ (.inl rfl)) .nil, by rw [hasT_succ, hu]; exact ⟨[], rfl, Nat.zero_le _, fun y hy => by cases hy⟩⟩
        · have hsp : a = ⟨a.block, a.off, none⟩ := by
            obtain ⟨cs, y, g1, _⟩ := hread 0 (by omega)
            obtain ⟨_, hl, hc⟩ := World.cells?_some g1
            have h0 := hc 0 hpos
            have hx : ∃ u, cs[0]? = some u := ⟨cs[0]'(by omega), by simp [show 0 < cs.length by omega]⟩
            obtain ⟨u, hux⟩ := hx
            rw [hux, Nat.zero_mul] at h0
            have e0 : (a.add 0).add 0 = a := rfl
            rw [e0] at h0
            obtain ⟨b, o, sp⟩ := a
            cases sp with
            | none => rfl
            | some s => unfold World.cell? at h0; split at h0 <;> simp at h0
          generalize hb : a.block = b at hsp
          generalize ho : a.off = o at hsp
          subst hsp
          have hsub : ∀ i, i < len → ∃ cs xs, Vl (κ0 W) W cs xs ∧ HasT P n e xs ∧ xs.length = P.cellsOf e ∧ ∀ j u, cs[j]? = some u → (κ0 W).I b (o + i * P.cellsOf e + j) ∧ W.cell? ⟨b, o + i * P.cellsOf e + j, none⟩ = some u := by
            intro i hi
            obtain ⟨cs, y, g1, g2⟩ := hread i (by omega)
            obtain ⟨xs, k1, k2⟩ := trod_has hge g2
            obtain ⟨_, hl, hc⟩ := World.cells?_some g1
            refine ⟨cs, xs, k1, k2, by rw [← k1.length, hl], fun j u hj => ?_⟩
            have hjl : j < P.cellsOf e := by rw [← hl]; exact (List.getElem?_eq_some_iff.1 hj).1
            have := hc j hjl
            rw [hj, add_spot, add_spot] at this
            refine ⟨?_, this⟩
            show b < W.heap.size
            rcases Nat.lt_or_ge b W.heap.size with hlt | hge
            · exact hlt
            · unfold World.cell? at this; simp [Array.getElem?_eq_none hge] at this
          let f : Nat → List Value := fun i => if h : i < len then (hsub i h).choose else []
          let g : Nat → List AV := fun i => if h : i < len then (hsub i h).choose_spec.choose else []
          have hfg : ∀ i, i < len → Vl (κ0 W) W (f i) (g i) ∧ HasT P n e (g i) ∧ (g i).length = P.cellsOf e ∧ ∀ j u, (f i)[j]? = some u → (κ0 W).I b (o + i * P.cellsOf e + j) ∧ W.cell? ⟨b, o + i * P.cellsOf e + j, none⟩ = some u := by
            intro i hi
            have := (hsub i hi).choose_spec.choose_spec
            simp only [f, g, hi, dif_pos]
            exact this
          let ys : List AV := (List.range len).map fun i => mkE P e (g i)
          have hyl : ys.length = len := by simp [ys]
          have hyi : ∀ i y, ys[i]? = some y → i < len ∧ y = mkE P e (g i) := by
            intro i y hy
            have hi : i < len := by rw [← hyl]; exact (List.getElem?_eq_some_iff.1 hy).1
            refine ⟨hi, ?_⟩
            simp [ys, hi] at hy
            exact hy.symm
          refine ⟨[.sl ys .none], .cons _ _ _ _ ?_ .nil, ?_⟩
          · rw [← hyl]
            refine .sl b o cap (P.cellsOf e) ys (fun y hy => ?_) (by rw [hyl]; exact hlc) (vs_elems (k := P.cellsOf e) (f := f) (fun i y hy => ?_))
            · obtain ⟨i, hi⟩ := List.getElem?_of_mem hy
              obtain ⟨hil, rfl⟩ := hyi i y hi
              obtain ⟨_, h2, h3, _⟩ := hfg i hil
              rw [(mkE_has h2).1, h3]
            · obtain ⟨hil, rfl⟩ := hyi i y hy
              obtain ⟨h1, h2, h3, h4⟩ := hfg i hil
              rw [(mkE_has h2).1]
              exact ⟨h1, h3, h4⟩
          · rw [hasT_succ, hu]
            refine ⟨ys, rfl, by rw [hyl]; omega, fun y hy => ?_⟩
            obtain ⟨i, hi⟩ := List.getElem?_of_mem hy
            obtain ⟨hil, rfl⟩ := hyi i y hi
            obtain ⟨_, h2, _⟩ := hfg i hil
            exact (mkE_has h2).2
    · rename_i fs hu
      simp only [Bool.and_eq_true, List.all_eq_true, beq_iff_eq] at hg
      obtain ⟨xs, m, rfl, rfl, hl, hxl, hf⟩ := DataW.trod_struct hu h
      obtain ⟨_, zs, hz1, hz2⟩ := fields_has (cs := cs) (n := n) (m := m) (fun hg h => trod_has hg h) (fs := fs.toList) hg.2 (by omega) (fun f hfm => by
        refine ⟨hg.1 f hfm, ?_⟩
        obtain ⟨i, hi⟩ := List.getElem?_of_mem hfm
        have hi' : fs[i]? = some f := by simpa using hi
        have hil : i < fs.size := (Array.getElem?_eq_some_iff.1 hi').1
        exact ⟨xs[i]'(by omega), by rw [hf i f hi']; simp [show i < xs.length by omega]⟩)
      refine ⟨zs, ?_, by rw [hasT_succ, hu]; exact hz2⟩
      rw [Nat.sub_zero, List.drop_zero, ← hl, List.take_length] at hz1
      exact hz1
    · cases hg

end

end Go.VL

namespace Go.VL

open Go.RowKit

inductive HasAll (P : Program) (n : Nat) : List TypeId → List AV → Prop where
  | nil : HasAll P n [] []
  | cons {t : TypeId} {x : AV} {ts : List TypeId} {xs : List AV} (h : HasE P n t x) (r : HasAll P n ts xs) : HasAll P n (t :: ts) (x :: xs)

section

variable {H : Type} {enc : TypeId × Value → H} {P : Program} {W : World}

theorem arg_has {n : Nat} {r : Reach} {b0 : Nat} {t : TypeId} {v : Value} {d : DataW H} {ps : List MemPlace} (hg : goodT P n t = true) (hok : Value.okWide P W r b0 t v) (hd : DataW.Trod enc P W 0 (fun _ => true) true t v d ps) : ∃ x, V (κ0 W) W v x ∧ HasE P n t x := by
  obtain ⟨fuel, hf⟩ := hd
  obtain ⟨xs, h1, h2⟩ := trod_has hg hf
  refine ⟨mkE P t xs, ?_, (mkE_has h2).2⟩
  unfold mkE
  by_cases hs : isStruct P t = true
  · simp only [hs, if_true]
    unfold isStruct at hs
    split at hs
    · rename_i fs hu
      simp only [Value.okWide, hu] at hok
      obtain ⟨cs, rfl, _⟩ := hok
      obtain ⟨l⟩ := cs
      exact .agg _ _ (by simpa [Value.cells] using h1)
    · cases hs
  · have hs' : isStruct P t = false := by simpa using hs
    obtain ⟨x, rfl, hx⟩ := h2.single hs'
    simp only [hs', Bool.false_eq_true, if_false, List.headD_cons]
    have hna : ∀ cs, v ≠ .agg cs := by
      rintro cs rfl
      cases n with
      | zero => cases hg
      | succ n =>
        unfold goodT at hg
        split at hg
        · rename_i hu; simp [Value.okWide, hu, Cell.okWide, Cell.ok] at hok
        · rename_i hu; simp [Value.okWide, hu, Cell.okWide, Cell.ok] at hok
        · rename_i hu; simp [Value.okWide, hu, Cell.okWide, Cell.ok] at hok
        · rename_i hu; simp [Value.okWide, hu, Cell.okWide, Cell.ok] at hok
        · rename_i hu; unfold isStruct at hs'; rw [hu] at hs'; cases hs'
        · cases hg
    have hc : v.cells.toList = [v] := by
      cases v <;> first | rfl | exact absurd rfl (hna _)
    rw [hc] at h1
    cases h1 with
    | cons _ _ _ _ h _ => exact h

theorem args_has {n : Nat} {r : Reach} {b0 : Nat} : ∀ {ts : List TypeId} {vs : List Value} {ds : List (DataW H)} {ps : List MemPlace}, (∀ t ∈ ts, goodT P n t = true) → (∀ (j : Nat) t v, ts[j]? = some t → vs[j]? = some v → Value.okWide P W r b0 t v) →
    DataW.TrodAll enc P W 0 (fun _ => true) true ts vs ds ps → ∃ xs, Vl (κ0 W) W vs xs ∧ HasAll P n ts xs
  | [], [], [], _, _, _, _ => ⟨[], .nil, .nil⟩
  | t :: ts, v :: vs, d :: ds, ps, hg, hok, ⟨p, q, h1, h2, _⟩ => by
    obtain ⟨x, k1, k2⟩ := arg_has (hg t (by simp)) (hok 0 t v rfl rfl) h1
    obtain ⟨xs, k3, k4⟩ := args_has (fun t ht => hg t (List.mem_cons_of_mem _ ht)) (fun j t v ht hv => hok (j + 1) t v (by simpa using ht) (by simpa using hv)) h2
    exact ⟨x :: xs, .cons _ _ _ _ k1 k3, .cons k2 k4⟩
  | [], _ :: _, _, _, _, _, h => by simp [DataW.TrodAll] at h
  | [], [], _ :: _, _, _, _, h => by simp [DataW.TrodAll] at h
  | _ :: _, [], _, _, _, _, h => by simp [DataW.TrodAll] at h
  | _ :: _, _ :: _, [], _, _, _, h => by simp [DataW.TrodAll] at h

theorem trodAll_below (hl : laidOutB P = true) {W' : World} (hb : Below W.heap.size W W') : ∀ {ts : List TypeId} {vs : List Value} {ds : List (DataW H)} {ps : List MemPlace}, (∀ t ∈ ts, P.readableRec t = true ∧ t < P.types.size) →
    DataW.TrodAll enc P W 0 (fun _ => true) true ts vs ds ps → DataW.TrodAll enc P W' 0 (fun b => decide (b < W.heap.size)) true ts vs ds ps
  | [], [], [], _, _, h => by simpa [DataW.TrodAll] using h
  | t :: ts, v :: vs, d :: ds, ps, ht, ⟨p, q, h1, h2, e⟩ => by
    have hlt : ∀ x ∈ p, x.block < W.heap.size := by
      obtain ⟨n, hn⟩ := h1
      exact DataW.trod_lt n t _ _ hn
    exact ⟨p, q, Below.trod hl (ht t (by simp)).1 (ht t (by simp)).2 h1 hb hlt, trodAll_below hl hb (fun t h => ht t (List.mem_cons_of_mem _ h)) h2, e⟩
  | [], _ :: _, _, _, _, h => by simp [DataW.TrodAll] at h
  | [], [], _ :: _, _, _, h => by simp [DataW.TrodAll] at h
  | _ :: _, [], _, _, _, h => by simp [DataW.TrodAll] at h
  | _ :: _, _ :: _, [], _, _, h => by simp [DataW.TrodAll] at h

theorem trodAll_len {w : World} {b : Nat} {sp : Nat → Bool} {hd : Bool} : ∀ {ts : List TypeId} {vs : List Value} {ds : List (DataW H)} {ps : List MemPlace}, DataW.TrodAll enc P w b sp hd ts vs ds ps → ds.length = ts.length
  | [], [], [], _, _ => rfl
  | t :: ts, v :: vs, d :: ds, ps, ⟨p, q, h1, h2, e⟩ => by simp [trodAll_len h2]
  | [], _ :: _, _, _, h => by simp [DataW.TrodAll] at h
  | [], [], _ :: _, _, h => by simp [DataW.TrodAll] at h
  | _ :: _, [], _, _, h => by simp [DataW.TrodAll] at h
  | _ :: _, _ :: _, [], _, h => by simp [DataW.TrodAll] at h

/-- THE ROW's CONTRACT, from what a call comes to over values -/
theorem law_calls (n : Nat) {f : FuncId} {fn : Func} {s : ChangeSpec} {tb : TypeId} (hl : laidOutB P = true)
    (hps : fn.params.toList.all (fun t => goodT P n t && P.readableRec t && decide (t < P.types.size)) = true) (hvars : s.vars = []) (hrt : fn.resultTypes = #[tb]) (hb : P.underlying tb = some .bool)
    (hfn : ∀ ds : List (DataW H), ds.length = fn.params.toList.length → s.fn H ds = { results := [.lit (.bool true)], args := ds })
    (hwalk : ∀ xs, HasAll P n fn.params.toList xs → ACalls P f xs σ0 (fun v _ => v = .bool true))
    {base : Nat} {args : Array Value} {ds gs : List (DataW H)} {before : List MemPlace}
    (hval : ∀ (j : Nat) t v, fn.params[j]? = some t → args[j]? = some v → Value.okWide P W .any base t v)
    (hW : DataW.Whole enc P fn.params.toList s.vars false W args.toList ds gs before) :
    Calls P f args W fun e W' => ∃ v, e = .returned v ∧ s.post enc P fn false true false false W args v W' := by
  simp only [List.all_eq_true, Bool.and_eq_true, decide_eq_true_eq] at hps
  have hW' := hW
  obtain ⟨p, q, hA, hV, hbf, _, _⟩ := hW
  rw [hvars] at hV
  have hgs : gs = [] ∧ q = [] := by
    cases gs with
    | nil => exact ⟨rfl, by simpa [DataW.TrodVars] using hV⟩
    | cons _ _ => simp [DataW.TrodVars] at hV
  obtain ⟨rfl, rfl⟩ := hgs
  obtain ⟨xs, h1, h2⟩ := args_has (n := n) (fun t ht => (hps t ht).1.1) (fun j t v ht hv => hval j t v (by simpa using ht) (by simpa using hv)) hA
  obtain ⟨l⟩ := args
  refine ((hwalk xs h2).2 (κ0 W) W l 0 (fun _ => False) (R0 W) h1).mono ?_
  rintro e W' ⟨v, x, κ', σ', rfl, _, _, _, hfr, _, hv, hx⟩
  subst hx
  refine ⟨v, rfl, ?_⟩
  rw [hv.bool_inv]
  have hbelow : Below W.heap.size W W' := ⟨hfr.os.os, hfr.tape, hfr.output, hfr.size, fun b hlt => hfr.block b hlt (by rintro ⟨n, r, hn, _⟩; simp [σ0] at hn)⟩
  have hd := hfn ds (trodAll_len hA)
  refine ⟨ds, [], before, [], p, [], hW', ?_, ?_, ?_, hbelow.frame _, fun h => by cases h⟩
  · rw [List.append_nil, hd, hrt]
    exact ⟨[], [], shut_bool hb true, rfl, rfl⟩
  · rw [List.append_nil, hd]
    exact trodAll_below hl hbelow (fun t ht => ⟨(hps t ht).1.2, (hps t ht).2⟩) hA
  · rw [hvars, List.append_nil, hd]
    rfl

end

end Go.VL

namespace Go.VL

open Go.Proofs

/-- the type of errors -/
abbrev tCode : Nat := 31

abbrev ann : Ann := { errs := [(31, .i64)] }

abbrev n_right : Nat := 112

abbrev n_step : Nat := 168

end Go.VL

namespace Go.VL

open Go.Proofs

theorem hm : Try.prog.follows .mixedOrders = true := by kernel_rfl

def nums (k : IntKind) (l : List Int) : List AV := l.map (.int k)

theorem nums_len (k : IntKind) (l : List Int) : (nums k l).length = l.length := by simp [nums]

theorem nums_get (k : IntKind) {l : List Int} {i : Nat} (h : i < l.length) : (nums k l)[i]? = some (.int k l[i]) := by simp [nums, h]

theorem wrap64 {n : Int} (h0 : -9223372036854775808 ≤ n) (h1 : n < 9223372036854775808) : IntKind.i64.wrap n = n := by
  simp [IntKind.wrap, IntKind.bits, IntKind.signed]; omega

def rightB (w : Int) : Bool := decide (w = 1 ∨ w = 2 ∨ w = 4 ∨ w = 8)

end Go.VL

namespace Go.VL

open Go.Proofs

def g_right : List AV → Option AV
  | [.int .i64 w] => some (.bool (rightB w))
  | _ => none

def t1 : Tbl := [(n_right, g_right)]

end Go.VL

namespace Go.VL

def bitstep (x : BitVec 32) : BitVec 32 := if x.getLsbD 0 then (x >>> 1) ^^^ 0xEDB88320#32 else x >>> 1

def stepN : Nat → BitVec 32 → BitVec 32
  | 0, x => x
  | n + 1, x => stepN n (bitstep x)

/-! ### The operations on words -/

end Go.VL

namespace Go.VL

open Go.Proofs

def step8I (m : Int) : Int := ((stepN 8 (BitVec.ofInt 32 m)).toNat : Int)

/-- (told by choice, so that nobody reckons it) -/
noncomputable def inU32 (m : Int) : Bool := @decide (0 ≤ m ∧ m < 4294967296) (Classical.propDecidable _)

noncomputable def g_step : List AV → Option AV
  | [.int .u32 m] => if inU32 m = true then some (.int .u32 (step8I m)) else none
  | _ => none

noncomputable def t2 : Tbl := [(n_step, g_step)]

def tab (i : Nat) : List AV := (List.range 256).map fun j => .int .u32 (if j < i then step8I (j : Int) else 0)

end Go.VL

namespace Go.VL

open Go.Proofs

theorem Wk.tup2 {a b c : AV} (h : Wk a b) : Wk (.tup [a, c]) (.tup [b, c]) := fun κ w v hv => by
  obtain ⟨u, rfl, hu⟩ := hv.tup_inv
  cases hu with
  | cons v x vs xs hx t => exact .tup _ _ (.cons _ _ _ _ (h κ w v hx) t)

theorem Fin.quietw {σ0 : St} {rs : List RX} {K : AV → St → Prop} {ρ : List AV} {σ : St} {xs : List AV} {y : AV} (h1 : rvals ρ σ rs = some xs) (hw : Wk (pack xs) y) (hx : y.nb σ0.next) (hr : ∀ n r, σ0.res n = some r → σ.res n = some r) (h2 : K y σ0) : Fin σ0 rs K .ret ρ σ :=
  ⟨ρ, σ, xs, _, σ0, .refl, h1, (Gv.wk hw).trans (.quiet hx hr), h2⟩

end Go.VL

namespace Go.VL

open Go.Proofs

/-- what a reader may be -/
structure Rd (l : List UInt8) (at_ bad : Int) : Prop where
  len : l.length ≤ 1099511627776
  lo : 0 ≤ at_
  hi : at_ ≤ l.length

def numB (l : List UInt8) : Nat := l.foldl (fun n b => 256 * n + b.toNat) 0

end Go.VL

namespace Go.VL

open Go.Proofs

theorem set_quiet {σ σ' : St} (wf : WF σ) (hn : σ.next ≤ σ'.next) (ho : ∀ n x, σ.res n = some x → σ'.res n = some x) {k a : Nat} (r : Res) (ha : σ'.next ≤ a) : ∀ n x, σ.res n = some x → ((σ'.up k).set a r).res n = some x := by
  intro n x hr
  have hn' : n < σ.next := by
    rcases Nat.lt_or_ge n σ.next with h | h
    · exact h
    · rw [wf n h] at hr; cases hr
  rw [St.set_other _ _ (by omega)]; exact ho n x hr

end Go.VL

namespace Go.VL

open Go.Proofs

/-- how far a reader is, and where something is amiss (-1: nowhere) -/
structure Rs where
  at_ : Int
  bad : Int

def Rs.ok (l : List UInt8) (s : Rs) : Prop := Rd l s.at_ s.bad ∧ (s.bad = -1 ∨ 0 ≤ s.bad)

def r0 : Rs := ⟨0, -1⟩

/-- may so many bytes be taken? -/
def rT (l : List UInt8) (s : Rs) (w : Int) : Bool := decide (s.bad = -1 ∧ w ≤ l.length - s.at_)

/-- a word -/
def rW (l : List UInt8) (s : Rs) (w : Nat) : Nat := if rT l s w then numB ((l.drop s.at_.toNat).take w) else 0

end Go.VL

namespace Go.VL

open Go.Proofs

/-- the same, and perhaps more behind it -/
structure Like (ρ τ : St) : Prop where
  next : ρ.next ≤ τ.next
  same : ∀ n, n < ρ.next → τ.res n = ρ.res n

theorem Like.refl (σ : St) : Like σ σ := ⟨Nat.le_refl _, fun _ _ => rfl⟩

theorem Like.trans {a b c : St} (h : Like a b) (k : Like b c) : Like a c := ⟨Nat.le_trans h.next k.next, fun n hn => (k.same n (Nat.lt_of_lt_of_le hn h.next)).trans (h.same n hn)⟩

theorem Like.up {a b : St} (h : Like a b) (k : Nat) : Like a (b.up k) := ⟨Nat.le_trans h.next (Nat.le_add_right _ _), h.same⟩

theorem Like.set {a b : St} (h : Like a b) {n : Nat} (r : Res) (hn : a.next ≤ n) : Like a (b.set n r) := ⟨h.next, fun m hm => by rw [St.set_other _ _ (by omega)]; exact h.same m hm⟩

theorem Like.del {a b : St} (h : Like a b) {n : Nat} (hn : a.next ≤ n) : Like a (b.del n) := ⟨h.next, fun m hm => by
  have : m ≠ n := by omega
  rw [← h.same m hm]; simp [St.del, this]⟩

theorem Like.put {a b : St} (h : Like a b) (n : Nat) (r : Res) : Like (a.set n r) (b.set n r) := ⟨h.next, fun m hm => by
  have hm' : m < a.next := hm
  by_cases e : m = n
  · subst e; simp
  · rw [St.set_other _ _ e, St.set_other _ _ e]; exact h.same m hm'⟩

theorem Like.one {σ σ' : St} {g k : Nat} (h : OneTip σ σ' g k) : Like σ σ' := ⟨by have := h.lo; have := h.hi; omega, fun n hn => by rw [h.res, St.set_other _ _ (by have := h.lo; omega)]⟩

theorem Like.get {a b : St} (h : Like a b) {n : Nat} (hn : n < a.next) {r : Res} (hr : a.res n = some r) : b.res n = some r := by rw [h.same n hn]; exact hr

theorem WF.lt {σ : St} (wf : WF σ) {n : Nat} {r : Res} (h : σ.res n = some r) : n < σ.next := by
  rcases Nat.lt_or_ge n σ.next with h' | h'
  · exact h'
  · rw [wf n h'] at h; cases h

/-- what is left behind a call may be told as it is, but for names that nobody knows -/
theorem Gv.like {σ0 τ ρ : St} {x : AV} (h : Like ρ τ) (hn : ρ.next = σ0.next) (hx : x.nb σ0.next) (hr : ∀ n r, ρ.res n = some r → n < σ0.next ∧ (σ0.res n = some r ∨ r.nb σ0.next)) : Gv σ0 x τ x ρ :=
  .cut (Nat.le_of_eq hn.symm) (by rw [hn]; exact hx) (fun n r hnr => by
    obtain ⟨h1, h2⟩ := hr n r hnr
    refine ⟨by rw [h.same n (by omega)]; exact hnr, ?_⟩
    rcases h2 with h2 | h2
    · exact .inl h2
    · exact .inr ⟨by omega, by rw [hn]; exact h2⟩)

theorem inc64' {i n : Nat} (h : i < n) (hn : n ≤ 4611686018427387904) : IntKind.i64.wrap ((i : Int) + 1) = ((i + 1 : Nat) : Int) := by
  rw [wrap64 (by omega) (by omega)]; omega

/-- a named end, and what was there ahead of it -/
structure Tq (σ t : St) (g k : Nat) : Prop where
  like : Like σ t
  at_ : t.res g = some (.tip k)
  lo : σ.next ≤ g
  hi : g < t.next

theorem Tq.up {σ t : St} {g k : Nat} (h : Tq σ t g k) (n : Nat) : Tq σ (t.up n) g k := ⟨h.like.up n, h.at_, h.lo, Nat.lt_of_lt_of_le h.hi (Nat.le_add_right _ _)⟩

theorem Tq.new {σ t : St} (h : Like σ t) {n i : Nat} (hi : i < n) (k : Nat) : Tq σ ((t.up n).set (t.next + i) (.tip k)) (t.next + i) k :=
  ⟨(h.up n).set _ (by have := h.next; omega), by simp, by have := h.next; omega, by simp; omega⟩

theorem Tq.app {σ t : St} {g k : Nat} (h : Tq σ t g k) {n i : Nat} (hi : i < n) : Tq σ (((t.up n).del g).set (t.next + i) (.tip k)) (t.next + i) k :=
  ⟨((h.like.up n).del h.lo).set _ (by have := h.like.next; omega), by simp, by have := h.like.next; omega, by simp; omega⟩

theorem Tq.box {σ t : St} {g k : Nat} (h : Tq σ t g k) {n i : Nat} (hi : i < n) (r : Res) : Tq σ ((t.up n).set (t.next + i) r) g k :=
  ⟨(h.like.up n).set _ (by have := h.like.next; omega), by rw [St.set_other _ _ (by have := h.hi; omega)]; exact h.at_, h.lo, by have := h.hi; simp; omega⟩

theorem Tq.one {σ t : St} {g k : Nat} (h : OneTip σ t g k) : Tq σ t g k := ⟨.one h, h.at_, h.lo, h.hi⟩

theorem Tq.trans {σ t u : St} {g k : Nat} (h : Like σ t) (q : Tq t u g k) : Tq σ u g k := ⟨h.trans q.like, q.at_, Nat.le_trans h.next q.lo, q.hi⟩

theorem Like.quiet {σ t : St} (wf : WF σ) (h : Like σ t) : ∀ n x, σ.res n = some x → t.res n = some x := fun _ _ hx => h.get (wf.lt hx) hx

theorem Tq.quiet {σ t : St} {g k : Nat} (wf : WF σ) (h : Tq σ t g k) : ∀ n x, σ.res n = some x → t.res n = some x := h.like.quiet wf

theorem Like.box {σ t : St} (h : Like σ t) {n i : Nat} (r : Res) : Like σ ((t.up n).set (t.next + i) r) := (h.up n).set _ (by have := h.next; omega)

theorem Tq.mv {σ t : St} {g k : Nat} (h : Tq σ t g k) {g2 : Nat} (lo : σ.next ≤ g2) (hi : g2 < t.next) : Tq σ ((t.del g).set g2 (.tip k)) g2 k :=
  ⟨(h.like.del h.lo).set _ lo, by simp, lo, hi⟩

/-- a named end, and an owned thing -/
structure Tb (σ t : St) (g k a : Nat) (r : Res) : Prop where
  q : Tq σ t g k
  b : t.res a = some r
  lt : a < t.next
  ne : a ≠ g

theorem Tb.bs {σ t : St} {g k a : Nat} {r : Res} (h : Tb σ t g k a r) : ∀ n, (t.up n).res a = some r := fun _ => h.b

theorem Tb.app {σ t : St} {g k a : Nat} {r : Res} (h : Tb σ t g k a r) {n i : Nat} (hi : i < n) : Tb σ (((t.up n).del g).set (t.next + i) (.tip k)) (t.next + i) k a r :=
  ⟨h.q.app hi, by
    have := h.lt
    rw [St.set_other _ _ (by omega)]
    have hne := h.ne
    simp only [St.del, if_neg hne]; exact h.b, by have := h.lt; simp; omega, by have := h.lt; omega⟩

theorem Tq.tb {σ t : St} {g k : Nat} (q : Tq σ t g k) {n i : Nat} (hi : i < n) (r : Res) : Tb σ ((t.up n).set (t.next + i) r) g k (t.next + i) r :=
  ⟨q.box hi r, by simp, by simp; omega, by have := q.hi; omega⟩

end Go.VL

namespace Go.VL

open Go.Proofs

abbrev n_may : Nat := 118

abbrev n_nan1 : Nat := 155

def c_nan1 : C := (.seq (.reg [⟨(some 2), (.mv (.c (.bool false))), none⟩]) (.seq (.reg [⟨(some 3), (.mv (.t 0)), none⟩, ⟨(some 4), (.mv (.t 0)), none⟩, ⟨(some 5), (.bin .neq .i64 (.t 3) (.t 4)), none⟩, ⟨(some 2), (.mv (.t 5)), none⟩]) .ret))

set_option maxRecDepth 100000 in
theorem k_nan1 : compileC Try.prog ann (Try.f155.body.getD .skip) = some c_nan1 := by kernel_rfl

theorem s_nan1 {args : List AV} {σ : St} {K : AV → St → Prop} (h : WF σ → T Try.prog ann c_nan1 (Fin σ [(.t 2)] K) (args ++ List.replicate (6 - args.length) (.tup [])) σ) : ACalls Try.prog n_nan1 args σ K :=
  calls_ok Try.func155 (by kernel_rfl) (by kernel_rfl) k_nan1 (by kernel_rfl) (by kernel_rfl) h

abbrev n_cmpi : Nat := 124

def c_cmpi : C := (.seq (.reg [⟨(some 4), (.mv (.c (.int .i64 0))), none⟩]) (.seq (.reg [⟨(some 7), (.mv (.t 0)), none⟩, ⟨(some 8), (.call 155 [(.t 7)]), none⟩, ⟨(some 5), (.mv (.t 8)), none⟩]) (.seq (.reg [⟨(some 9), (.mv (.t 1)), none⟩, ⟨(some 10), (.call 155 [(.t 9)]), none⟩, ⟨(some 6), (.mv (.t 10)), none⟩]) (.seq (.seq (.reg [⟨(some 11), (.mv (.t 5)), none⟩]) (.cond (.t 11) (.seq (.seq (.reg [⟨(some 12), (.mv (.t 6)), none⟩]) (.cond (.t 12) (.seq (.reg [⟨(some 4), (.mv (.c (.int .i64 0))), none⟩]) .ret) .skip)) (.seq (.reg [⟨(some 4), (.mv (.c (.int .i64 (-1)))), none⟩]) .ret)) .skip)) (.seq (.seq (.reg [⟨(some 13), (.mv (.t 6)), none⟩]) (.cond (.t 13) (.seq (.reg [⟨(some 4), (.mv (.c (.int .i64 1))), none⟩]) .ret) .skip)) (.seq (.seq (.reg [⟨(some 14), (.mv (.t 0)), none⟩, ⟨(some 15), (.mv (.t 1)), none⟩, ⟨(some 16), (.bin .lss .i64 (.t 14) (.t 15)), none⟩]) (.cond (.t 16) (.seq (.reg [⟨(some 4), (.mv (.c (.int .i64 (-1)))), none⟩]) .ret) .skip)) (.seq (.seq (.reg [⟨(some 17), (.mv (.t 0)), none⟩, ⟨(some 18), (.mv (.t 1)), none⟩, ⟨(some 19), (.bin .gtr .i64 (.t 17) (.t 18)), none⟩]) (.cond (.t 19) (.seq (.reg [⟨(some 4), (.mv (.c (.int .i64 1))), none⟩]) .ret) .skip)) (.seq (.reg [⟨(some 4), (.mv (.c (.int .i64 0))), none⟩]) .ret))))))))

set_option maxRecDepth 100000 in
theorem k_cmpi : compileC Try.prog ann (Try.f124.body.getD .skip) = some c_cmpi := by kernel_rfl

theorem s_cmpi {args : List AV} {σ : St} {K : AV → St → Prop} (h : WF σ → T Try.prog ann c_cmpi (Fin σ [(.t 4)] K) (args ++ List.replicate (20 - args.length) (.tup [])) σ) : ACalls Try.prog n_cmpi args σ K :=
  calls_ok Try.func124 (by kernel_rfl) (by kernel_rfl) k_cmpi (by kernel_rfl) (by kernel_rfl) h

abbrev n_cor : Nat := 122

def c_cor : C := (.seq (.reg [⟨(some 2), (.mv (.c (.int .i64 0))), none⟩]) (.seq (.reg [⟨(some 3), (.mv (.c (.int .i64 0))), none⟩]) (.seq (.seq (.reg [⟨(some 6), (.mv (.t 0)), none⟩, ⟨(some 7), (.len (.t 6)), none⟩, ⟨(some 8), (.mv (.c (.int .i64 0))), none⟩]) (.block 0 (.loop (.seq (.reg [⟨(some 9), (.bin .lss .i64 (.t 8) (.t 7)), none⟩]) (.seq (.cond (.t 9) .skip (.exit 0)) (.seq (.block 1 (.seq (.reg [⟨(some 10), (.iaddr 1 (.t 6) (.t 8)), none⟩, ⟨(some 11), (.load none (.t 10)), none⟩, ⟨(some 5), (.mv (.t 11)), none⟩]) (.seq (.reg [⟨(some 12), (.mv (.t 5)), none⟩, ⟨(some 13), (.mv (.t 3)), none⟩, ⟨(some 14), (.bin .neq .i64 (.t 12) (.t 13)), none⟩]) (.cond (.t 14) (.seq (.reg [⟨(some 15), (.mv (.t 5)), none⟩, ⟨(some 2), (.mv (.t 15)), none⟩]) .ret) .skip)))) (.reg [⟨(some 16), (.bin .add .i64 (.t 8) (.c (.int .i64 1))), none⟩, ⟨(some 8), (.mv (.t 16)), none⟩]))))))) (.seq (.reg [⟨(some 17), (.mv (.t 3)), none⟩, ⟨(some 2), (.mv (.t 17)), none⟩]) .ret))))

set_option maxRecDepth 100000 in
theorem k_cor : compileC Try.prog ann (Try.f122.body.getD .skip) = some c_cor := by kernel_rfl

theorem s_cor {args : List AV} {σ : St} {K : AV → St → Prop} (h : WF σ → T Try.prog ann c_cor (Fin σ [(.t 2)] K) (args ++ List.replicate (18 - args.length) (.tup [])) σ) : ACalls Try.prog n_cor args σ K :=
  calls_ok Try.func122 (by kernel_rfl) (by kernel_rfl) k_cor (by kernel_rfl) (by kernel_rfl) h

abbrev n_scmp : Nat := 80

end Go.VL

namespace Go.VL

open Go.Proofs

/-- a span -/
structure Sp where
  tr : Nat
  id : Nat
  st : Int
  en : Int
  da : List UInt8
  deriving DecidableEq

def Sp.av (s : Sp) : AV := .agg [.int .u64 (s.tr : Int), .int .u64 (s.id : Int), .int .i64 s.st, .int .i64 s.en, .sl (bytesAV s.da) .none]

/-- a trace -/
structure Tc where
  id : Nat
  sp : List Sp
  deriving DecidableEq

def Tc.av (t : Tc) : AV := .agg [.int .u64 (t.id : Int), .sl (t.sp.map Sp.av) .none]

theorem inc64 {i n : Nat} (h : i < n) (hn : n ≤ 9223372036854775807) : IntKind.i64.wrap ((i : Int) + 1) = ((i + 1 : Nat) : Int) := by
  rw [wrap64 (by omega) (by omega)]; rfl

end Go.VL

namespace Go.VL

open Go.Proofs

/-! ### Comparing -/

def cmp3 (a b : Int) : Int := if a < b then -1 else if b < a then 1 else 0

theorem nan1_ok {a : Int} {σ : St} : ACalls Try.prog n_nan1 [.int .i64 a] σ (fun v σ' => v = .bool false ∧ σ' = σ) := by
  refine s_nan1 (fun wf => ?_)
  unfold c_nan1
  refine T.seq_k (fun K_h1 h1 => ?_)
  refine T.regi hm ?_
  simp only [↓reduceIte, namesOf, List.any, I.names, aopsI, astep, ev, setd, List.set, List.cons_append, List.nil_append, List.length_cons, List.length_nil, List.replicate, then_normal, Bool.or_false, Bool.false_eq_true, up_zero, Nat.reduceAdd, Nat.reduceSub]
  refine h1 _ _ ?_
  try clear h1 K_h1
  refine T.seq_k (fun K_h1 h1 => ?_)
  refine T.regi hm ?_
  simp only [↓reduceIte, namesOf, List.any, I.names, aopsI, astep, ev, setd, List.set, List.getD, List.getElem?_cons_zero, List.getElem?_cons_succ, then_normal, Option.getD_some, Bool.or_false, Bool.false_eq_true, up_zero, binv, ↓opt_def, eq_self, bne_self_eq_false]
  refine h1 _ _ ?_
  try clear h1 K_h1
  exact T.ret (Fin.ret rfl ⟨rfl, rfl⟩)

theorem cmpi_ok {a b : Int} {σ : St} : ACalls Try.prog n_cmpi [.int .i64 a, .int .i64 b] σ (fun v σ' => v = .int .i64 (cmp3 a b) ∧ σ' = σ) := by
  refine s_cmpi (fun wf => ?_)
  unfold c_cmpi
  refine T.seq_k (fun K_h1 h1 => ?_)
  refine T.regi hm ?_
  simp only [↓reduceIte, namesOf, List.any, I.names, aopsI, astep, ev, setd, List.set, List.cons_append, List.nil_append, List.length_cons, List.length_nil, List.replicate, then_normal, Bool.or_false, Bool.false_eq_true, up_zero, Nat.reduceAdd, Nat.reduceSub]
  refine h1 _ _ ?_
  try clear h1 K_h1
  refine T.seq_k (fun K_h1 h1 => ?_)
  refine T.regi hm ?_
  simp only [↓reduceIte, namesOf, List.any, I.names, aopsI, astep, ev, setd, List.set, List.getD, List.getElem?_cons_zero, List.getElem?_cons_succ, then_normal, Option.getD_some, Bool.or_false, Bool.false_eq_true, up_zero, List.map_cons, List.map_nil]
  refine nan1_ok.mono ?_
  rintro v σ1 ⟨rfl, rfl⟩
  try simp only [↓reduceIte, namesOf, List.any, I.names, aops, aopsI, aopsT, qstep, CPt, qget, Tbl.get, astep, ev, setd, List.set, List.getD, List.getElem?_cons_zero, List.getElem?_cons_succ, List.getElem?_nil, List.cons_append, List.nil_append, List.length_cons, List.length_nil, List.replicate, then_normal, inBlock_normal, Option.getD_some, Option.getD_none, Bool.or_false, Bool.or_true, Bool.true_or, Bool.false_or, Bool.false_eq_true, if_false, if_true, up_zero, Nat.reduceAdd, Nat.reduceSub, binv, ↓opt_def, AV.isAny, AV.cells, ldc, List.map_cons, List.map_nil, St.set_next, St.set_same, St.up_next, Int.natCast_nonneg, lt_len, le_len, Int.toNat_natCast, true_and, and_true, eq_self, reduceCtorEq, decide_true, List.length_singleton, er_int, er_bool, er_str, srcR, up_zero]
  refine h1 _ _ ?_
  try clear h1 K_h1
  refine T.seq_k (fun K_h1 h1 => ?_)
  refine T.regi hm ?_
  simp only [↓reduceIte, namesOf, List.any, I.names, aopsI, astep, ev, setd, List.set, List.getD, List.getElem?_cons_zero, List.getElem?_cons_succ, then_normal, Option.getD_some, Bool.or_false, Bool.false_eq_true, up_zero, List.map_cons, List.map_nil]
  refine nan1_ok.mono ?_
  rintro v σ1 ⟨rfl, rfl⟩
  try simp only [↓reduceIte, namesOf, List.any, I.names, aops, aopsI, aopsT, qstep, CPt, qget, Tbl.get, astep, ev, setd, List.set, List.getD, List.getElem?_cons_zero, List.getElem?_cons_succ, List.getElem?_nil, List.cons_append, List.nil_append, List.length_cons, List.length_nil, List.replicate, then_normal, inBlock_normal, Option.getD_some, Option.getD_none, Bool.or_false, Bool.or_true, Bool.true_or, Bool.false_or, Bool.false_eq_true, if_false, if_true, up_zero, Nat.reduceAdd, Nat.reduceSub, binv, ↓opt_def, AV.isAny, AV.cells, ldc, List.map_cons, List.map_nil, St.set_next, St.set_same, St.up_next, Int.natCast_nonneg, lt_len, le_len, Int.toNat_natCast, true_and, and_true, eq_self, reduceCtorEq, decide_true, List.length_singleton, er_int, er_bool, er_str, srcR, up_zero]
  refine h1 _ _ ?_
  try clear h1 K_h1
  refine T.seq_k (fun K_h1 h1 => ?_)
  refine T.seq_k (fun K_h2 h2 => ?_)
  refine T.regi hm ?_
  simp only [↓reduceIte, namesOf, List.any, I.names, aopsI, astep, ev, setd, List.set, List.getD, List.getElem?_cons_zero, List.getElem?_cons_succ, then_normal, Option.getD_some, Bool.or_false, Bool.false_eq_true, up_zero]
  refine h2 _ _ ?_
  try clear h2 K_h2
  refine T.cond rfl (fun hb => by cases hb) (fun _ => T.skip ?_)
  refine h1 _ _ ?_
  try clear h1 K_h1
  refine T.seq_k (fun K_h1 h1 => ?_)
  refine T.seq_k (fun K_h2 h2 => ?_)
  refine T.regi hm ?_
  simp only [↓reduceIte, namesOf, List.any, I.names, aopsI, astep, ev, setd, List.set, List.getD, List.getElem?_cons_zero, List.getElem?_cons_succ, then_normal, Option.getD_some, Bool.or_false, Bool.false_eq_true, up_zero]
  refine h2 _ _ ?_
  try clear h2 K_h2
  refine T.cond rfl (fun hb => by cases hb) (fun _ => T.skip ?_)
  refine h1 _ _ ?_
  try clear h1 K_h1
  refine T.seq_k (fun K_h1 h1 => ?_)
  refine T.seq_k (fun K_h2 h2 => ?_)
  refine T.regi hm ?_
  simp only [↓reduceIte, namesOf, List.any, I.names, aopsI, astep, ev, setd, List.set, List.getD, List.getElem?_cons_zero, List.getElem?_cons_succ, then_normal, Option.getD_some, Bool.or_false, Bool.false_eq_true, up_zero, binv, ↓opt_def, eq_self]
  refine h2 _ _ ?_
  try clear h2 K_h2
  refine T.cond rfl (fun hb => ?_) (fun hb => ?_)
  · refine T.seq_k (fun K_h2 h2 => ?_)
    refine T.regi hm ?_
    simp only [↓reduceIte, namesOf, List.any, I.names, aopsI, astep, ev, setd, List.set, then_normal, Bool.or_false, Bool.false_eq_true, up_zero]
    refine h2 _ _ ?_
    try clear h2 K_h2
    have : a < b := by simpa using hb
    exact T.ret (Fin.ret rfl ⟨by simp [pack, cmp3, this], rfl⟩)
  · refine T.skip ?_
    refine h1 _ _ ?_
    try clear h1 K_h1
    have hn : ¬ a < b := by simpa using hb
    refine T.seq_k (fun K_h1 h1 => ?_)
    refine T.seq_k (fun K_h2 h2 => ?_)
    refine T.regi hm ?_
    simp only [↓reduceIte, namesOf, List.any, I.names, aopsI, astep, ev, setd, List.set, List.getD, List.getElem?_cons_zero, List.getElem?_cons_succ, then_normal, Option.getD_some, Bool.or_false, Bool.false_eq_true, up_zero, binv, ↓opt_def, eq_self]
    refine h2 _ _ ?_
    try clear h2 K_h2
    refine T.cond rfl (fun hb => ?_) (fun hb => ?_)
    · refine T.seq_k (fun K_h2 h2 => ?_)
      refine T.regi hm ?_
      simp only [↓reduceIte, namesOf, List.any, I.names, aopsI, astep, ev, setd, List.set, then_normal, Bool.or_false, Bool.false_eq_true, up_zero]
      refine h2 _ _ ?_
      try clear h2 K_h2
      have : b < a := by simpa using hb
      exact T.ret (Fin.ret rfl ⟨by simp [pack, cmp3, this, hn], rfl⟩)
    · refine T.skip ?_
      refine h1 _ _ ?_
      try clear h1 K_h1
      have hn2 : ¬ b < a := by simpa using hb
      refine T.seq_k (fun K_h1 h1 => ?_)
      refine T.regi hm ?_
      simp only [↓reduceIte, namesOf, List.any, I.names, aopsI, astep, ev, setd, List.set, then_normal, Bool.or_false, Bool.false_eq_true, up_zero]
      refine h1 _ _ ?_
      try clear h1 K_h1
      exact T.ret (Fin.ret rfl ⟨by simp [pack, cmp3, hn, hn2], rfl⟩)

/-- the first that is not 0 -/
def orI : List Int → Int
  | [] => 0
  | n :: r => if n = 0 then orI r else n

theorem orI_take {l : List Int} {i : Nat} (hi : i < l.length) (h : ∀ j (hj : j < l.length), j < i → l[j] = 0) : orI l = orI (l.drop i) := by
  induction i with
  | zero => rfl
  | succ i ih =>
    rw [ih (by omega) (fun j hj hji => h j hj (by omega)), List.drop_eq_getElem_cons (by omega)]
    unfold orI
    rw [if_pos (h i (by omega) (by omega))]
    cases hd : l.drop (i + 1) with
    | nil => rfl
    | cons a r => rfl

theorem orI_zero : ∀ {l : List Int}, (∀ j (hj : j < l.length), j < l.length → l[j] = 0) → orI l = 0
  | [], _ => rfl
  | a :: r, h => by
    have h0 := h 0 (by simp) (by simp)
    simp only [List.getElem_cons_zero] at h0
    subst h0
    unfold orI
    rw [if_pos rfl]
    exact orI_zero (fun j hj _ => by have := h (j + 1) (by simpa using hj) (by simpa using hj); simpa using this)

theorem cor_ok {l : List Int} {g : Ver} {σ : St} (hl : l.length ≤ 9223372036854775807) : ACalls Try.prog n_cor [.sl (nums .i64 l) g] σ (fun v σ' => v = .int .i64 (orI l) ∧ σ' = σ) := by
  refine s_cor (fun wf => ?_)
  unfold c_cor
  refine T.seq_k (fun K_h1 h1 => ?_)
  refine T.regi hm ?_
  simp only [↓reduceIte, namesOf, List.any, I.names, aopsI, astep, ev, setd, List.set, List.cons_append, List.nil_append, List.length_cons, List.length_nil, List.replicate, then_normal, Bool.or_false, Bool.false_eq_true, up_zero, Nat.reduceAdd, Nat.reduceSub]
  refine h1 _ _ ?_
  try clear h1 K_h1
  refine T.seq_k (fun K_h1 h1 => ?_)
  refine T.regi hm ?_
  simp only [↓reduceIte, namesOf, List.any, I.names, aopsI, astep, ev, setd, List.set, then_normal, Bool.or_false, Bool.false_eq_true, up_zero]
  refine h1 _ _ ?_
  try clear h1 K_h1
  refine T.seq_k (fun K_h1 h1 => ?_)
  refine T.seq_k (fun K_h2 h2 => ?_)
  refine T.regi hm ?_
  simp only [↓reduceIte, namesOf, List.any, I.names, aopsI, astep, ev, setd, List.set, List.getD, List.getElem?_cons_zero, List.getElem?_cons_succ, then_normal, Option.getD_some, Bool.or_false, Bool.false_eq_true, up_zero, nums_len]
  refine h2 _ _ ?_
  try clear h2 K_h2
  refine T.block ?_
  refine T.gh (Gh.keep [3, 6, 7, 8]) ?_
  refine T.loopi (fun i ρ σ' => σ' = σ ∧ (∀ j (hj : j < l.length), j < i → l[j] = 0) ∧ ρ = [.any, .any, .any, .int .i64 0, .any, .any, .sl (nums .i64 l) g, .int .i64 (l.length : Int), .int .i64 (i : Int)] ++ List.replicate 9 .any)
    l.length 0 (Nat.zero_le _) ⟨rfl, fun j _ h => by omega, rfl⟩ ?_
  rintro i ρ σ' hi ⟨rfl, hpre, rfl⟩
  refine T.seq_k (fun K_h2 h2 => ?_)
  refine T.regi hm ?_
  simp only [↓reduceIte, namesOf, List.any, I.names, aopsI, astep, ev, setd, List.set, List.getD, List.getElem?_cons_zero, List.getElem?_cons_succ, List.cons_append, List.nil_append, List.replicate, then_normal, Option.getD_some, Bool.or_false, Bool.false_eq_true, up_zero, binv, ↓opt_def, lt_len, eq_self]
  refine h2 _ _ ?_
  try clear h2 K_h2
  refine T.seq_k (fun K_h2 h2 => ?_)
  refine T.cond rfl (fun hb => ?_) (fun hb => ?_)
  · refine T.skip ?_
    refine h2 _ _ ?_
    try clear h2 K_h2
    have hil : i < l.length := by simpa using hb
    clear hb
    refine T.seq_k (fun K_h2 h2 => ?_)
    refine T.block ?_
    refine T.seq_k (fun K_h3 h3 => ?_)
    refine T.regi hm ?_
    simp only [↓reduceIte, namesOf, List.any, I.names, aopsI, astep, ev, setd, List.set, List.getD, List.getElem?_cons_zero, List.getElem?_cons_succ, List.cons_append, List.nil_append, List.length_cons, List.length_nil, List.replicate, then_normal, Option.getD_some, Bool.or_false, Bool.false_eq_true, up_zero, Nat.reduceAdd, ↓opt_def, AV.cells, ldc, Int.natCast_nonneg, lt_len, Int.toNat_natCast, true_and, and_true, eq_self, decide_true, nums_len, nums_get .i64 hil, hil]
    refine h3 _ _ ?_
    try clear h3 K_h3
    refine T.seq_k (fun K_h3 h3 => ?_)
    refine T.regi hm ?_
    simp only [↓reduceIte, namesOf, List.any, I.names, aopsI, astep, ev, setd, List.set, List.getD, List.getElem?_cons_zero, List.getElem?_cons_succ, List.cons_append, List.nil_append, List.replicate, then_normal, Option.getD_some, Bool.or_false, Bool.false_eq_true, up_zero, binv, ↓opt_def, eq_self]
    refine h3 _ _ ?_
    try clear h3 K_h3
    refine T.cond rfl (fun hb => ?_) (fun hb => ?_)
    · refine T.seq_k (fun K_h3 h3 => ?_)
      refine T.regi hm ?_
      simp only [↓reduceIte, namesOf, List.any, I.names, aopsI, astep, ev, setd, List.set, List.getD, List.getElem?_cons_zero, List.getElem?_cons_succ, List.cons_append, List.nil_append, List.replicate, then_normal, Option.getD_some, Bool.or_false, Bool.false_eq_true, up_zero]
      refine h3 _ _ ?_
      try clear h3 K_h3
      have hne : l[i] ≠ 0 := by simpa using hb
      refine T.ret (Fin.ret rfl ⟨?_, rfl⟩)
      rw [orI_take hil hpre, List.drop_eq_getElem_cons hil]
      simp [pack, orI, hne]
    · refine T.skip ?_
      refine h2 _ _ ?_
      try clear h2 K_h2
      have he : l[i] = 0 := by simpa using hb
      have hw := inc64 hil hl
      refine T.regi hm ?_
      simp only [↓reduceIte, namesOf, List.any, I.names, aopsI, astep, ev, setd, List.set, List.getD, List.getElem?_cons_zero, List.getElem?_cons_succ, List.cons_append, List.nil_append, List.replicate, then_normal, Option.getD_some, Bool.or_false, Bool.false_eq_true, up_zero, binv, ↓opt_def, eq_self, hw]
      refine ⟨hil, _, _, Gh.keep [3, 6, 7, 8], rfl, fun j hj hji => ?_, rfl⟩
      by_cases hx : j = i
      · subst hx; exact he
      · exact hpre j hj (by omega)
  · refine T.exit ?_
    have : i = l.length := by simp at hb; omega
    subst this
    try simp only [List.cons_append, List.nil_append, List.replicate, then_normal, inBlock_exit, then_exit]
    refine h1 _ _ ?_
    try clear h1 K_h1
    refine T.seq_k (fun K_h1 h1 => ?_)
    refine T.regi hm ?_
    simp only [↓reduceIte, namesOf, List.any, I.names, aopsI, astep, ev, setd, List.set, List.getD, List.getElem?_cons_zero, List.getElem?_cons_succ, then_normal, Option.getD_some, Bool.or_false, Bool.false_eq_true, up_zero]
    refine h1 _ _ ?_
    try clear h1 K_h1
    refine T.ret (Fin.ret rfl ⟨?_, rfl⟩)
    have : orI l = 0 := orI_zero hpre
    rw [this]; rfl

def g_cmpi : List AV → Option AV
  | [.int .i64 a, .int .i64 b] => some (.int .i64 (cmp3 a b))
  | _ => none

theorem cmpi_pure : PureC Try.prog n_cmpi g_cmpi := by
  intro args σ v h
  unfold g_cmpi at h
  split at h
  · simp only [Option.some.injEq] at h; subst h; exact cmpi_ok
  · cases h

/-- how two spans stand, by (Start, Id, Trace) -/
def cmpS (s i t s' i' t' : Int) : Int := orI [cmp3 s s', cmp3 i i', cmp3 t t']

theorem set2_quiet {σ : St} (wf : WF σ) {k : Nat} (r r' : Res) {a b : Nat} (ha : σ.next ≤ a) (hb : σ.next ≤ b) : ∀ n x, σ.res n = some x → (((σ.up k).set a r).set b r').res n = some x := by
  intro n x hr
  have hn : n < σ.next := by
    rcases Nat.lt_or_ge n σ.next with h | h
    · exact h
    · rw [wf n h] at hr; cases hr
  rw [St.set_other _ _ (by omega), St.set_other _ _ (by omega)]; exact hr

def mayI (s e n : Int) : Bool := decide (0 ≤ s ∧ s ≤ e ∧ e ≤ 1099511627776 ∧ n ≤ 64)

def g_scmp : List AV → Option AV
  | [.agg [.int .u64 t, .int .u64 i, .int .i64 s, _, _], .agg [.int .u64 t', .int .u64 i', .int .i64 s', _, _]] => some (.int .i64 (cmpS s i t s' i' t'))
  | _ => none

def g_may : List AV → Option AV
  | [.agg [_, _, .int .i64 s, .int .i64 e, .sl xs _]] => some (.bool (mayI s e xs.length))
  | _ => none

def tS : Tbl := [(n_scmp, g_scmp), (n_may, g_may)]

end Go.VL

namespace Go.VL

open Go.Proofs

def metAV (l : List Nat) : List (AV × AV) := l.map fun n : Nat => (.int .u64 (n : Int), .bool true)

theorem met_put (l : List Nat) (n : Nat) (h : l.contains n = false) : mput (.int .u64 (n : Int)) (.bool true) (metAV l) = metAV (l ++ [n]) := by
  induction l with
  | nil => rfl
  | cons a r ih =>
    unfold metAV at ih ⊢
    simp only [List.contains_cons, Bool.or_eq_false_iff] at h
    have h1 : ((n : Int) == (a : Int)) = false := by have := h.1; simp at this ⊢; omega
    simp only [List.map_cons, mput, keq, if_true, h1, ih h.2, List.cons_append]

structure OneSt (σ σ' : St) (a m : Nat) (t : Tc) (l : List Nat) : Prop where
  a0 : σ.next ≤ a
  m0 : σ.next ≤ m
  a1 : a < σ'.next
  m1 : m < σ'.next
  obj : σ'.res a = some (.obj t.av.cells)
  map : σ'.res m = some (.map (metAV l) (List.range l.length) l.length)
  old : ∀ n r, σ.res n = some r → σ'.res n = some r

theorem OneSt.put {σ σ' : St} {a m : Nat} {t : Tc} {l : List Nat} {n : Nat} (wf : WF σ) (ham : a ≠ m) (h : OneSt σ σ' a m t l) (hn : l.contains n = false) : OneSt σ (σ'.set m (.map (mput (.int .u64 (n : Int)) (.bool true) (metAV l)) (List.range l.length ++ [l.length]) (l.length + 1))) a m t (l ++ [n]) where
  a0 := h.a0
  m0 := h.m0
  a1 := h.a1
  m1 := h.m1
  obj := by rw [St.set_other _ _ ham]; exact h.obj
  map := by rw [St.set_same, met_put l n hn, List.length_append, List.length_singleton, List.range_succ]
  old := fun n r' hr => by
    have hn : n < σ.next := by
      rcases Nat.lt_or_ge n σ.next with h' | h'
      · exact h'
      · rw [wf n h'] at hr; cases hr
    rw [St.set_other _ _ (by have := h.m0; omega)]; exact h.old n r' hr

end Go.VL

namespace Go.VL

open Go.Proofs Go.RowKit Go.Lib Go.Sort

variable {P : Program} {κ : Kx} {w : World}

abbrev cells5 (s : Sp) : List AV := [.int .u64 (s.tr : Int), .int .u64 (s.id : Int), .int .i64 s.st, .int .i64 s.en, .sl (bytesAV s.da) .none]

/-- a span in the memory -/
structure SpR (κ : Kx) (w : World) (x : SpV) (s : Sp) : Prop where
  a : x.a = s.tr
  b : x.b = s.id
  c : x.c = s.st
  d : x.d = s.en
  v : V κ w (.slice x.p x.n x.m) (.sl (bytesAV s.da) .none)

theorem SpR.vl {x : SpV} {s : Sp} (h : SpR κ w x s) : Vl κ w x.cs (cells5 s) := by
  obtain ⟨h1, h2, h3, h4, h5⟩ := h
  unfold SpV.cs cells5
  rw [h1, h2, h3, h4]
  exact .cons _ _ _ _ (.int _ _) (.cons _ _ _ _ (.int _ _) (.cons _ _ _ _ (.int _ _) (.cons _ _ _ _ (.int _ _) (.cons _ _ _ _ h5 .nil))))

theorem slice_of {v : Value} {xs : List AV} {g : Ver} (h : V κ w v (.sl xs g)) : ∃ p n m, v = .slice p n m := by
  rcases h.sl_inv with ⟨b, h1, _⟩ | ⟨b, i, c, k, h1, _⟩ <;> exact ⟨_, _, _, h1⟩

/-- spans in the memory -/
def RelS (κ : Kx) (w : World) : List SpV → List Sp → Prop
  | [], [] => True
  | x :: xs, s :: l => SpR κ w x s ∧ RelS κ w xs l
  | _, _ => False

theorem RelS.length : ∀ {xs : List SpV} {l : List Sp}, RelS κ w xs l → xs.length = l.length
  | [], [], _ => rfl
  | x :: xs, s :: l, h => by simp [RelS.length h.2]
  | [], _ :: _, h => h.elim
  | _ :: _, [], h => h.elim

theorem RelS.vl : ∀ {xs : List SpV} {l : List Sp}, RelS κ w xs l → Vl κ w (xs.flatMap SpV.cs) (l.flatMap cells5)
  | [], [], _ => .nil
  | x :: xs, s :: l, h => by simpa using h.1.vl.append (RelS.vl h.2)
  | [], _ :: _, h => h.elim
  | _ :: _, [], h => h.elim

theorem RelS.get : ∀ {xs : List SpV} {l : List Sp}, RelS κ w xs l → ∀ i (h1 : i < xs.length) (h2 : i < l.length), SpR κ w xs[i] l[i]
  | [], [], _, i, h1, _ => absurd h1 (by simp)
  | x :: xs, s :: l, h, 0, _, _ => h.1
  | x :: xs, s :: l, h, i + 1, h1, h2 => RelS.get h.2 i (by simpa using h1) (by simpa using h2)
  | [], _ :: _, h, _, _, _ => h.elim
  | _ :: _, [], h, _, _, _ => h.elim

theorem R.late {B : Nat} {F : Nat → Prop} {σ : St} (hR : R B F κ w σ) {w' : World} (hb : RowKit.Below w.heap.size w w') (hd : w.drawn ≤ w'.drawn) : Ext κ w κ w' ∧ R w.heap.size (ownd κ σ) κ w' σ ∧ Fr (ownd κ σ) w w' := by
  have e : Ext κ w κ w' := ⟨fun _ _ h => h, fun _ _ => rfl, fun _ _ => rfl, fun _ _ => rfl, fun _ _ => rfl, fun _ h => h, fun b o hi => cell_same (hb.block b (hR.imm b o hi)) o⟩
  have hR1 : R B F κ w' σ := hR.step e hR.dom (fun b o hi => Nat.lt_of_lt_of_le (hR.imm b o hi) hb.size) (fun n r hr => .inl ⟨hr, hb.block _ (hR.lt hr), fun _ h => h⟩)
  exact ⟨e, ⟨hR1.dom, hR1.own, hR1.apart, hR1.imm, fun n r hr hrl => .inl ⟨n, r, hr, hrl, rfl⟩⟩, ⟨hb.os, hd⟩, hb.tape, hb.output, hb.size, fun b hlt _ => hb.block b hlt⟩

/-- a row that lies there is owned -/
theorem R.claim {B : Nat} {F : Nat → Prop} {σ : St} (hR : R B F κ w σ) {b : Nat} (hB : B ≤ b) (hfree : ∀ n r, σ.res n = some r → κ.φ n ≠ b) (hI : ∀ o, ¬ κ.I b o) {us rest : List Value} {cs : List AV} {t : TypeId} {fz : Nat × Nat} (hf : fzOk us.length fz)
    (hb : w.heap[b]? = some (.cells ⟨us ++ rest⟩ t fz)) (hv : Vl κ w us cs) : Ext κ w (κ.name σ.next b) w ∧ R B F (κ.name σ.next b) w ((σ.up 1).set σ.next (.obj cs)) := by
  have hn : ¬ κ.dom σ.next := fun h => Nat.lt_irrefl _ (hR.dom _ h)
  have e : Ext κ w (κ.name σ.next b) w := .name hn (fun _ _ _ => rfl)
  refine ⟨e, hR.step e (fun n hd => ?_) (fun b o hi => hR.imm b o hi) (fun n r hr => ?_)⟩
  · rcases hd with hd | rfl
    · exact Nat.lt_succ_of_lt (hR.dom n hd)
    · exact Nat.lt_succ_self _
  · by_cases hx : n = σ.next
    · subst hx
      simp only [St.set_same, Option.some.injEq] at hr
      subst hr
      refine .inr ⟨.inr rfl, ⟨us, rest, t, fz, by simpa [Kx.name] using hb, hf, hv.mono e, fun o ho => hI o (by simpa [Kx.name] using ho), by simp [Kx.name], .inr (by simp [Kx.name])⟩, .inr (by simpa [Kx.name] using hB), fun m s hs hm => ?_⟩
      by_cases hy : m = σ.next
      · exact hy.symm
      · rw [St.set_other _ _ hy] at hs
        exact absurd hm.symm (by simpa [Kx.name, hy] using hfree m s hs)
    · rw [St.set_other _ _ hx] at hr
      exact .inl ⟨hr, rfl, fun o ho => ho⟩

end Go.VL

namespace Go.VL

open Go.Proofs Go.RowKit Go.Lib Go.Sort Go.Shelf

variable {P : Program} {κ : Kx} {w : World}

abbrev cellsP (k : Int × Int) : List AV := [.int .i64 k.1, .int .i64 k.2]

def PlV.of (k : Int × Int) : PlV := ⟨k.1, k.2⟩

def plsAV (l : List (Int × Int)) : List AV := l.map fun k => .agg [.int .i64 k.1, .int .i64 k.2]

theorem of_vl (k : Int × Int) : Vl κ w (PlV.of k).cs (cellsP k) := .cons _ _ _ _ (.int _ _) (.cons _ _ _ _ (.int _ _) .nil)

theorem flat_vl : ∀ (l : List (Int × Int)), Vl κ w ((l.map PlV.of).flatMap PlV.cs) (l.flatMap cellsP)
  | [] => .nil
  | k :: l => by simpa using (of_vl k).append (flat_vl l)

theorem vl_pl {us : List Value} {k : Int × Int} (h : Vl κ w us (cellsP k)) : us = (PlV.of k).cs := by
  cases h with
  | cons v1 _ r1 _ h1 t1 =>
  cases t1 with
  | cons v2 _ r2 _ h2 t2 =>
  cases t2
  rw [h1.int_inv, h2.int_inv]; rfl

theorem vl_pls : ∀ {l : List (Int × Int)} {us : List Value}, Vl κ w us (l.flatMap cellsP) → us = (l.map PlV.of).flatMap PlV.cs
  | [], us, h => by cases h; rfl
  | k :: l, us, h => by
    have h1 := h.take 2
    have h2 := h.drop 2
    have e1 : ((k :: l).flatMap cellsP).take 2 = cellsP k := by simp [cellsP]
    have e2 : ((k :: l).flatMap cellsP).drop 2 = l.flatMap cellsP := by simp [cellsP]
    rw [e1] at h1; rw [e2] at h2
    rw [List.map_cons, List.flatMap_cons, ← vl_pl h1, ← vl_pls h2, List.take_append_drop]

theorem perm_of {ss : List PlV} {l : List (Int × Int)} (h : ss.Perm (l.map PlV.of)) : ∃ l' : List (Int × Int), l'.Perm l ∧ ss = l'.map PlV.of := by
  refine ⟨ss.map fun x => (x.a, x.b), ?_, ?_⟩
  · have := h.map fun x : PlV => (x.a, x.b)
    rw [List.map_map] at this
    have hid : ((fun x : PlV => (x.a, x.b)) ∘ PlV.of) = id := rfl
    rwa [hid, List.map_id] at this
  · rw [List.map_map]
    have hid : (PlV.of ∘ fun x : PlV => (x.a, x.b)) = id := rfl
    rw [hid, List.map_id]

/-- which of two places comes first -/
def cfP (x y : PlV) : Int := if x.a < y.a then -1 else if y.a < x.a then 1 else if x.b < y.b then -1 else if y.b < x.b then 1 else 0

theorem ltP (x y : PlV) : ltOf cfP x y = decide (x.a < y.a ∨ x.a = y.a ∧ x.b < y.b) := by
  unfold ltOf cfP
  rw [decide_eq_decide]
  split
  · simp; omega
  · split
    · simp; omega
    · split
      · simp; omega
      · split <;> simp <;> omega

theorem swoP : SWO (ltOf cfP) where
  irrefl x := by rw [ltP]; simp
  trans x y z h1 h2 := by rw [ltP] at *; simp only [decide_eq_true_eq] at *; omega
  ntrans x y z h1 h2 := by rw [ltP] at *; simp only [decide_eq_false_iff_not] at *; omega

theorem cmp_laysP {g : Nat} (h : ∀ a b a' b' : Int, ACalls P g [.agg [.int .i64 a, .int .i64 b], .agg [.int .i64 a', .int .i64 b']] σn
      (fun v σ' => v = .int .i64 (cfP ⟨a, b⟩ ⟨a', b'⟩) ∧ σ' = σn)) (blk off size : Nat) (w : World) : CmpLays P g #[] PlV.cs 2 cfP blk off size w := by
  intro m os dk _ x y
  have hv : ∀ (κ : Kx) (w : World) (x : PlV), V κ w (.agg ⟨x.cs⟩) (.agg [.int .i64 x.a, .int .i64 x.b]) := fun κ w x =>
    .agg _ _ (.cons _ _ _ _ (.int _ _) (.cons _ _ _ _ (.int _ _) .nil))
  have := bare_calls (h x.a x.b y.a y.b) (r := .int .i64 (cfP x y)) (fun κ w v hv => hv.int_inv) (vs := [.agg ⟨x.cs⟩, .agg ⟨y.cs⟩]) (sortWorldK PlV.cs 2 w blk off m dk os)
    (fun κ => .cons _ _ _ _ (hv κ _ x) (.cons _ _ _ _ (hv κ _ y) .nil))
  simpa using this

theorem key_val {v : Value} {k : Int × Int} (h : V κ w v (.agg [.int .i64 k.1, .int .i64 k.2])) : v = (PlV.of k).enc := by
  obtain ⟨u, rfl, hu⟩ := h.agg_inv
  rw [vl_pl (k := k) hu]

theorem keys_vm : ∀ {ents : List MapEntry} {es : List (AV × AV)} {l : List (Int × Int)}, Vm κ w ents es → es.map (·.1) = plsAV l → ents.map (·.key) = (l.map PlV.of).map PlV.enc
  | _, _, l, .nil, hl => by
    cases l with
    | nil => rfl
    | cons s l => simp [plsAV] at hl
  | _, _, l, .cons e p es ps hk hv t, hl => by
    cases l with
    | nil => simp [plsAV] at hl
    | cons s l =>
      simp only [plsAV, List.map_cons, List.cons.injEq] at hl
      rw [hl.1] at hk
      have h1 := key_val hk
      have h2 := keys_vm t (l := l) hl.2
      simp [h1, h2]

/-- THE KEYS OF A MAP, GATHERED: a new row that is owned -/
theorem app2_ok {tE tS tQ tM tK tY tB bytes : Nat} (L : ElemK P tE tS 2 bytes [.int .i64 0, .int .i64 0]) (M : MapsK P tM tE tK tB) (hne : tS ≠ tE) {f g : Nat} {fn gn : Func} (hf : P.funcs[f]? = some fn) (hfb : fn.body = some (apCode tE tS tQ)) (hft : fn.ntmps = 13) (hfr : fn.results = #[.tmp 4]) (hfn : (fn.name == "runtime.NumGoroutine") = false)
    (hg : P.funcs[g]? = some gn) (hgb : gn.body = some (kaCode tE tM tY tB)) (hgt : gn.ntmps = 14) (hgr : gn.results = #[]) (hgn : (gn.name == "runtime.NumGoroutine") = false)
    {σ : St} {bx m : Nat} {es : List (AV × AV)} {ts : List Nat} {clk : Nat} {l : List (Int × Int)} (hbx : σ.res bx = some (.obj [.map m])) (hm : σ.res m = some (.map es ts clk)) (hl : es.map (·.1) = plsAV l) (h1 : l.length ≤ maxLen) (h2 : l.length * bytes ≤ 140737488355328) :
    ACalls P f [.sl [] .nil, .func g [] [.ptr bx 0]] σ (fun v σ' => ∃ l' : List (Int × Int), l'.Perm l ∧ ((l' = [] ∧ v = .sl [] .nil ∧ σ' = σ) ∨ (v = .ref σ.next 0 l'.length ∧ σ' = (σ.up 1).set σ.next (.obj (l'.flatMap cellsP))))) := by
  have hE : Enters P f := ⟨fn, hf, by simp [hfb], hfn⟩
  have hG : Enters P g := ⟨gn, hg, by simp [hgb], hgn⟩
  refine ⟨hE, fun κ w vs B F hR hv => ?_⟩
  cases hv with
  | cons v1 _ r1 _ k1 m1 =>
  cases m1 with
  | cons v2 _ r2 _ k2 m2 =>
  cases m2
  have hv1 : v1 = .slice none 0 0 := by
    cases k1 with
    | slnil _ _ => rfl
    | slz _ _ hx => rcases hx with h | h <;> cases h
  subst hv1
  obtain ⟨p, q, rfl, hp, hq⟩ := k2.func_inv
  cases hp
  cases hq with
  | cons u _ r _ k3 m3 =>
  cases m3
  obtain ⟨rfl, hdb⟩ := k3.ptr_inv
  obtain ⟨_, us, rest, tt, fz, b1, b2, b3, b4, _⟩ := hR.own bx _ hbx
  cases b3 with
  | cons u0 _ r0 _ k4 m4 =>
  cases m4
  obtain ⟨rfl, hdm⟩ := k4.map_inv
  obtain ⟨_, ents, g1, g2, g3, g4, g5, g6⟩ := hR.own m _ hm
  have hxs := keys_vm g2 hl
  obtain ⟨xs, hxl⟩ : ∃ xs, xs = l.map PlV.of := ⟨_, rfl⟩
  rw [← hxl] at hxs
  have hel : ents.length = l.length := by
    have := congrArg List.length hxs
    simp only [List.length_map] at this
    rw [this, hxl, List.length_map]
  have hcell : w.cell? ⟨κ.φ bx, 0, none⟩ = some (.map (some (κ.φ m))) := by rw [cell_of b1]; rfl
  have hbl := hR.lt hbx
  have hml := hR.lt hm
  have hseq : SeqD Fence.wide 1 P g #[.pointer (some ⟨κ.φ bx, 0, none⟩)] PlV.enc (fun ss => ss.Perm xs) ents.length w := fun ll J W hW hJ hY h0 =>
    ka2_in tE tS tM tK tY tB bytes L M Fence.wide 1 g gn hg hgb hgt hgr trivial rfl (Nat.le_refl _) ll (κ.φ bx) (κ.φ m) clk ents xs hxs J hY W hJ ((hW.cell (p := ⟨κ.φ bx, 0, none⟩) hbl).trans hcell) ((hW.block _ hml).trans g1)
      (by rw [g4]; exact g5) (fun e he => g6 _ (by rw [← g4]; exact List.mem_map_of_mem he)) h0
  have hc := callsIn_wide.1 (ap2_in tE tS tQ bytes L hne Fence.wide 2 f fn hf hfb hft hfr trivial rfl (Nat.le_refl _) g #[.pointer (some ⟨κ.φ bx, 0, none⟩)] trivial (fun args w => run_callFunc hG args) (fun ss => ss.Perm xs) ents.length (by rw [hel]; exact h1) (by rw [hel]; exact h2) w hseq)
  refine Calls.mono hc ?_
  rintro e w' ⟨v, ss, rfl, hS, hrow, hnil, hb, hd⟩
  rw [hxl] at hS
  obtain ⟨l', hp', rfl⟩ := perm_of hS
  obtain ⟨e0, hR', hfr'⟩ := hR.late hb hd
  rcases hrow.2 with ⟨rfl, hz⟩ | ⟨gb, cap, cur, rfl, hbase, hgb', hr1, hr2, hr3, hr4⟩
  · have hs0 : l'.map PlV.of = [] := List.eq_nil_of_length_eq_zero hz
    have hl0 : l' = [] := by simpa using hs0
    exact ⟨_, .sl [] .nil, κ, σ, rfl, e0, fun n hn => .inl hn, hR', hfr', Nat.le_refl _, .slnil _ (.inl rfl), l', hp', .inl ⟨hl0, rfl, rfl⟩⟩
  · have hrl : Vl κ w' ((l'.map PlV.of).flatMap PlV.cs) (l'.flatMap cellsP) := flat_vl l'
    have hcur : cur = ⟨(l'.map PlV.of).flatMap PlV.cs ++ cur.toList.drop ((l'.map PlV.of).length * 2)⟩ := by
      apply Array.ext'
      simp only
      rw [← hr4, List.take_append_drop]
    rw [hcur] at hgb'
    have hgl : ∀ {n r}, σ.res n = some r → κ.φ n ≠ gb := fun hr h => by have := hR.lt hr; omega
    obtain ⟨e1, hR1⟩ := R.claim hR' (b := gb) hbase (fun n r hr => hgl hr) (fun o hi => by have := hR.imm _ _ hi; omega) (cs := l'.flatMap cellsP) (.inl rfl) hgb' hrl
    refine ⟨_, .ref σ.next 0 l'.length, κ.name σ.next gb, (σ.up 1).set σ.next (.obj (l'.flatMap cellsP)), rfl, e0.trans e1, fun n hn => (by rcases hn with hn | hn; exact .inl hn; exact .inr (by rw [hn]; exact Nat.le_refl _)), hR1, hfr', Nat.le_succ _, ?_, l', hp', .inr ⟨rfl, rfl⟩⟩
    have := V.ref (κ := κ.name σ.next gb) (w := w') σ.next 0 l'.length cap (.inr rfl) (by rw [List.length_map] at hr1; exact hr1)
    simpa [Kx.name] using this

theorem flat_len2 : ∀ (xs : List PlV), (xs.flatMap PlV.cs).length = xs.length * 2
  | [] => rfl
  | x :: xs => by simp only [List.flatMap_cons, List.length_append, flat_len2 xs, List.length_cons]; simp [PlV.cs]; omega

theorem flat_get2 : ∀ (xs : List PlV) (j : Nat) (hj : j < xs.length * 2), (xs.flatMap PlV.cs)[j]? = (PlV.cs (xs[j / 2]'(by omega)))[j % 2]?
  | [], j, hj => absurd hj (by simp)
  | x :: xs, j, hj => by
    simp only [List.flatMap_cons]
    have h5 : (PlV.cs x).length = 2 := rfl
    by_cases h : j < 2
    · rw [List.getElem?_append_left (by rw [h5]; exact h)]
      have e1 : j / 2 = 0 := by omega
      have e2 : j % 2 = j := by omega
      simp only [e1, e2, List.getElem_cons_zero]
    · rw [List.getElem?_append_right (by rw [h5]; omega), h5, flat_get2 xs (j - 2) (by simp at hj; omega)]
      have e1 : j / 2 = (j - 2) / 2 + 1 := by omega
      have e2 : j % 2 = (j - 2) % 2 := by omega
      simp only [e1, e2, List.getElem_cons_succ]

theorem flatK_get2 (xs : List PlV) (j : Nat) (hj : j < xs.length * 2) : (xs.flatMap PlV.cs)[j]? = some (flatK PlV.cs 2 xs.toArray)[j]! := by
  rw [flat_get2 xs j hj, get_flatK _ _ _ _ (by simpa using hj)]
  have h1 : j / 2 < xs.length := by omega
  have h2 : xs.toArray[j / 2]! = xs[j / 2] := by simp [h1]
  rw [h2]
  have h3 : j % 2 < (PlV.cs xs[j / 2]).length := by show j % 2 < 2; omega
  rw [List.getElem?_eq_getElem h3, getElem!_pos (PlV.cs xs[j / 2]) (j % 2) h3]

/-- the memory behind a sort -/
theorem sorted_heap2 {w : World} {b : Nat} {us rest : List Value} {t : TypeId} {fz : Nat × Nat} (hb : w.heap[b]? = some (.cells ⟨us ++ rest⟩ t fz)) {xs ys : List PlV} (hu : us = xs.flatMap PlV.cs) (hl : ys.length = xs.length) (n : Nat) (os : Array Obj) :
    (sortWorldK PlV.cs 2 w b 0 n ys.toArray os).heap[b]? = some (.cells ⟨ys.flatMap PlV.cs ++ rest⟩ t fz) ∧ (∀ c, c ≠ b → c < w.heap.size → (sortWorldK PlV.cs 2 w b 0 n ys.toArray os).heap[c]? = w.heap[c]?) ∧ w.heap.size ≤ (sortWorldK PlV.cs 2 w b 0 n ys.toArray os).heap.size := by
  have hlt := (Array.getElem?_eq_some_iff.1 hb).1
  have hh : (sortWorldK PlV.cs 2 w b 0 n ys.toArray os).heap = w.heap.modify b (onCells (putCells id 0 (flatK PlV.cs 2 ys.toArray))) ++ os := rfl
  refine ⟨?_, fun c hc hcl => ?_, ?_⟩
  · rw [hh, Array.getElem?_append_left (by rw [Array.size_modify]; exact hlt), Array.getElem?_modify, if_pos rfl, hb]
    simp only [Option.map_some, onCells, Option.some.injEq, Obj.cells.injEq, and_true]
    have h5 := flat_len2 ys
    have h6 := flat_len2 xs
    apply Array.ext_getElem?
    intro k
    simp only [putCells, Array.getElem?_mapIdx, size_flatK, List.size_toArray, Nat.zero_le, true_and, Nat.zero_add, Nat.sub_zero, id, List.getElem?_toArray]
    by_cases hk : k < ys.length * 2
    · have e2 : (ys.flatMap PlV.cs ++ rest)[k]? = some (flatK PlV.cs 2 ys.toArray)[k]! := by rw [List.getElem?_append_left (by rw [h5]; exact hk), flatK_get2 ys k hk]
      rw [e2]
      have hk2 : k < (us ++ rest).length := by rw [List.length_append, hu, h6, ← hl]; omega
      rw [List.getElem?_eq_getElem hk2]
      simp [hk]
    · have hul : us.length = xs.length * 2 := by rw [hu, h6]
      have hk' : ¬ k < xs.length * 2 := by omega
      have e1 : (us ++ rest)[k]? = rest[k - xs.length * 2]? := by rw [List.getElem?_append_right (by omega), hul]
      have e2 : (ys.flatMap PlV.cs ++ rest)[k]? = rest[k - xs.length * 2]? := by rw [List.getElem?_append_right (by omega), h5, hl]
      rw [e1, e2]
      cases rest[k - xs.length * 2]? with
      | none => rfl
      | some v => simp [hk]
  · rw [hh, Array.getElem?_append_left (by rw [Array.size_modify]; exact hcl), Array.getElem?_modify, if_neg (Ne.symm hc)]
  · rw [hh, Array.size_append, Array.size_modify]; omega

/-- A ROW OF SPANS THAT IS OWNED, SORTED -/
theorem sort2_ok {ρ : Ren} (L : SlLaysF0.n6 P ρ) (aE : ∀ w, (isAgg (ρ.t 24)).run P w = .ok true w) (zE : ∀ w, (Go.sizeOf (ρ.t 24)).run P w = .ok 2 w) {g : Nat} (hG : Enters P g) (hE : Enters P (ρ.f 6))
    (hcmp : ∀ a b a' b' : Int, ACalls P g [.agg [.int .i64 a, .int .i64 b], .agg [.int .i64 a', .int .i64 b']] σn
      (fun v σ' => v = .int .i64 (cfP ⟨a, b⟩ ⟨a', b'⟩) ∧ σ' = σn)) {σ : St} {nm : Nat} {l : List (Int × Int)} (hnm : σ.res nm = some (.obj (l.flatMap cellsP))) (hlen : l.length < 4611686018427387904) :
    ACalls P (ρ.f 6) [.ref nm 0 l.length, .func g [] []] σ (fun v σ' => v = .tup [] ∧ ∃ l' : List (Int × Int), l'.Perm l ∧ l'.Pairwise (fun a b => ¬ (b.1 < a.1 ∨ b.1 = a.1 ∧ b.2 < a.2)) ∧ σ' = σ.set nm (.obj (l'.flatMap cellsP))) := by
  refine ⟨hE, fun κ w vs B F hR hv => ?_⟩
  cases hv with
  | cons v1 _ r1 _ k1 m1 =>
  cases m1 with
  | cons v2 _ r2 _ k2 m2 =>
  cases m2
  obtain ⟨cap, rfl, hcap, hdn⟩ := k1.ref_inv
  obtain ⟨p, q, rfl, hp, hq⟩ := k2.func_inv
  cases hp
  cases hq
  obtain ⟨_, us, rest, tt, fz, b1, b2, b3, b4, b5⟩ := hR.own nm _ hnm
  obtain ⟨xs, hx0⟩ : ∃ xs, xs = l.map PlV.of := ⟨_, rfl⟩
  have hus := vl_pls b3
  rw [← hx0] at hus
  have hxl : xs.length = l.length := by rw [hx0, List.length_map]
  have hnl := hR.lt hnm
  have hul : us.length = xs.length * 2 := by rw [hus, flat_len2]
  have hH : HoldsK PlV.cs 2 w (κ.φ nm) 0 xs.toArray := by
    intro j hj
    have hj' : j < xs.length * 2 := by simpa using hj
    rw [Nat.zero_add, cell_of b1]
    refine ⟨?_, frozen_of b1 b2 (by omega)⟩
    rw [List.getElem?_append_left (by omega), hus, flatK_get2 xs j hj']
    rfl
  have hc := AnyQ.slices_SortFunc L 2 aE zE PlV.cs (fun _ => rfl) (fun x v hv => by simp [PlV.cs] at hv; rcases hv with rfl | rfl <;> rfl) cfP swoP g #[] (κ.φ nm) 0 cap xs.toArray w
    (fun args w => run_callFunc hG args) (cmp_laysP hcmp _ _ _ _) hH hnl (by simpa [hxl] using hlen)
  have hsz : xs.toArray.size = l.length := by simpa using hxl
  rw [hsz] at hc
  refine Calls.mono hc ?_
  rintro e w' ⟨rfl, d', n, os, hp, hs, rfl⟩
  obtain ⟨hp1, _, hp3⟩ := hp
  have hd'l : d'.toList.length = l.length := by simpa using hp1.trans hsz
  have hperm : d'.toList.Perm xs := by
    have e1 : (d'.extract 0 l.length).toList = d'.toList := by
      rw [show l.length = d'.size by simpa using hd'l.symm]; simp
    have e2 : (xs.toArray.extract 0 l.length).toList = xs := by
      rw [← hxl]; simp
    rw [e1, e2] at hp3; exact hp3
  rw [hx0] at hperm
  obtain ⟨l', hl', hd0⟩ := perm_of hperm
  have hd' : d' = d'.toList.toArray := by simp
  obtain ⟨s1, s2, s3⟩ := sorted_heap2 (w := w) (b := κ.φ nm) b1 (xs := xs) (ys := d'.toList) hus (by rw [hd'l, hxl]) n os
  rw [← hd'] at s1 s2 s3
  generalize hw' : sortWorldK PlV.cs 2 w (κ.φ nm) 0 n d' os = w' at s1 s2 s3
  have hos : w'.os = w.os ∧ w'.tape = w.tape ∧ w'.output = w.output ∧ w.drawn ≤ w'.drawn := by
    rw [← hw']; exact ⟨rfl, rfl, rfl, Nat.le_add_right _ _⟩
  have e : Ext κ w κ w' := ⟨fun _ _ h => h, fun _ _ => rfl, fun _ _ => rfl, fun _ _ => rfl, fun _ _ => rfl, fun _ h => h, fun b o hi => cell_same (s2 b (fun hx => b4 o (hx ▸ hi)) (hR.imm b o hi)) o⟩
  have hvl : Vl κ w' (d'.toList.flatMap PlV.cs) (l'.flatMap cellsP) := by rw [hd0]; exact flat_vl l'
  have hlen' : (d'.toList.flatMap PlV.cs).length = us.length := by rw [flat_len2, hul, hd'l, hxl]
  have hR' : R B F κ w' (σ.set nm (.obj (l'.flatMap cellsP))) := by
    refine hR.step e hR.dom (fun b o hi => Nat.lt_of_lt_of_le (hR.imm b o hi) s3) (fun m r hr => ?_)
    by_cases hx : m = nm
    · subst hx
      simp only [St.set_same, Option.some.injEq] at hr
      subst hr
      refine .inr ⟨hdn, ⟨_, rest, tt, fz, s1, by rw [hlen']; exact b2, hvl, b4, by rw [hlen']; exact b5⟩, hR.foot _ _ hnm rfl, fun j s hj hm => ?_⟩
      by_cases hy : j = m
      · exact hy.symm
      · rw [St.set_other _ _ hy] at hj
        exact hR.apart _ _ _ _ hnm hj hm
    · rw [St.set_other _ _ hx] at hr
      exact .inl ⟨hr, s2 _ (fun hy => hx (hR.apart _ _ _ _ hr hnm hy)) (hR.lt hr), fun o ho => ho⟩
  refine ⟨.tuple #[], .tup [], κ, σ.set nm (.obj (l'.flatMap cellsP)), rfl, e, fun n hn => .inl hn, ⟨hR'.dom, hR'.own, hR'.apart, hR'.imm, fun m r hr hrl => ?_⟩, ⟨⟨hos.1, hos.2.2.2⟩, hos.2.1, hos.2.2.1, s3, fun b hb hF => s2 b (fun hx => hF ⟨nm, _, hnm, rfl, hx.symm⟩) hb⟩, Nat.le_refl _, .tup [] [] .nil, rfl, l', hl', ?_, rfl⟩
  · by_cases hx : m = nm
    · subst hx; exact .inl ⟨m, _, hnm, rfl, rfl⟩
    · rw [St.set_other _ _ hx] at hr; exact .inl ⟨m, r, hr, hrl, rfl⟩
  · rw [List.pairwise_iff_getElem]
    intro i j hi hj hij
    have hrl : d'.toList.length = l'.length := by rw [hd0, List.length_map]
    have hi' : i < d'.toList.length := by omega
    have hj' : j < d'.toList.length := by omega
    have := hs i j (Nat.zero_le _) hij (by omega)
    rw [getElem!_pos d' i (by simpa using hi'), getElem!_pos d' j (by simpa using hj'), ltP] at this
    have ri : d'[i]'(by simpa using hi') = PlV.of l'[i] := by
      have : d'.toList[i]'hi' = (l'.map PlV.of)[i]'(by rw [List.length_map]; exact hi) := by simp only [hd0]
      simpa using this
    have rj : d'[j]'(by simpa using hj') = PlV.of l'[j] := by
      have : d'.toList[j]'hj' = (l'.map PlV.of)[j]'(by rw [List.length_map]; exact hj) := by simp only [hd0]
      simpa using this
    rw [ri, rj] at this
    exact of_decide_eq_false this

/-- nothing to sort -/
theorem sort2_nil {ρ : Ren} (L : SlLaysF0.n6 P ρ) (hE : Enters P (ρ.f 6)) {g : Nat} {σ : St} : ACalls P (ρ.f 6) [.sl [] .nil, .func g [] []] σ (fun v σ' => v = .tup [] ∧ σ' = σ) := by
  refine ⟨hE, fun κ w vs B F hR hv => ?_⟩
  cases hv with
  | cons v1 _ r1 _ k1 m1 =>
  cases m1 with
  | cons v2 _ r2 _ k2 m2 =>
  cases m2
  obtain ⟨bs, n, m, rfl⟩ := slice_of k1
  have hz : n = 0 := by
    rcases k1.sl_inv with ⟨b, h1, _⟩ | ⟨b, i, c, k, h1, _⟩
    · injection h1
    · injection h1
  subst hz
  have hc := AnyF.slices_SortFunc_none L bs m v2 w
  refine Calls.mono hc ?_
  rintro e w' ⟨rfl, rfl⟩
  exact ⟨.tuple #[], .tup [], κ, σ, rfl, .refl _ _, fun n hn => .inl hn, ⟨hR.dom, hR.own, hR.apart, hR.imm, fun n r hr hrl => .inl ⟨n, r, hr, hrl, rfl⟩⟩, .refl _ _, Nat.le_refl _, .tup [] [] .nil, rfl, rfl⟩

end Go.VL

namespace Go.VL

open Go.Proofs Go.Shelf

def renP : Ren := ⟨fun | 6 => 120 | 15 => 153 | 14 => 152 | 28 => 177 | 29 => 178 | 20 => 169 | 21 => 170 | 22 => 171 | 23 => 172 | 24 => 173 | 25 => 174 | 26 => 175 | 27 => 176 | 46 => 196 | 47 => 197 | 48 => 198 | 49 => 199 | 50 => 200 | 57 => 208 | n => n, fun | 22 => 123 | 24 => 122 | 25 => 128 | 3 => 3 | 39 => 172 | 0 => 0 | 53 => 166 | 55 => 51 | 4 => 4 | 46 => 232 | 45 => 231 | 50 => 236 | 5 => 5 | 9 => 9 | 66 => 250 | 70 => 254 | 76 => 260 | 77 => 261 | n => n, fun n => n⟩

theorem laysP : SlLaysF0.n6 Try.prog renP where
  mixed := by kernel_rfl
  f6 := ⟨ "slices.SortFunc[[]tankard/plan.place,tankard/plan.place]", by decide, Try.func120.trans (congrArg some (by kernel_rfl))⟩
  f14 := ⟨ "slices.pdqsortCmpFunc[tankard/plan.place]", by decide, Try.func152.trans (congrArg some (by kernel_rfl))⟩
  f15 := Try.func153.trans (congrArg some (by kernel_rfl))
  f20 := ⟨ "slices.insertionSortCmpFunc[tankard/plan.place]", by decide, Try.func169.trans (congrArg some (by kernel_rfl))⟩
  f21 := ⟨ "slices.heapSortCmpFunc[tankard/plan.place]", by decide, Try.func170.trans (congrArg some (by kernel_rfl))⟩
  f22 := ⟨ "slices.breakPatternsCmpFunc[tankard/plan.place]", by decide, Try.func171.trans (congrArg some (by kernel_rfl))⟩
  f23 := ⟨ "slices.choosePivotCmpFunc[tankard/plan.place]", by decide, Try.func172.trans (congrArg some (by kernel_rfl))⟩
  f24 := ⟨ "slices.reverseRangeCmpFunc[tankard/plan.place]", by decide, Try.func173.trans (congrArg some (by kernel_rfl))⟩
  f25 := ⟨ "slices.partialInsertionSortCmpFunc[tankard/plan.place]", by decide, Try.func174.trans (congrArg some (by kernel_rfl))⟩
  f26 := ⟨ "slices.partitionEqualCmpFunc[tankard/plan.place]", by decide, Try.func175.trans (congrArg some (by kernel_rfl))⟩
  f27 := ⟨ "slices.partitionCmpFunc[tankard/plan.place]", by decide, Try.func176.trans (congrArg some (by kernel_rfl))⟩
  f28 := Try.func177.trans (congrArg some (by kernel_rfl))
  f29 := Try.func178.trans (congrArg some (by kernel_rfl))
  f46 := ⟨ "slices.siftDownCmpFunc[tankard/plan.place]", by decide, Try.func196.trans (congrArg some (by kernel_rfl))⟩
  f47 := Try.func197.trans (congrArg some (by kernel_rfl))
  f48 := Try.func198.trans (congrArg some (by kernel_rfl))
  f49 := ⟨ "slices.medianAdjacentCmpFunc[tankard/plan.place]", by decide, Try.func199.trans (congrArg some (by kernel_rfl))⟩
  f50 := ⟨ "slices.medianCmpFunc[tankard/plan.place]", by decide, Try.func200.trans (congrArg some (by kernel_rfl))⟩
  f57 := ⟨ "slices.order2CmpFunc[tankard/plan.place]", by decide, Try.func208.trans (congrArg some (by kernel_rfl))⟩
  t0 := Try.underlying0
  a0 := Try.isAgg0
  z0 := Try.sizeOf0
  v0 := Try.zeroValue0
  t3 := Try.underlying3
  a3 := Try.isAgg3
  z3 := Try.sizeOf3
  v3 := Try.zeroValue3
  t4 := Try.underlying4
  a4 := Try.isAgg4
  z4 := Try.sizeOf4
  v4 := Try.zeroValue4
  t5 := Try.underlying5
  a5 := Try.isAgg5
  z5 := Try.sizeOf5
  v5 := Try.zeroValue5
  t9 := Try.underlying9
  a9 := Try.isAgg9
  z9 := Try.sizeOf9
  v9 := Try.zeroValue9
  t22 := Try.underlying123
  a22 := Try.isAgg123
  z22 := Try.sizeOf123
  v22 := Try.zeroValue123
  t25 := Try.underlying128
  a25 := Try.isAgg128
  z25 := Try.sizeOf128
  v25 := Try.zeroValue128
  t39 := Try.underlying172
  a39 := Try.isAgg172
  z39 := Try.sizeOf172
  v39 := Try.zeroValue172
  t45 := Try.underlying231
  a45 := Try.isAgg231
  z45 := Try.sizeOf231
  v45 := Try.zeroValue231
  t46 := Try.underlying232
  a46 := Try.isAgg232
  z46 := Try.sizeOf232
  v46 := Try.zeroValue232
  t50 := Try.underlying236
  a50 := Try.isAgg236
  z50 := Try.sizeOf236
  v50 := Try.zeroValue236
  t53 := Try.underlying166
  a53 := Try.isAgg166
  z53 := Try.sizeOf166
  v53 := Try.zeroValue166
  t55 := Try.underlying51
  a55 := Try.isAgg51
  z55 := Try.sizeOf51
  v55 := Try.zeroValue51
  t66 := Try.underlying250
  a66 := Try.isAgg250
  z66 := Try.sizeOf250
  v66 := Try.zeroValue250
  t70 := Try.underlying254
  a70 := Try.isAgg254
  z70 := Try.sizeOf254
  v70 := Try.zeroValue254
  t76 := Try.underlying260
  a76 := Try.isAgg260
  z76 := Try.sizeOf260
  v76 := Try.zeroValue260
  t77 := Try.underlying261
  a77 := Try.isAgg261
  z77 := Try.sizeOf261
  v77 := Try.zeroValue261

abbrev n_sortpl : Nat := 120

abbrev n_apppl : Nat := 151

abbrev n_keyspl : Nat := 121

theorem sortP_agg (w : World) : (isAgg (renP.t 24)).run Try.prog w = .ok true w := Try.isAgg122 w

theorem sortP_size (w : World) : (Go.sizeOf (renP.t 24)).run Try.prog w = .ok 2 w := Try.sizeOf122 w

theorem elemP : ElemK Try.prog 122 123 2 16 [.int .i64 0, .int .i64 0] where
  mixed := by kernel_rfl
  t0 := Try.underlying0
  uS := Try.underlying123
  aS := Try.isAgg123
  zS := Try.sizeOf123
  vS := Try.zeroValue123
  aE := Try.isAgg122
  zE := Try.sizeOf122
  vE := Try.zeroValue122
  iE := by kernel_rfl
  zl := rfl

theorem mapsP : MapsK Try.prog 120 122 40 4 where
  uM := Try.underlying120
  aM := Try.isAgg120
  zM := Try.sizeOf120
  vM := Try.zeroValue120
  uB := Try.underlying4
  aB := Try.isAgg4
  zB := Try.sizeOf4
  vB := Try.zeroValue4

theorem appP_body : Try.f151.body = some (apCode 122 123 126) := by kernel_rfl

theorem appP_nt : Try.f151.ntmps = 13 := by kernel_rfl

theorem appP_res : Try.f151.results = #[.tmp 4] := by kernel_rfl

theorem appP_name : (Try.f151.name == "runtime.NumGoroutine") = false := by kernel_rfl

theorem appP_fn : Try.prog.funcs[n_apppl]? = some Try.f151 := Try.func151

theorem ka_body : Try.f121.body = some (kaCode 122 120 178 4) := by kernel_rfl

theorem ka_nt : Try.f121.ntmps = 14 := by kernel_rfl

theorem ka_res : Try.f121.results = #[] := by kernel_rfl

theorem ka_name : (Try.f121.name == "runtime.NumGoroutine") = false := by kernel_rfl

theorem ka_fn : Try.prog.funcs[n_keyspl]? = some Try.f121 := Try.func121

theorem sortP_name : (Try.f120.name == "runtime.NumGoroutine") = false := by kernel_rfl

theorem sortP_body : Try.f120.body.isNone = false := by kernel_rfl

theorem sortP_fn : Try.prog.funcs[n_sortpl]? = some Try.f120 := Try.func120

end Go.VL

namespace Go.VL

open Go.Proofs

abbrev n_planGroups : Nat := 5

def c_planGroups : C := (.seq (.reg [⟨(some 6), (.mv (.c (.bool false))), none⟩]) (.seq (.reg [⟨(some 11), (.call 20 []), none⟩, ⟨(some 7), (.mv (.t 11)), none⟩]) (.seq (.seq (.reg [⟨(some 12), (.mv (.t 0)), none⟩, ⟨(some 13), (.len (.t 12)), none⟩, ⟨(some 14), (.bin .gtr .i64 (.t 13) (.c (.int .i64 100))), none⟩]) (.cond (.t 14) (.seq (.reg [⟨(some 15), (.mv (.t 7)), none⟩, ⟨(some 6), (.mv (.t 15)), none⟩]) .ret) .skip)) (.seq (.reg [⟨(some 17), (.mv (.t 0)), none⟩, ⟨(some 18), (.mv (.t 1)), none⟩, ⟨(some 19), (.mv (.t 2)), none⟩, ⟨(some 20), (.call 21 [(.t 17), (.t 18), (.t 19)]), none⟩, ⟨(some 16), (.mv (.t 20)), none⟩, ⟨(some 21), (.ext (.t 16) 0), none⟩, ⟨(some 22), (.ext (.t 16) 1), none⟩, ⟨(some 8), (.mv (.t 21)), none⟩, ⟨(some 9), (.mv (.t 22)), none⟩]) (.seq (.reg [⟨(some 23), (.mv (.t 0)), none⟩, ⟨(some 24), (.call 22 [(.t 23)]), none⟩, ⟨(some 10), (.mv (.t 24)), none⟩]) (.seq (.seq (.reg [⟨(some 25), (.mv (.t 1)), none⟩, ⟨(some 26), (.bin .lss .i64 (.t 25) (.c (.int .i64 1))), none⟩, ⟨(some 27), (.mv (.t 26)), none⟩, ⟨(some 28), (.mv (.t 1)), (some (27, false))⟩, ⟨(some 29), (.bin .gtr .i64 (.t 28) (.c (.int .i64 1099511627776))), (some (27, false))⟩, ⟨(some 30), (.pick (.t 27) (.c (.bool true)) (.t 29)), none⟩, ⟨(some 31), (.mv (.t 30)), none⟩, ⟨(some 32), (.mv (.t 2)), (some (31, false))⟩, ⟨(some 33), (.bin .lss .i64 (.t 32) (.c (.int .i64 2))), (some (31, false))⟩, ⟨(some 34), (.pick (.t 31) (.c (.bool true)) (.t 33)), none⟩, ⟨(some 35), (.mv (.t 34)), none⟩, ⟨(some 36), (.mv (.t 2)), (some (35, false))⟩, ⟨(some 37), (.bin .gtr .i64 (.t 36) (.c (.int .i64 8))), (some (35, false))⟩, ⟨(some 38), (.pick (.t 35) (.c (.bool true)) (.t 37)), none⟩, ⟨(some 39), (.mv (.t 38)), none⟩, ⟨(some 40), (.mv (.t 10)), (some (39, false))⟩, ⟨(some 41), (.not (.t 40)), (some (39, false))⟩, ⟨(some 42), (.pick (.t 39) (.c (.bool true)) (.t 41)), none⟩]) (.cond (.t 42) (.seq (.reg [⟨(some 43), (.mv (.t 7)), none⟩, ⟨(some 44), (.mv (.t 43)), none⟩, ⟨(some 45), (.mv (.t 9)), (some (44, true))⟩, ⟨(some 46), (.mkI 31 (.c (.int .i64 1))), (some (44, true))⟩, ⟨(some 47), (.eqI false false [(31, .i64)] (.t 45) (.t 46)), (some (44, true))⟩, ⟨(some 48), (.pick (.t 44) (.t 47) (.c (.bool false))), none⟩, ⟨(some 49), (.mv (.t 48)), none⟩, ⟨(some 50), (.mv (.t 8)), (some (49, true))⟩, ⟨(some 51), (.len (.t 50)), (some (49, true))⟩, ⟨(some 52), (.bin .eql .i64 (.t 51) (.c (.int .i64 0))), (some (49, true))⟩, ⟨(some 53), (.pick (.t 49) (.t 52) (.c (.bool false))), none⟩, ⟨(some 6), (.mv (.t 53)), none⟩]) .ret) .skip)) (.seq (.reg [⟨(some 54), (.mv (.t 7)), none⟩, ⟨(some 55), (.mv (.t 54)), none⟩, ⟨(some 56), (.mv (.t 9)), (some (55, true))⟩, ⟨(some 57), (.eqI false true [(31, .i64)] (.t 56) (.c .nili)), (some (55, true))⟩, ⟨(some 58), (.pick (.t 55) (.t 57) (.c (.bool false))), none⟩, ⟨(some 59), (.mv (.t 58)), none⟩, ⟨(some 60), (.mv (.t 8)), (some (59, true))⟩, ⟨(some 61), (.mv (.t 0)), (some (59, true))⟩, ⟨(some 62), (.mv (.t 1)), (some (59, true))⟩, ⟨(some 63), (.mv (.t 2)), (some (59, true))⟩, ⟨(some 64), (.call 24 [(.t 61), (.t 62), (.t 63)]), (some (59, true))⟩, ⟨(some 65), (.call 23 [(.t 60), (.t 64)]), (some (59, true))⟩, ⟨(some 66), (.pick (.t 59) (.t 65) (.c (.bool false))), none⟩, ⟨(some 6), (.mv (.t 66)), none⟩]) .ret)))))))

set_option maxRecDepth 100000 in
theorem k_planGroups : compileC Try.prog ann (Try.f5.body.getD .skip) = some c_planGroups := by kernel_rfl

theorem s_planGroups {args : List AV} {σ : St} {K : AV → St → Prop} (h : WF σ → T Try.prog ann c_planGroups (Fin σ [(.t 6)] K) (args ++ List.replicate (67 - args.length) (.tup [])) σ) : ACalls Try.prog n_planGroups args σ K :=
  calls_ok Try.func5 (by kernel_rfl) (by kernel_rfl) k_planGroups (by kernel_rfl) (by kernel_rfl) h

abbrev n_up19 : Nat := 20

def c_up19 : C := (.seq (.reg [⟨(some 0), (.mv (.c (.bool false))), none⟩]) (.seq (.reg [⟨(some 6), (.build [(.int .u64 0), (.int .i64 0), (.int .i64 0), (.int .i64 0), (.int .i64 0), (.int .i64 0)] [(0, (1, (.c (.int .u64 1)))), (3, (1, (.c (.int .i64 3))))]), none⟩, ⟨(some 7), (.build [(.int .u64 0), (.int .i64 0), (.int .i64 0), (.int .i64 0), (.int .i64 0), (.int .i64 0)] [(0, (1, (.c (.int .u64 2)))), (3, (1, (.c (.int .i64 4))))]), none⟩, ⟨(some 8), (.bslice 6 .val [(.t 6), (.t 7)]), none⟩, ⟨(some 9), (.call 21 [(.t 8), (.c (.int .i64 10)), (.c (.int .i64 2))]), none⟩, ⟨(some 5), (.mv (.t 9)), none⟩, ⟨(some 10), (.ext (.t 5) 0), none⟩, ⟨(some 11), (.ext (.t 5) 1), none⟩, ⟨(some 1), (.mv (.t 10)), none⟩, ⟨(some 2), (.mv (.t 11)), none⟩]) (.seq (.reg [⟨(some 13), (.call 21 [(.c (.sl [] .nil)), (.c (.int .i64 0)), (.c (.int .i64 2))]), none⟩, ⟨(some 12), (.mv (.t 13)), none⟩, ⟨(some 14), (.ext (.t 12) 0), none⟩, ⟨(some 15), (.ext (.t 12) 1), none⟩, ⟨(some 3), (.mv (.t 14)), none⟩, ⟨(some 4), (.mv (.t 15)), none⟩]) (.seq (.reg [⟨(some 16), (.mv (.t 2)), none⟩, ⟨(some 17), (.eqI false true [(31, .i64)] (.t 16) (.c .nili)), none⟩, ⟨(some 18), (.mv (.t 17)), none⟩, ⟨(some 19), (.mv (.t 1)), (some (18, true))⟩, ⟨(some 20), (.len (.t 19)), (some (18, true))⟩, ⟨(some 21), (.bin .eql .i64 (.t 20) (.c (.int .i64 2))), (some (18, true))⟩, ⟨(some 22), (.pick (.t 18) (.t 21) (.c (.bool false))), none⟩, ⟨(some 23), (.mv (.t 22)), none⟩, ⟨(some 24), (.mv (.t 4)), (some (23, true))⟩, ⟨(some 25), (.mkI 31 (.c (.int .i64 1))), (some (23, true))⟩, ⟨(some 26), (.eqI false false [(31, .i64)] (.t 24) (.t 25)), (some (23, true))⟩, ⟨(some 27), (.pick (.t 23) (.t 26) (.c (.bool false))), none⟩, ⟨(some 0), (.mv (.t 27)), none⟩]) .ret))))

set_option maxRecDepth 100000 in
theorem k_up19 : compileC Try.prog ann (Try.f20.body.getD .skip) = some c_up19 := by kernel_rfl

theorem s_up19 {args : List AV} {σ : St} {K : AV → St → Prop} (h : WF σ → T Try.prog ann c_up19 (Fin σ [(.t 0)] K) (args ++ List.replicate (28 - args.length) (.tup [])) σ) : ACalls Try.prog n_up19 args σ K :=
  calls_ok Try.func20 (by kernel_rfl) (by kernel_rfl) k_up19 (by kernel_rfl) (by kernel_rfl) h

abbrev ann_plgroup : Ann := { errs := [(31, .i64)], chk := [(10, 1), (10, 3)] }

abbrev n_plgroup : Nat := 21

def c_plgroup : C := (.seq (.reg [⟨(some 6), (.mv (.c (.sl [] .nil))), none⟩, ⟨(some 7), (.mv (.c .nili)), none⟩]) (.seq (.seq (.reg [⟨(some 15), (.mv (.t 1)), none⟩, ⟨(some 16), (.bin .lss .i64 (.t 15) (.c (.int .i64 1))), none⟩, ⟨(some 17), (.mv (.t 16)), none⟩, ⟨(some 18), (.mv (.t 1)), (some (17, false))⟩, ⟨(some 19), (.bin .gtr .i64 (.t 18) (.c (.int .i64 1099511627776))), (some (17, false))⟩, ⟨(some 20), (.pick (.t 17) (.c (.bool true)) (.t 19)), none⟩, ⟨(some 21), (.mv (.t 20)), none⟩, ⟨(some 22), (.mv (.t 2)), (some (21, false))⟩, ⟨(some 23), (.bin .lss .i64 (.t 22) (.c (.int .i64 2))), (some (21, false))⟩, ⟨(some 24), (.pick (.t 21) (.c (.bool true)) (.t 23)), none⟩, ⟨(some 25), (.mv (.t 24)), none⟩, ⟨(some 26), (.mv (.t 2)), (some (25, false))⟩, ⟨(some 27), (.bin .gtr .i64 (.t 26) (.c (.int .i64 8))), (some (25, false))⟩, ⟨(some 28), (.pick (.t 25) (.c (.bool true)) (.t 27)), none⟩]) (.cond (.t 28) (.seq (.reg [⟨(some 29), (.mkI 31 (.c (.int .i64 1))), none⟩, ⟨(some 6), (.mv (.c (.sl [] .nil))), none⟩, ⟨(some 7), (.mv (.t 29)), none⟩]) .ret) .skip)) (.seq (.reg [⟨(some 30), .mkMap, none⟩, ⟨(some 8), (.mv (.t 30)), none⟩]) (.seq (.seq (.reg [⟨(some 31), (.mv (.t 0)), none⟩, ⟨(some 32), (.len (.t 31)), none⟩, ⟨(some 33), (.mv (.c (.int .i64 0))), none⟩]) (.block 0 (.loop (.seq (.reg [⟨(some 34), (.bin .lss .i64 (.t 33) (.t 32)), none⟩]) (.seq (.cond (.t 34) .skip (.exit 0)) (.seq (.block 1 (.seq (.reg [⟨(some 35), (.mv (.t 33)), none⟩, ⟨(some 36), (.iaddr 6 (.t 31) (.t 33)), none⟩, ⟨(some 37), (.load (some 6) (.t 36)), none⟩, ⟨(some 10), (.alloc [(.int .u64 0), (.int .i64 0), (.int .i64 0), (.int .i64 0), (.int .i64 0), (.int .i64 0)]), none⟩, ⟨(some 9), (.mv (.t 35)), none⟩, ⟨none, (.store 6 (.t 10) (.t 37)), none⟩]) (.seq (.seq (.reg [⟨(some 38), (.mv (.t 9)), none⟩, ⟨(some 39), (.bin .gtr .i64 (.t 38) (.c (.int .i64 0))), none⟩, ⟨(some 40), (.mv (.t 39)), none⟩, ⟨(some 41), (.mv (.t 0)), (some (40, true))⟩, ⟨(some 42), (.mv (.t 9)), (some (40, true))⟩, ⟨(some 43), (.bin .sub .i64 (.t 42) (.c (.int .i64 1))), (some (40, true))⟩, ⟨(some 44), (.iaddr 6 (.t 41) (.t 43)), (some (40, true))⟩, ⟨(some 45), (.faddr 0 (.t 44)), (some (40, true))⟩, ⟨(some 46), (.load none (.t 45)), (some (40, true))⟩, ⟨(some 47), (.faddr 0 (.t 10)), (some (40, true))⟩, ⟨(some 48), (.load none (.t 47)), (some (40, true))⟩, ⟨(some 49), (.bin .geq .u64 (.t 46) (.t 48)), (some (40, true))⟩, ⟨(some 50), (.pick (.t 40) (.t 49) (.c (.bool false))), none⟩]) (.cond (.t 50) (.seq (.reg [⟨(some 51), (.mkI 31 (.c (.int .i64 1))), none⟩, ⟨(some 6), (.mv (.c (.sl [] .nil))), none⟩, ⟨(some 7), (.mv (.t 51)), none⟩]) .ret) .skip)) (.seq (.reg [⟨(some 52), (.faddr 1 (.t 10)), none⟩, ⟨(some 53), (.load none (.t 52)), none⟩, ⟨(some 54), (.bin .lss .i64 (.t 53) (.c (.int .i64 10))), none⟩]) (.cond (.t 54) (.seq (.reg [⟨(some 55), (.faddr 1 (.t 10)), none⟩, ⟨(some 56), (.qload 1 none (.t 55)), none⟩, ⟨(some 57), (.faddr 3 (.t 10)), none⟩, ⟨(some 58), (.qload 3 none (.t 57)), none⟩, ⟨(some 59), (.mv (.t 1)), none⟩, ⟨(some 60), (.bin .quo .i64 (.t 58) (.t 59)), none⟩, ⟨(some 61), (.build [(.int .i64 0), (.int .i64 0)] [(0, (1, (.t 56))), (1, (1, (.t 60)))]), none⟩, ⟨(some 11), (.alloc [(.int .i64 0), (.int .i64 0)]), none⟩, ⟨none, (.store 2 (.t 11) (.t 61)), none⟩]) (.reg [⟨(some 62), (.mv (.t 8)), none⟩, ⟨(some 63), (.load (some 2) (.t 11)), none⟩, ⟨(some 65), (.load (some 6) (.t 10)), none⟩, ⟨(some 66), (.bslice 6 .val [(.t 65)]), none⟩, ⟨(some 67), (.mapEnt 4 (.sl [] .nil) (.t 62) (.t 63)), none⟩, ⟨(some 64), (.ext (.t 67) 0), none⟩, ⟨(some 68), (.app 6 48 .tip (.t 64) (.t 66)), none⟩, ⟨(some 69), (.ext (.t 67) 1), none⟩, ⟨none, (.entSt (.t 62) (.t 69) (.t 68)), none⟩])) .skip))))) (.reg [⟨(some 70), (.bin .add .i64 (.t 33) (.c (.int .i64 1))), none⟩, ⟨(some 33), (.mv (.t 70)), none⟩]))))))) (.seq (.seq (.reg [⟨(some 71), (.mv (.t 8)), none⟩, ⟨(some 72), (.call 75 [(.t 71)]), none⟩, ⟨(some 73), (.call 74 [(.t 72), (.c (.func 76 [] []))]), none⟩, ⟨(some 74), (.len (.t 73)), none⟩, ⟨(some 75), (.mv (.c (.int .i64 0))), none⟩]) (.block 2 (.loop (.seq (.reg [⟨(some 76), (.bin .lss .i64 (.t 75) (.t 74)), none⟩]) (.seq (.cond (.t 76) .skip (.exit 2)) (.seq (.block 3 (.seq (.reg [⟨(some 77), (.iaddr 2 (.t 73) (.t 75)), none⟩, ⟨(some 78), (.load (some 2) (.t 77)), none⟩, ⟨(some 13), (.alloc [(.int .i64 0), (.int .i64 0)]), none⟩, ⟨none, (.store 2 (.t 13) (.t 78)), none⟩]) (.seq (.reg [⟨(some 79), (.mv (.t 8)), none⟩, ⟨(some 80), (.load (some 2) (.t 13)), none⟩, ⟨(some 81), (.look 4 (.sl [] .nil) false (.t 79) (.t 80)), none⟩, ⟨(some 14), (.mv (.t 81)), none⟩]) (.seq (.reg [⟨(some 82), (.mv (.t 14)), none⟩, ⟨(some 83), (.len (.t 82)), none⟩, ⟨(some 84), (.bin .geq .i64 (.t 83) (.c (.int .i64 2))), none⟩]) (.cond (.t 84) (.seq (.reg [⟨(some 85), (.mv (.t 14)), none⟩, ⟨(some 86), (.mv (.t 14)), none⟩, ⟨(some 87), (.len (.t 86)), none⟩, ⟨(some 88), (.mv (.t 2)), none⟩, ⟨(some 89), (.mn [(.t 87), (.t 88)]), none⟩, ⟨(some 90), (.slice 6 (.t 85) none (some (.t 89))), none⟩, ⟨(some 6), (.mv (.t 90)), none⟩, ⟨(some 7), (.mv (.c .nili)), none⟩]) .ret) .skip))))) (.reg [⟨(some 91), (.bin .add .i64 (.t 75) (.c (.int .i64 1))), none⟩, ⟨(some 75), (.mv (.t 91)), none⟩]))))))) (.seq (.reg [⟨(some 6), (.mv (.c (.sl [] .nil))), none⟩, ⟨(some 7), (.mv (.c .nili)), none⟩]) .ret))))))

set_option maxRecDepth 100000 in
theorem k_plgroup : compileC Try.prog ann_plgroup (Try.f21.body.getD .skip) = some c_plgroup := by kernel_rfl

theorem s_plgroup {args : List AV} {σ : St} {K : AV → St → Prop} (h : WF σ → T Try.prog ann_plgroup c_plgroup (Fin σ [(.t 6), (.t 7)] K) (args ++ List.replicate (92 - args.length) (.tup [])) σ) : ACalls Try.prog n_plgroup args σ K :=
  calls_ok Try.func21 (by kernel_rfl) (by kernel_rfl) k_plgroup (by kernel_rfl) (by kernel_rfl) h

abbrev n_ris19 : Nat := 22

def c_ris19 : C := (.seq (.reg [⟨(some 2), (.mv (.c (.bool false))), none⟩]) (.seq (.seq (.reg [⟨(some 3), (.mv (.c (.int .i64 1))), none⟩]) (.block 0 (.loop (.seq (.seq (.reg [⟨(some 4), (.mv (.t 3)), none⟩, ⟨(some 5), (.mv (.t 0)), none⟩, ⟨(some 6), (.len (.t 5)), none⟩, ⟨(some 7), (.bin .lss .i64 (.t 4) (.t 6)), none⟩]) (.cond (.t 7) .skip (.exit 0))) (.seq (.block 1 (.seq (.reg [⟨(some 10), (.mv (.t 0)), none⟩, ⟨(some 11), (.mv (.t 3)), none⟩, ⟨(some 12), (.bin .sub .i64 (.t 11) (.c (.int .i64 1))), none⟩, ⟨(some 13), (.iaddr 6 (.t 10) (.t 12)), none⟩, ⟨(some 14), (.faddr 0 (.t 13)), none⟩, ⟨(some 15), (.load none (.t 14)), none⟩, ⟨(some 16), (.mv (.t 0)), none⟩, ⟨(some 17), (.mv (.t 3)), none⟩, ⟨(some 18), (.iaddr 6 (.t 16) (.t 17)), none⟩, ⟨(some 19), (.faddr 0 (.t 18)), none⟩, ⟨(some 20), (.load none (.t 19)), none⟩, ⟨(some 21), (.bin .geq .u64 (.t 15) (.t 20)), none⟩]) (.cond (.t 21) (.seq (.reg [⟨(some 2), (.mv (.c (.bool false))), none⟩]) .ret) .skip))) (.reg [⟨(some 8), (.mv (.t 3)), none⟩, ⟨(some 9), (.bin .add .i64 (.t 8) (.c (.int .i64 1))), none⟩, ⟨(some 3), (.mv (.t 9)), none⟩])))))) (.seq (.reg [⟨(some 2), (.mv (.c (.bool true))), none⟩]) .ret)))

set_option maxRecDepth 100000 in
theorem k_ris19 : compileC Try.prog ann (Try.f22.body.getD .skip) = some c_ris19 := by kernel_rfl

theorem s_ris19 {args : List AV} {σ : St} {K : AV → St → Prop} (h : WF σ → T Try.prog ann c_ris19 (Fin σ [(.t 2)] K) (args ++ List.replicate (22 - args.length) (.tup [])) σ) : ACalls Try.prog n_ris19 args σ K :=
  calls_ok Try.func22 (by kernel_rfl) (by kernel_rfl) k_ris19 (by kernel_rfl) (by kernel_rfl) h

abbrev n_metas14 : Nat := 23

def c_metas14 : C := (.seq (.reg [⟨(some 4), (.mv (.c (.bool false))), none⟩]) (.seq (.seq (.reg [⟨(some 6), (.mv (.t 0)), none⟩, ⟨(some 7), (.len (.t 6)), none⟩, ⟨(some 8), (.mv (.t 1)), none⟩, ⟨(some 9), (.len (.t 8)), none⟩, ⟨(some 10), (.bin .neq .i64 (.t 7) (.t 9)), none⟩]) (.cond (.t 10) (.seq (.reg [⟨(some 4), (.mv (.c (.bool false))), none⟩]) .ret) .skip)) (.seq (.seq (.reg [⟨(some 5), (.mv (.c (.int .i64 0))), none⟩]) (.block 0 (.loop (.seq (.seq (.reg [⟨(some 11), (.mv (.t 5)), none⟩, ⟨(some 12), (.mv (.t 0)), none⟩, ⟨(some 13), (.len (.t 12)), none⟩, ⟨(some 14), (.bin .lss .i64 (.t 11) (.t 13)), none⟩]) (.cond (.t 14) .skip (.exit 0))) (.seq (.block 1 (.seq (.reg [⟨(some 17), (.mv (.t 0)), none⟩, ⟨(some 18), (.mv (.t 5)), none⟩, ⟨(some 19), (.iaddr 6 (.t 17) (.t 18)), none⟩, ⟨(some 20), (.load (some 6) (.t 19)), none⟩, ⟨(some 21), (.mv (.t 1)), none⟩, ⟨(some 22), (.mv (.t 5)), none⟩, ⟨(some 23), (.iaddr 6 (.t 21) (.t 22)), none⟩, ⟨(some 24), (.load (some 6) (.t 23)), none⟩, ⟨(some 25), (.eqA true 6 (.t 20) (.t 24)), none⟩]) (.cond (.t 25) (.seq (.reg [⟨(some 4), (.mv (.c (.bool false))), none⟩]) .ret) .skip))) (.reg [⟨(some 15), (.mv (.t 5)), none⟩, ⟨(some 16), (.bin .add .i64 (.t 15) (.c (.int .i64 1))), none⟩, ⟨(some 5), (.mv (.t 16)), none⟩])))))) (.seq (.reg [⟨(some 4), (.mv (.c (.bool true))), none⟩]) .ret))))

set_option maxRecDepth 100000 in
theorem k_metas14 : compileC Try.prog ann (Try.f23.body.getD .skip) = some c_metas14 := by kernel_rfl

theorem s_metas14 {args : List AV} {σ : St} {K : AV → St → Prop} (h : WF σ → T Try.prog ann c_metas14 (Fin σ [(.t 4)] K) (args ++ List.replicate (26 - args.length) (.tup [])) σ) : ACalls Try.prog n_metas14 args σ K :=
  calls_ok Try.func23 (by kernel_rfl) (by kernel_rfl) k_metas14 (by kernel_rfl) (by kernel_rfl) h

abbrev n_g19 : Nat := 24

def c_g19 : C := (.seq (.reg [⟨(some 6), (.mv (.c (.sl [] .nil))), none⟩]) (.seq (.reg [⟨(some 7), (.mv (.c (.int .i64 (-1)))), none⟩]) (.seq (.seq (.reg [⟨(some 8), (.mv (.c (.int .i64 0))), none⟩]) (.block 0 (.loop (.seq (.seq (.reg [⟨(some 13), (.mv (.t 8)), none⟩, ⟨(some 14), (.mv (.t 0)), none⟩, ⟨(some 15), (.len (.t 14)), none⟩, ⟨(some 16), (.bin .lss .i64 (.t 13) (.t 15)), none⟩]) (.cond (.t 16) .skip (.exit 0))) (.seq (.block 1 (.seq (.reg [⟨(some 9), (.mv (.c (.int .i64 0))), none⟩]) (.seq (.seq (.reg [⟨(some 10), (.mv (.c (.int .i64 0))), none⟩]) (.block 2 (.loop (.seq (.seq (.reg [⟨(some 19), (.mv (.t 10)), none⟩, ⟨(some 20), (.mv (.t 0)), none⟩, ⟨(some 21), (.len (.t 20)), none⟩, ⟨(some 22), (.bin .lss .i64 (.t 19) (.t 21)), none⟩]) (.cond (.t 22) .skip (.exit 2))) (.seq (.block 3 (.seq (.reg [⟨(some 25), (.mv (.t 0)), none⟩, ⟨(some 26), (.mv (.t 10)), none⟩, ⟨(some 27), (.iaddr 6 (.t 25) (.t 26)), none⟩, ⟨(some 28), (.faddr 1 (.t 27)), none⟩, ⟨(some 29), (.load none (.t 28)), none⟩, ⟨(some 30), (.mv (.t 0)), none⟩, ⟨(some 31), (.mv (.t 8)), none⟩, ⟨(some 32), (.iaddr 6 (.t 30) (.t 31)), none⟩, ⟨(some 33), (.faddr 1 (.t 32)), none⟩, ⟨(some 34), (.load none (.t 33)), none⟩, ⟨(some 35), (.bin .eql .i64 (.t 29) (.t 34)), none⟩, ⟨(some 36), (.mv (.t 35)), none⟩, ⟨(some 37), (.mv (.t 0)), (some (36, true))⟩, ⟨(some 38), (.mv (.t 10)), (some (36, true))⟩, ⟨(some 39), (.iaddr 6 (.t 37) (.t 38)), (some (36, true))⟩, ⟨(some 40), (.faddr 3 (.t 39)), (some (36, true))⟩, ⟨(some 41), (.load none (.t 40)), (some (36, true))⟩, ⟨(some 42), (.mv (.t 1)), (some (36, true))⟩, ⟨(some 43), (.bin .quo .i64 (.t 41) (.t 42)), (some (36, true))⟩, ⟨(some 44), (.mv (.t 0)), (some (36, true))⟩, ⟨(some 45), (.mv (.t 8)), (some (36, true))⟩, ⟨(some 46), (.iaddr 6 (.t 44) (.t 45)), (some (36, true))⟩, ⟨(some 47), (.faddr 3 (.t 46)), (some (36, true))⟩, ⟨(some 48), (.load none (.t 47)), (some (36, true))⟩, ⟨(some 49), (.mv (.t 1)), (some (36, true))⟩, ⟨(some 50), (.bin .quo .i64 (.t 48) (.t 49)), (some (36, true))⟩, ⟨(some 51), (.bin .eql .i64 (.t 43) (.t 50)), (some (36, true))⟩, ⟨(some 52), (.pick (.t 36) (.t 51) (.c (.bool false))), none⟩]) (.cond (.t 52) (.reg [⟨(some 53), (.mv (.t 9)), none⟩, ⟨(some 54), (.bin .add .i64 (.t 53) (.c (.int .i64 1))), none⟩, ⟨(some 9), (.mv (.t 54)), none⟩]) .skip))) (.reg [⟨(some 23), (.mv (.t 10)), none⟩, ⟨(some 24), (.bin .add .i64 (.t 23) (.c (.int .i64 1))), none⟩, ⟨(some 10), (.mv (.t 24)), none⟩])))))) (.seq (.seq (.reg [⟨(some 55), (.mv (.t 9)), none⟩, ⟨(some 56), (.bin .lss .i64 (.t 55) (.c (.int .i64 2))), none⟩, ⟨(some 57), (.mv (.t 56)), none⟩, ⟨(some 58), (.mv (.t 0)), (some (57, false))⟩, ⟨(some 59), (.mv (.t 8)), (some (57, false))⟩, ⟨(some 60), (.iaddr 6 (.t 58) (.t 59)), (some (57, false))⟩, ⟨(some 61), (.faddr 1 (.t 60)), (some (57, false))⟩, ⟨(some 62), (.load none (.t 61)), (some (57, false))⟩, ⟨(some 63), (.bin .geq .i64 (.t 62) (.c (.int .i64 10))), (some (57, false))⟩, ⟨(some 64), (.pick (.t 57) (.c (.bool true)) (.t 63)), none⟩]) (.cond (.t 64) (.exit 1) .skip)) (.seq (.seq (.reg [⟨(some 65), (.mv (.t 7)), none⟩, ⟨(some 66), (.bin .lss .i64 (.t 65) (.c (.int .i64 0))), none⟩]) (.cond (.t 66) (.reg [⟨(some 67), (.mv (.t 8)), none⟩, ⟨(some 7), (.mv (.t 67)), none⟩]) .skip)) (.seq (.reg [⟨(some 68), (.mv (.t 0)), none⟩, ⟨(some 69), (.mv (.t 8)), none⟩, ⟨(some 70), (.iaddr 6 (.t 68) (.t 69)), none⟩, ⟨(some 71), (.faddr 1 (.t 70)), none⟩, ⟨(some 72), (.load none (.t 71)), none⟩, ⟨(some 73), (.mv (.t 0)), none⟩, ⟨(some 74), (.mv (.t 7)), none⟩, ⟨(some 75), (.iaddr 6 (.t 73) (.t 74)), none⟩, ⟨(some 76), (.faddr 1 (.t 75)), none⟩, ⟨(some 77), (.load none (.t 76)), none⟩, ⟨(some 78), (.bin .lss .i64 (.t 72) (.t 77)), none⟩, ⟨(some 79), (.mv (.t 78)), none⟩, ⟨(some 80), (.mv (.t 0)), (some (79, false))⟩, ⟨(some 81), (.mv (.t 8)), (some (79, false))⟩, ⟨(some 82), (.iaddr 6 (.t 80) (.t 81)), (some (79, false))⟩, ⟨(some 83), (.faddr 1 (.t 82)), (some (79, false))⟩, ⟨(some 84), (.load none (.t 83)), (some (79, false))⟩, ⟨(some 85), (.mv (.t 0)), (some (79, false))⟩, ⟨(some 86), (.mv (.t 7)), (some (79, false))⟩, ⟨(some 87), (.iaddr 6 (.t 85) (.t 86)), (some (79, false))⟩, ⟨(some 88), (.faddr 1 (.t 87)), (some (79, false))⟩, ⟨(some 89), (.load none (.t 88)), (some (79, false))⟩, ⟨(some 90), (.bin .eql .i64 (.t 84) (.t 89)), (some (79, false))⟩, ⟨(some 91), (.mv (.t 90)), (some (79, false))⟩, ⟨(some 92), (.mv (.t 0)), (some (91, true))⟩, ⟨(some 93), (.mv (.t 8)), (some (91, true))⟩, ⟨(some 94), (.iaddr 6 (.t 92) (.t 93)), (some (91, true))⟩, ⟨(some 95), (.faddr 3 (.t 94)), (some (91, true))⟩, ⟨(some 96), (.load none (.t 95)), (some (91, true))⟩, ⟨(some 97), (.mv (.t 1)), (some (91, true))⟩, ⟨(some 98), (.bin .quo .i64 (.t 96) (.t 97)), (some (91, true))⟩, ⟨(some 99), (.mv (.t 0)), (some (91, true))⟩, ⟨(some 100), (.mv (.t 7)), (some (91, true))⟩, ⟨(some 101), (.iaddr 6 (.t 99) (.t 100)), (some (91, true))⟩, ⟨(some 102), (.faddr 3 (.t 101)), (some (91, true))⟩, ⟨(some 103), (.load none (.t 102)), (some (91, true))⟩, ⟨(some 104), (.mv (.t 1)), (some (91, true))⟩, ⟨(some 105), (.bin .quo .i64 (.t 103) (.t 104)), (some (91, true))⟩, ⟨(some 106), (.bin .lss .i64 (.t 98) (.t 105)), (some (91, true))⟩, ⟨(some 107), (.pick (.t 91) (.t 106) (.c (.bool false))), (some (79, false))⟩, ⟨(some 108), (.pick (.t 79) (.c (.bool true)) (.t 107)), none⟩]) (.cond (.t 108) (.reg [⟨(some 109), (.mv (.t 8)), none⟩, ⟨(some 7), (.mv (.t 109)), none⟩]) .skip))))))) (.reg [⟨(some 17), (.mv (.t 8)), none⟩, ⟨(some 18), (.bin .add .i64 (.t 17) (.c (.int .i64 1))), none⟩, ⟨(some 8), (.mv (.t 18)), none⟩])))))) (.seq (.reg [⟨(some 11), (.mv (.c (.sl [] .nil))), none⟩]) (.seq (.seq (.reg [⟨(some 12), (.mv (.c (.int .i64 0))), none⟩]) (.block 4 (.loop (.seq (.seq (.reg [⟨(some 110), (.mv (.t 12)), none⟩, ⟨(some 111), (.mv (.t 0)), none⟩, ⟨(some 112), (.len (.t 111)), none⟩, ⟨(some 113), (.bin .lss .i64 (.t 110) (.t 112)), none⟩, ⟨(some 114), (.mv (.t 113)), none⟩, ⟨(some 115), (.mv (.t 7)), (some (114, true))⟩, ⟨(some 116), (.bin .geq .i64 (.t 115) (.c (.int .i64 0))), (some (114, true))⟩, ⟨(some 117), (.pick (.t 114) (.t 116) (.c (.bool false))), none⟩, ⟨(some 118), (.mv (.t 117)), none⟩, ⟨(some 119), (.mv (.t 11)), (some (118, true))⟩, ⟨(some 120), (.len (.t 119)), (some (118, true))⟩, ⟨(some 121), (.mv (.t 2)), (some (118, true))⟩, ⟨(some 122), (.bin .lss .i64 (.t 120) (.t 121)), (some (118, true))⟩, ⟨(some 123), (.pick (.t 118) (.t 122) (.c (.bool false))), none⟩]) (.cond (.t 123) .skip (.exit 4))) (.seq (.block 5 (.seq (.reg [⟨(some 126), (.mv (.t 0)), none⟩, ⟨(some 127), (.mv (.t 12)), none⟩, ⟨(some 128), (.iaddr 6 (.t 126) (.t 127)), none⟩, ⟨(some 129), (.faddr 1 (.t 128)), none⟩, ⟨(some 130), (.load none (.t 129)), none⟩, ⟨(some 131), (.mv (.t 0)), none⟩, ⟨(some 132), (.mv (.t 7)), none⟩, ⟨(some 133), (.iaddr 6 (.t 131) (.t 132)), none⟩, ⟨(some 134), (.faddr 1 (.t 133)), none⟩, ⟨(some 135), (.load none (.t 134)), none⟩, ⟨(some 136), (.bin .eql .i64 (.t 130) (.t 135)), none⟩, ⟨(some 137), (.mv (.t 136)), none⟩, ⟨(some 138), (.mv (.t 0)), (some (137, true))⟩, ⟨(some 139), (.mv (.t 12)), (some (137, true))⟩, ⟨(some 140), (.iaddr 6 (.t 138) (.t 139)), (some (137, true))⟩, ⟨(some 141), (.faddr 3 (.t 140)), (some (137, true))⟩, ⟨(some 142), (.load none (.t 141)), (some (137, true))⟩, ⟨(some 143), (.mv (.t 1)), (some (137, true))⟩, ⟨(some 144), (.bin .quo .i64 (.t 142) (.t 143)), (some (137, true))⟩, ⟨(some 145), (.mv (.t 0)), (some (137, true))⟩, ⟨(some 146), (.mv (.t 7)), (some (137, true))⟩, ⟨(some 147), (.iaddr 6 (.t 145) (.t 146)), (some (137, true))⟩, ⟨(some 148), (.faddr 3 (.t 147)), (some (137, true))⟩, ⟨(some 149), (.load none (.t 148)), (some (137, true))⟩, ⟨(some 150), (.mv (.t 1)), (some (137, true))⟩, ⟨(some 151), (.bin .quo .i64 (.t 149) (.t 150)), (some (137, true))⟩, ⟨(some 152), (.bin .eql .i64 (.t 144) (.t 151)), (some (137, true))⟩, ⟨(some 153), (.pick (.t 137) (.t 152) (.c (.bool false))), none⟩]) (.cond (.t 153) (.reg [⟨(some 154), (.mv (.t 11)), none⟩, ⟨(some 155), (.mv (.t 0)), none⟩, ⟨(some 156), (.mv (.t 12)), none⟩, ⟨(some 157), (.iaddr 6 (.t 155) (.t 156)), none⟩, ⟨(some 158), (.load (some 6) (.t 157)), none⟩, ⟨(some 159), (.bslice 6 .val [(.t 158)]), none⟩, ⟨(some 160), (.app 6 48 .tip (.t 154) (.t 159)), none⟩, ⟨(some 11), (.mv (.t 160)), none⟩]) .skip))) (.reg [⟨(some 124), (.mv (.t 12)), none⟩, ⟨(some 125), (.bin .add .i64 (.t 124) (.c (.int .i64 1))), none⟩, ⟨(some 12), (.mv (.t 125)), none⟩])))))) (.seq (.reg [⟨(some 161), (.mv (.t 11)), none⟩, ⟨(some 6), (.mv (.t 161)), none⟩]) .ret))))))

set_option maxRecDepth 100000 in
theorem k_g19 : compileC Try.prog ann (Try.f24.body.getD .skip) = some c_g19 := by kernel_rfl

theorem s_g19 {args : List AV} {σ : St} {K : AV → St → Prop} (h : WF σ → T Try.prog ann c_g19 (Fin σ [(.t 6)] K) (args ++ List.replicate (162 - args.length) (.tup [])) σ) : ACalls Try.prog n_g19 args σ K :=
  calls_ok Try.func24 (by kernel_rfl) (by kernel_rfl) k_g19 (by kernel_rfl) (by kernel_rfl) h

abbrev n_ahead19 : Nat := 76

def c_ahead19 : C := (.seq (.reg [⟨(some 2), (.box (.t 0)), none⟩, ⟨(some 3), (.box (.t 1)), none⟩, ⟨(some 4), (.mv (.c (.int .i64 0))), none⟩]) (.seq (.reg [⟨(some 5), (.faddr 0 (.t 2)), none⟩, ⟨(some 6), (.load none (.t 5)), none⟩, ⟨(some 7), (.faddr 0 (.t 3)), none⟩, ⟨(some 8), (.load none (.t 7)), none⟩, ⟨(some 9), (.qcall 123 [(.t 6), (.t 8)]), none⟩, ⟨(some 10), (.faddr 1 (.t 2)), none⟩, ⟨(some 11), (.load none (.t 10)), none⟩, ⟨(some 12), (.faddr 1 (.t 3)), none⟩, ⟨(some 13), (.load none (.t 12)), none⟩, ⟨(some 14), (.qcall 124 [(.t 11), (.t 13)]), none⟩, ⟨(some 15), (.bslice 1 .val [(.t 9), (.t 14)]), none⟩, ⟨(some 16), (.qcall 122 [(.t 15)]), none⟩, ⟨(some 4), (.mv (.t 16)), none⟩]) .ret))

set_option maxRecDepth 100000 in
theorem k_ahead19 : compileC Try.prog ann (Try.f76.body.getD .skip) = some c_ahead19 := by kernel_rfl

theorem s_ahead19 {args : List AV} {σ : St} {K : AV → St → Prop} (h : WF σ → T Try.prog ann c_ahead19 (Fin σ [(.t 4)] K) (args ++ List.replicate (17 - args.length) (.tup [])) σ) : ACalls Try.prog n_ahead19 args σ K :=
  calls_ok Try.func76 (by kernel_rfl) (by kernel_rfl) k_ahead19 (by kernel_rfl) (by kernel_rfl) h

abbrev n_sfPl : Nat := 74

def c_sfPl : C := (.seq (.reg [⟨(some 4), (.mv (.c (.sl [] .nil))), none⟩]) (.seq (.reg [⟨(some 6), (.mv (.t 0)), none⟩, ⟨(some 7), (.call 119 [(.t 6)]), none⟩, ⟨(some 5), (.mv (.t 7)), none⟩]) (.seq (.reg [⟨(some 8), (.mv (.t 5)), none⟩, ⟨(some 9), (.mv (.t 1)), none⟩, ⟨(some 10), (.call 120 [(.t 8), (.t 9)]), none⟩]) (.seq (.reg [⟨(some 11), (.mv (.t 5)), none⟩, ⟨(some 4), (.mv (.t 11)), none⟩]) .ret))))

set_option maxRecDepth 100000 in
theorem k_sfPl : compileC Try.prog ann (Try.f74.body.getD .skip) = some c_sfPl := by kernel_rfl

theorem s_sfPl {args : List AV} {σ : St} {K : AV → St → Prop} (h : WF σ → T Try.prog ann c_sfPl (Fin σ [(.t 4)] K) (args ++ List.replicate (12 - args.length) (.tup [])) σ) : ACalls Try.prog n_sfPl args σ K :=
  calls_ok Try.func74 (by kernel_rfl) (by kernel_rfl) k_sfPl (by kernel_rfl) (by kernel_rfl) h

abbrev n_collPl : Nat := 119

def c_collPl : C := (.seq (.reg [⟨(some 2), (.mv (.c (.sl [] .nil))), none⟩]) (.seq (.reg [⟨(some 3), (.mv (.t 0)), none⟩, ⟨(some 4), (.call 151 [(.c (.sl [] .nil)), (.t 3)]), none⟩, ⟨(some 2), (.mv (.t 4)), none⟩]) .ret))

set_option maxRecDepth 100000 in
theorem k_collPl : compileC Try.prog ann (Try.f119.body.getD .skip) = some c_collPl := by kernel_rfl

theorem s_collPl {args : List AV} {σ : St} {K : AV → St → Prop} (h : WF σ → T Try.prog ann c_collPl (Fin σ [(.t 2)] K) (args ++ List.replicate (5 - args.length) (.tup [])) σ) : ACalls Try.prog n_collPl args σ K :=
  calls_ok Try.func119 (by kernel_rfl) (by kernel_rfl) k_collPl (by kernel_rfl) (by kernel_rfl) h

abbrev n_keysPl : Nat := 75

def c_keysPl : C := (.seq (.reg [⟨(some 1), (.box (.t 0)), none⟩, ⟨(some 2), (.mv (.c .nilf)), none⟩]) (.seq (.reg [⟨(some 3), (.mkF 121 [] [(.t 1)]), none⟩, ⟨(some 2), (.mv (.t 3)), none⟩]) .ret))

set_option maxRecDepth 100000 in
theorem k_keysPl : compileC Try.prog ann (Try.f75.body.getD .skip) = some c_keysPl := by kernel_rfl

theorem s_keysPl {args : List AV} {σ : St} {K : AV → St → Prop} (h : WF σ → T Try.prog ann c_keysPl (Fin σ [(.t 2)] K) (args ++ List.replicate (4 - args.length) (.tup [])) σ) : ACalls Try.prog n_keysPl args σ K :=
  calls_ok Try.func75 (by kernel_rfl) (by kernel_rfl) k_keysPl (by kernel_rfl) (by kernel_rfl) h

abbrev n_nan0 : Nat := 154

def c_nan0 : C := (.seq (.reg [⟨(some 2), (.mv (.c (.bool false))), none⟩]) (.seq (.reg [⟨(some 3), (.mv (.t 0)), none⟩, ⟨(some 4), (.mv (.t 0)), none⟩, ⟨(some 5), (.bin .neq .i64 (.t 3) (.t 4)), none⟩, ⟨(some 2), (.mv (.t 5)), none⟩]) .ret))

set_option maxRecDepth 100000 in
theorem k_nan0 : compileC Try.prog ann (Try.f154.body.getD .skip) = some c_nan0 := by kernel_rfl

theorem s_nan0 {args : List AV} {σ : St} {K : AV → St → Prop} (h : WF σ → T Try.prog ann c_nan0 (Fin σ [(.t 2)] K) (args ++ List.replicate (6 - args.length) (.tup [])) σ) : ACalls Try.prog n_nan0 args σ K :=
  calls_ok Try.func154 (by kernel_rfl) (by kernel_rfl) k_nan0 (by kernel_rfl) (by kernel_rfl) h

abbrev n_cmpn : Nat := 123

def c_cmpn : C := (.seq (.reg [⟨(some 4), (.mv (.c (.int .i64 0))), none⟩]) (.seq (.reg [⟨(some 7), (.mv (.t 0)), none⟩, ⟨(some 8), (.call 154 [(.t 7)]), none⟩, ⟨(some 5), (.mv (.t 8)), none⟩]) (.seq (.reg [⟨(some 9), (.mv (.t 1)), none⟩, ⟨(some 10), (.call 154 [(.t 9)]), none⟩, ⟨(some 6), (.mv (.t 10)), none⟩]) (.seq (.seq (.reg [⟨(some 11), (.mv (.t 5)), none⟩]) (.cond (.t 11) (.seq (.seq (.reg [⟨(some 12), (.mv (.t 6)), none⟩]) (.cond (.t 12) (.seq (.reg [⟨(some 4), (.mv (.c (.int .i64 0))), none⟩]) .ret) .skip)) (.seq (.reg [⟨(some 4), (.mv (.c (.int .i64 (-1)))), none⟩]) .ret)) .skip)) (.seq (.seq (.reg [⟨(some 13), (.mv (.t 6)), none⟩]) (.cond (.t 13) (.seq (.reg [⟨(some 4), (.mv (.c (.int .i64 1))), none⟩]) .ret) .skip)) (.seq (.seq (.reg [⟨(some 14), (.mv (.t 0)), none⟩, ⟨(some 15), (.mv (.t 1)), none⟩, ⟨(some 16), (.bin .lss .i64 (.t 14) (.t 15)), none⟩]) (.cond (.t 16) (.seq (.reg [⟨(some 4), (.mv (.c (.int .i64 (-1)))), none⟩]) .ret) .skip)) (.seq (.seq (.reg [⟨(some 17), (.mv (.t 0)), none⟩, ⟨(some 18), (.mv (.t 1)), none⟩, ⟨(some 19), (.bin .gtr .i64 (.t 17) (.t 18)), none⟩]) (.cond (.t 19) (.seq (.reg [⟨(some 4), (.mv (.c (.int .i64 1))), none⟩]) .ret) .skip)) (.seq (.reg [⟨(some 4), (.mv (.c (.int .i64 0))), none⟩]) .ret))))))))

set_option maxRecDepth 100000 in
theorem k_cmpn : compileC Try.prog ann (Try.f123.body.getD .skip) = some c_cmpn := by kernel_rfl

theorem s_cmpn {args : List AV} {σ : St} {K : AV → St → Prop} (h : WF σ → T Try.prog ann c_cmpn (Fin σ [(.t 4)] K) (args ++ List.replicate (20 - args.length) (.tup [])) σ) : ACalls Try.prog n_cmpn args σ K :=
  calls_ok Try.func123 (by kernel_rfl) (by kernel_rfl) k_cmpn (by kernel_rfl) (by kernel_rfl) h

end Go.VL

namespace Go.VL

open Go.Proofs

/-- an end that is owned, and what was owned ahead of it -/
structure Tp (σ σ' : St) (g k : Nat) : Prop where
  lo : σ.next ≤ g
  hi : g < σ'.next
  at_ : σ'.res g = some (.tip k)
  old : ∀ n x, σ.res n = some x → σ'.res n = some x

theorem Tp.new {σ σ' : St} {k n i : Nat} (wf : WF σ) (hn : σ.next ≤ σ'.next) (ho : ∀ n x, σ.res n = some x → σ'.res n = some x) (hi : i < n) : Tp σ ((σ'.up n).set (σ'.next + i) (.tip k)) (σ'.next + i) k :=
  ⟨by omega, by simp; omega, by simp, set_quiet wf hn ho _ (by omega)⟩

theorem Tp.mv {σ σ' : St} {g g2 k : Nat} (wf : WF σ) (h : Tp σ σ' g k) (hlo : σ.next ≤ g2) (hhi : g2 < σ'.next) : Tp σ ((σ'.del g).set g2 (.tip k)) g2 k :=
  ⟨hlo, by simpa using hhi, by simp, fun n x hr => by
    have hn : n < σ.next := by
      rcases Nat.lt_or_ge n σ.next with h' | h'
      · exact h'
      · rw [wf n h'] at hr; cases hr
    have h1 := h.lo
    rw [St.set_other _ _ (by omega)]
    simp only [St.del]
    rw [if_neg (by omega)]; exact h.old n x hr⟩

theorem Tp.up {σ σ' : St} {g k : Nat} (h : Tp σ σ' g k) (n : Nat) : Tp σ (σ'.up n) g k := ⟨h.lo, Nat.lt_of_lt_of_le h.hi (Nat.le_add_right _ _), h.at_, h.old⟩

end Go.VL

namespace Go.VL

open Go.Proofs

/-- a reader (an owned thing nm), a row that grows, and names that nobody knows -/
structure Rk (σ t : St) (nm : Nat) (r : Res) (k : Nat) (v : Ver) : Prop where
  like : Like σ t
  lo : σ.next ≤ nm
  hi : nm < t.next
  at_ : t.res nm = some r
  ver : v = .nil ∨ ∃ g, v = .tip g ∧ g ≠ nm ∧ σ.next ≤ g ∧ g < t.next ∧ t.res g = some (.tip k)

theorem Rk.set {σ t : St} {nm k : Nat} {r : Res} {v : Ver} (h : Rk σ t nm r k v) (r' : Res) : Rk σ (t.set nm r') nm r' k v :=
  ⟨h.like.set _ h.lo, h.lo, h.hi, by simp, h.ver.imp id fun ⟨g, a1, a2, a3, a4, a5⟩ => ⟨g, a1, a2, a3, a4, by rw [St.set_other _ _ a2]; exact a5⟩⟩

theorem Rk.up {σ t : St} {nm k : Nat} {r : Res} {v : Ver} (h : Rk σ t nm r k v) (n : Nat) : Rk σ (t.up n) nm r k v :=
  ⟨h.like.up n, h.lo, Nat.lt_of_lt_of_le h.hi (Nat.le_add_right _ _), h.at_, h.ver.imp id fun ⟨g, a1, a2, a3, a4, a5⟩ => ⟨g, a1, a2, a3, Nat.lt_of_lt_of_le a4 (Nat.le_add_right _ _), a5⟩⟩

theorem Rk.new {σ t : St} {nm k : Nat} {r : Res} {v : Ver} (h : Rk σ t nm r k v) {a : Nat} (r' : Res) (ha : σ.next ≤ a) (hn : a ≠ nm) (hv : ∀ g, v = .tip g → a ≠ g) : Rk σ (t.set a r') nm r k v :=
  ⟨h.like.set _ ha, h.lo, h.hi, by rw [St.set_other _ _ (Ne.symm hn)]; exact h.at_, h.ver.imp id fun ⟨g, a1, a2, a3, a4, a5⟩ => ⟨g, a1, a2, a3, a4, by rw [St.set_other _ _ (Ne.symm (hv g a1))]; exact a5⟩⟩

theorem Rk.lt {σ t : St} {nm k : Nat} {r : Res} {v : Ver} (h : Rk σ t nm r k v) {g : Nat} (hv : v = .tip g) : g < t.next := by
  rcases h.ver with e | ⟨g', e, _, _, h4, _⟩
  · rw [hv] at e; cases e
  · rw [hv] at e; cases e; exact h4

end Go.VL

namespace Go.VL

open Go.Proofs

/-- the reader's place in what is left of the bytes -/
def sh (k : Nat) (s : Rs) : Rs := ⟨s.at_ - k, if s.bad = -1 then -1 else s.bad - k⟩

structure SH (k : Nat) (b : List UInt8) (s : Rs) : Prop where
  ok : s.ok b
  len : k ≤ b.length
  lo : (k : Int) ≤ s.at_
  bad : s.bad = -1 ∨ (k : Int) ≤ s.bad

theorem SH.neg {k : Nat} {b : List UInt8} {s : Rs} (h : SH k b s) : (sh k s).bad = -1 ↔ s.bad = -1 := by
  unfold sh; have := h.bad
  split <;> simp_all <;> omega

theorem SH.pos {k : Nat} {b : List UInt8} {s : Rs} (h : SH k b s) : 0 ≤ (sh k s).bad ↔ 0 ≤ s.bad := by
  unfold sh; have := h.bad
  split <;> simp_all <;> omega

theorem SH.rt {k : Nat} {b : List UInt8} {s : Rs} (h : SH k b s) (w : Int) : rT (b.drop k) (sh k s) w = rT b s w := by
  have e := h.neg
  have := h.len
  unfold rT
  rw [Bool.eq_iff_iff, decide_eq_true_eq, decide_eq_true_eq, e, List.length_drop]
  unfold sh
  constructor <;> rintro ⟨h1, h2⟩ <;> refine ⟨h1, ?_⟩ <;> simp only [] at * <;> omega

theorem SH.rw {k : Nat} {b : List UInt8} {s : Rs} (h : SH k b s) (w : Nat) : rW (b.drop k) (sh k s) w = rW b s w := by
  unfold rW
  rw [h.rt]
  have : (b.drop k).drop (sh k s).at_.toNat = b.drop s.at_.toNat := by
    rw [List.drop_drop]; unfold sh; have := h.lo; congr 1; simp only []; omega
  rw [this]

end Go.VL

namespace Go.VL

open Go.Proofs

structure Mt where
  id : Nat
  level : Int
  st : Int
  en : Int
  pages : Int
  traces : Int
  deriving DecidableEq

abbrev mtC (m : Mt) : List AV := [.int .u64 (m.id : Int), .int .i64 m.level, .int .i64 m.st, .int .i64 m.en, .int .i64 m.pages, .int .i64 m.traces]

def mtsAV (l : List Mt) : List AV := l.map fun m => .agg [.int .u64 (m.id : Int), .int .i64 m.level, .int .i64 m.st, .int .i64 m.en, .int .i64 m.pages, .int .i64 m.traces]

theorem mts_len (l : List Mt) : (mtsAV l).length = l.length := by simp [mtsAV]

theorem mts_get {l : List Mt} {i : Nat} {m : Mt} (h : l[i]? = some m) : (mtsAV l)[i]? = some (.agg [.int .u64 (m.id : Int), .int .i64 m.level, .int .i64 m.st, .int .i64 m.en, .int .i64 m.pages, .int .i64 m.traces]) := by simp [mtsAV, h]

theorem mts_fits (l : List Mt) : (mtsAV l).all (AV.fits 6) = true := by
  simp [mtsAV, AV.fits, AV.isAny, AV.cells, AV.one]

theorem mts_nb (m : Nat) (l : List Mt) : nbs m (mtsAV l) := by
  rw [nbs_iff]
  intro y hy
  obtain ⟨t, _, rfl⟩ := List.mem_map.1 hy
  exact ⟨trivial, trivial, trivial, trivial, trivial, trivial, trivial⟩

theorem mt_eq (x y : Mt) : eqAv [.int .u64 (x.id : Int), .int .i64 x.level, .int .i64 x.st, .int .i64 x.en, .int .i64 x.pages, .int .i64 x.traces] [.int .u64 (y.id : Int), .int .i64 y.level, .int .i64 y.st, .int .i64 y.en, .int .i64 y.pages, .int .i64 y.traces] = some (decide (x = y)) := by
  simp only [eqAv, if_true, Option.map_some, Option.some.injEq]
  cases x; cases y
  rw [Bool.eq_iff_iff]
  simp [Bool.and_eq_true, Int.ofNat_inj]

theorem mt_ints (x : Mt) : ints [.int .u64 (x.id : Int), .int .i64 x.level, .int .i64 x.st, .int .i64 x.en, .int .i64 x.pages, .int .i64 x.traces] = true := rfl

set_option maxRecDepth 10000 in
theorem metas_ok {a b : List Mt} {g g' : Ver} {σ : St} (hl : a.length ≤ 9223372036854775807) : ACalls Try.prog n_metas14 [.sl (mtsAV a) g, .sl (mtsAV b) g'] σ (fun v σ' => v = .bool (decide (a = b)) ∧ σ' = σ) := by
  refine s_metas14 (fun wf => ?_)
  unfold c_metas14
  refine T.seq_k (fun K_h0 h0 => ?_)
  refine T.regi hm ?_
  simp only [↓reduceIte, namesOf, List.any, I.names, aopsI, astep, ev, setd, List.set, List.cons_append, List.nil_append, List.length_cons, List.length_nil, List.replicate, then_normal, Bool.or_false, Bool.false_eq_true, up_zero, Nat.reduceAdd, Nat.reduceSub]
  refine h0 _ _ ?_
  try clear h0 K_h0
  refine T.seq_k (fun K_h1 h1 => ?_)
  by_cases hlen : a.length = b.length
  case neg =>
    have e1 : ((a.length : Int) != (b.length : Int)) = true := by simp; omega
    refine T.seq_k (fun K_h0 h0 => ?_)
    refine T.regi hm ?_
    simp only [↓reduceIte, namesOf, List.any, I.names, aopsI, astep, ev, setd, List.set, List.getD, List.getElem?_cons_zero, List.getElem?_cons_succ, then_normal, Option.getD_some, Bool.or_false, Bool.false_eq_true, up_zero, binv, ↓opt_def, eq_self, mts_len, e1]
    refine h0 _ _ ?_
    try clear h0 K_h0
    refine T.cond rfl (fun _ => ?_) (fun h => by cases h)
    refine T.seq_k (fun K_h0 h0 => ?_)
    refine T.regi hm ?_
    simp only [↓reduceIte, namesOf, List.any, I.names, aopsI, astep, ev, setd, List.set, then_normal, Bool.or_false, Bool.false_eq_true, up_zero]
    refine h0 _ _ ?_
    try clear h0 K_h0
    exact T.ret (Fin.ret rfl ⟨by rw [decide_eq_false (fun h => hlen (by rw [h]))]; rfl, rfl⟩)
  have e1 : ((a.length : Int) != (b.length : Int)) = false := by simp; omega
  refine T.seq_k (fun K_h0 h0 => ?_)
  refine T.regi hm ?_
  simp only [↓reduceIte, namesOf, List.any, I.names, aopsI, astep, ev, setd, List.set, List.getD, List.getElem?_cons_zero, List.getElem?_cons_succ, then_normal, Option.getD_some, Bool.or_false, Bool.false_eq_true, up_zero, binv, ↓opt_def, eq_self, mts_len, e1]
  refine h0 _ _ ?_
  try clear h0 K_h0
  refine T.cond rfl (fun h => by cases h) (fun _ => T.skip ?_)
  refine h1 _ _ ?_
  try clear h1 K_h1
  refine T.seq_k (fun K_h1 h1 => ?_)
  refine T.seq_k (fun K_h0 h0 => ?_)
  refine T.regi hm ?_
  simp only [↓reduceIte, namesOf, List.any, I.names, aopsI, astep, ev, setd, List.set, then_normal, Bool.or_false, Bool.false_eq_true, up_zero]
  refine h0 _ _ ?_
  try clear h0 K_h0
  refine T.block ?_
  refine T.gh (Gh.keep [0, 1, 5]) ?_
  refine T.loopi (fun i ρ σ' => σ' = σ ∧ a.take i = b.take i ∧ ρ = [.sl (mtsAV a) g, .sl (mtsAV b) g', .any, .any, .any, .int .i64 (i : Int)] ++ List.replicate 20 .any)
    a.length 0 (Nat.zero_le _) ⟨rfl, by simp, rfl⟩ ?_
  rintro i ρ σ' hi ⟨rfl, hpre, rfl⟩
  refine T.seq_k (fun K_h2 h2 => ?_)
  by_cases hil : i < a.length
  case neg =>
    have e2 : decide (i < a.length) = false := decide_eq_false hil
    refine T.seq_k (fun K_h0 h0 => ?_)
    refine T.regi hm ?_
    simp only [↓reduceIte, namesOf, List.any, I.names, aopsI, astep, ev, setd, List.set, List.getD, List.getElem?_cons_zero, List.getElem?_cons_succ, List.cons_append, List.nil_append, List.replicate, then_normal, Option.getD_some, Bool.or_false, Bool.false_eq_true, up_zero, binv, ↓opt_def, lt_len, eq_self, mts_len, e2]
    refine h0 _ _ ?_
    try clear h0 K_h0
    refine T.cond rfl (fun h => by cases h) (fun _ => T.exit ?_)
    have : i = a.length := by omega
    subst this
    have hab : a = b := by rw [List.take_length, hlen, List.take_length] at hpre; exact hpre
    try simp only [List.cons_append, List.nil_append, List.replicate, then_normal, inBlock_exit, then_exit]
    refine h1 _ _ ?_
    try clear h1 K_h1
    refine T.seq_k (fun K_h0 h0 => ?_)
    refine T.regi hm ?_
    simp only [↓reduceIte, namesOf, List.any, I.names, aopsI, astep, ev, setd, List.set, then_normal, Bool.or_false, Bool.false_eq_true, up_zero]
    refine h0 _ _ ?_
    try clear h0 K_h0
    exact T.ret (Fin.ret rfl ⟨by rw [decide_eq_true hab]; rfl, rfl⟩)
  have e2 : decide (i < a.length) = true := decide_eq_true hil
  refine T.seq_k (fun K_h0 h0 => ?_)
  refine T.regi hm ?_
  simp only [↓reduceIte, namesOf, List.any, I.names, aopsI, astep, ev, setd, List.set, List.getD, List.getElem?_cons_zero, List.getElem?_cons_succ, List.cons_append, List.nil_append, List.replicate, then_normal, Option.getD_some, Bool.or_false, Bool.false_eq_true, up_zero, binv, ↓opt_def, lt_len, eq_self, mts_len, e2]
  refine h0 _ _ ?_
  try clear h0 K_h0
  refine T.cond rfl (fun _ => T.skip ?_) (fun h => by cases h)
  refine h2 _ _ ?_
  try clear h2 K_h2
  clear h1
  have hjl : i < b.length := by omega
  have hw := inc64 hil hl
  refine T.seq_k (fun K_h2 h2 => ?_)
  refine T.block ?_
  have hta : a[i]? = some a[i] := by simp [hil]
  have htb : b[i]? = some b[i] := by simp [hjl]
  have hsa : a.take (i + 1) = a.take i ++ [a[i]] := List.take_succ_eq_append_getElem hil
  have hsb : b.take (i + 1) = b.take i ++ [b[i]] := List.take_succ_eq_append_getElem hjl
  generalize a[i] = x at hta hsa
  generalize b[i] = y at htb hsb
  have hga := mts_get hta
  have hgb := mts_get htb
  by_cases hxy : x = y
  · have e3 : (decide (x = y) != true) = false := by rw [decide_eq_true hxy]; rfl
    refine T.seq_k (fun K_h0 h0 => ?_)
    refine T.regi hm ?_
    simp only [↓reduceIte, namesOf, List.any, I.names, aopsI, astep, ev, setd, List.set, List.getD, List.getElem?_cons_zero, List.getElem?_cons_succ, List.cons_append, List.nil_append, List.length_cons, List.length_nil, List.replicate, then_normal, Option.getD_some, Bool.or_false, Bool.false_eq_true, up_zero, Nat.reduceAdd, ↓opt_def, AV.cells, ldc, Int.natCast_nonneg, lt_len, Int.toNat_natCast, true_and, and_true, eq_self, mts_len, hga, hgb, hil, hjl, mt_ints, mt_eq, e3, Nat.zero_add, List.take, List.drop, Nat.reduceLeDiff]
    refine h0 _ _ ?_
    try clear h0 K_h0
    refine T.cond rfl (fun h => by cases h) (fun _ => T.skip ?_)
    refine h2 _ _ ?_
    try clear h2 K_h2
    refine T.regi hm ?_
    simp only [↓reduceIte, namesOf, List.any, I.names, aopsI, astep, ev, setd, List.set, List.getD, List.getElem?_cons_zero, List.getElem?_cons_succ, List.cons_append, List.nil_append, List.replicate, then_normal, Option.getD_some, Bool.or_false, Bool.false_eq_true, up_zero, binv, ↓opt_def, eq_self, hw]
    exact ⟨hil, _, _, Gh.keep [0, 1, 5], rfl, by rw [hsa, hsb, hpre, hxy], rfl⟩
  · have e3 : (decide (x = y) != true) = true := by rw [decide_eq_false hxy]; rfl
    have hab : a ≠ b := fun h => by
      subst h
      rw [hta] at htb
      cases htb
      exact hxy rfl
    refine T.seq_k (fun K_h0 h0 => ?_)
    refine T.regi hm ?_
    simp only [↓reduceIte, namesOf, List.any, I.names, aopsI, astep, ev, setd, List.set, List.getD, List.getElem?_cons_zero, List.getElem?_cons_succ, List.cons_append, List.nil_append, List.length_cons, List.length_nil, List.replicate, then_normal, Option.getD_some, Bool.or_false, Bool.false_eq_true, up_zero, Nat.reduceAdd, ↓opt_def, AV.cells, ldc, Int.natCast_nonneg, lt_len, Int.toNat_natCast, true_and, and_true, eq_self, mts_len, hga, hgb, hil, hjl, mt_ints, mt_eq, e3, Nat.zero_add, List.take, List.drop, Nat.reduceLeDiff]
    refine h0 _ _ ?_
    try clear h0 K_h0
    refine T.cond rfl (fun _ => ?_) (fun h => by cases h)
    refine T.seq_k (fun K_h0 h0 => ?_)
    refine T.regi hm ?_
    simp only [↓reduceIte, namesOf, List.any, I.names, aopsI, astep, ev, setd, List.set, List.cons_append, List.nil_append, List.replicate, then_normal, Bool.or_false, Bool.false_eq_true, up_zero]
    refine h0 _ _ ?_
    try clear h0 K_h0
    exact T.ret (Fin.ret rfl ⟨by rw [decide_eq_false hab]; rfl, rfl⟩)

/-- do metas rise by Id? -/
abbrev RisM (l : List Mt) : Prop := l.Pairwise fun x y => x.id < y.id

theorem RisM.snoc {l : List Mt} {i : Nat} {x y : Mt} (h : RisM (l.take i)) (hi : 0 < i) (hx : l[i - 1]? = some x) (hy : l[i]? = some y) (hlt : x.id < y.id) : RisM (l.take (i + 1)) := by
  obtain ⟨hil, rfl⟩ := List.getElem?_eq_some_iff.1 hy
  obtain ⟨hil2, rfl⟩ := List.getElem?_eq_some_iff.1 hx
  rw [List.take_succ_eq_append_getElem hil]
  refine List.pairwise_append.2 ⟨h, List.pairwise_singleton _ _, fun a ha b hb => ?_⟩
  rw [List.mem_singleton] at hb; subst hb
  obtain ⟨k, hk, rfl⟩ := List.getElem_of_mem ha
  rw [List.length_take] at hk
  rw [List.getElem_take]
  rcases Nat.lt_or_ge k (i - 1) with h1 | h1
  · have h2 := List.pairwise_iff_getElem.1 h k (i - 1) (by rw [List.length_take]; omega) (by rw [List.length_take]; omega) h1
    rw [List.getElem_take, List.getElem_take] at h2
    omega
  · have : k = i - 1 := by omega
    subst this; exact hlt

theorem RisM.bad {l : List Mt} {i : Nat} {x y : Mt} (hi : 0 < i) (hx : l[i - 1]? = some x) (hy : l[i]? = some y) (hlt : ¬ x.id < y.id) : ¬ RisM l := fun h => by
  obtain ⟨hil, rfl⟩ := List.getElem?_eq_some_iff.1 hy
  obtain ⟨hil2, rfl⟩ := List.getElem?_eq_some_iff.1 hx
  exact hlt (List.pairwise_iff_getElem.1 h _ _ hil2 hil (by omega))

set_option maxRecDepth 10000 in
theorem ris19_ok {l : List Mt} {g : Ver} {σ : St} (hl : l.length ≤ 9223372036854775807) : ACalls Try.prog n_ris19 [.sl (mtsAV l) g] σ (fun v σ' => v = .bool (decide (RisM l)) ∧ σ' = σ) := by
  refine s_ris19 (fun wf => ?_)
  unfold c_ris19
  refine T.seq_k (fun K_h0 h0 => ?_)
  refine T.regi hm ?_
  simp only [↓reduceIte, namesOf, List.any, I.names, aopsI, astep, ev, setd, List.set, List.cons_append, List.nil_append, List.length_cons, List.length_nil, List.replicate, then_normal, Bool.or_false, Bool.false_eq_true, up_zero, Nat.reduceAdd, Nat.reduceSub]
  refine h0 _ _ ?_
  try clear h0 K_h0
  refine T.seq_k (fun K_h1 h1 => ?_)
  refine T.seq_k (fun K_h0 h0 => ?_)
  refine T.regi hm ?_
  simp only [↓reduceIte, namesOf, List.any, I.names, aopsI, astep, ev, setd, List.set, then_normal, Bool.or_false, Bool.false_eq_true, up_zero]
  refine h0 _ _ ?_
  try clear h0 K_h0
  refine T.block ?_
  refine T.gh (Gh.keep [0, 3]) ?_
  refine T.loopi (fun i ρ t => 1 ≤ i ∧ t = σ ∧ RisM (l.take i) ∧ ρ = [.sl (mtsAV l) g, .any, .any, .int .i64 (i : Int)] ++ List.replicate 18 .any)
    (max 1 l.length) 1 (Nat.le_max_left _ _) ⟨Nat.le_refl _, rfl, ?_, rfl⟩ ?_
  · cases l with
    | nil => exact .nil
    | cons x l => exact List.pairwise_singleton _ _
  rintro i ρ t hi ⟨hi1, rfl, hpre, rfl⟩
  refine T.seq_k (fun K_h2 h2 => ?_)
  by_cases hil : i < l.length
  · refine T.seq_k (fun K_h0 h0 => ?_)
    refine T.regi hm ?_
    simp only [↓reduceIte, namesOf, List.any, I.names, aopsI, astep, ev, setd, List.set, List.getD, List.getElem?_cons_zero, List.getElem?_cons_succ, List.cons_append, List.nil_append, List.replicate, then_normal, Option.getD_some, Bool.or_false, Bool.false_eq_true, up_zero, binv, ↓opt_def, lt_len, eq_self, decide_true, mts_len, hil]
    refine h0 _ _ ?_
    try clear h0 K_h0
    refine T.cond rfl (fun _ => T.skip ?_) (fun h => by cases h)
    refine h2 _ _ ?_
    try clear h2 K_h2
    have e1 : IntKind.i64.wrap ((i : Int) - 1) = ((i - 1 : Nat) : Int) := by rw [wrap64 (by omega) (by omega)]; omega
    have hw := inc64 hil hl
    have hi2 : i - 1 < l.length := by omega
    have hx : l[i - 1]? = some l[i - 1] := List.getElem?_eq_getElem hi2
    have hy : l[i]? = some l[i] := List.getElem?_eq_getElem hil
    generalize l[i - 1] = x at hx
    generalize l[i] = y at hy
    have hgx := mts_get hx
    have hgy := mts_get hy
    refine T.seq_k (fun K_h2 h2 => ?_)
    refine T.block ?_
    by_cases hlt : x.id < y.id
    · have e2 : decide ((x.id : Int) ≥ (y.id : Int)) = false := decide_eq_false (by omega)
      refine T.seq_k (fun K_h0 h0 => ?_)
      refine T.regi hm ?_
      simp only [↓reduceIte, namesOf, List.any, I.names, aopsI, astep, ev, setd, List.set, List.getD, List.getElem?_cons_zero, List.getElem?_cons_succ, List.cons_append, List.nil_append, List.length_cons, List.length_nil, List.replicate, then_normal, Option.getD_some, Bool.or_false, Bool.false_eq_true, up_zero, Nat.reduceAdd, binv, ↓opt_def, AV.cells, ldc, Int.natCast_nonneg, lt_len, Int.toNat_natCast, true_and, and_true, eq_self, e1, mts_len, hi2, hil, hgx, hgy, e2, Nat.zero_add, List.drop, Nat.reduceLeDiff]
      refine h0 _ _ ?_
      try clear h0 K_h0
      refine T.cond rfl (fun h => by cases h) (fun _ => T.skip ?_)
      refine h2 _ _ ?_
      try clear h2 K_h2
      refine T.regi hm ?_
      simp only [↓reduceIte, namesOf, List.any, I.names, aopsI, astep, ev, setd, List.set, List.getD, List.getElem?_cons_zero, List.getElem?_cons_succ, List.cons_append, List.nil_append, List.replicate, then_normal, Option.getD_some, Bool.or_false, Bool.false_eq_true, up_zero, binv, ↓opt_def, eq_self, hw]
      exact ⟨by omega, _, _, Gh.keep [0, 3], by omega, rfl, hpre.snoc (by omega) hx hy hlt, rfl⟩
    · have e2 : decide ((x.id : Int) ≥ (y.id : Int)) = true := decide_eq_true (by omega)
      refine T.seq_k (fun K_h0 h0 => ?_)
      refine T.regi hm ?_
      simp only [↓reduceIte, namesOf, List.any, I.names, aopsI, astep, ev, setd, List.set, List.getD, List.getElem?_cons_zero, List.getElem?_cons_succ, List.cons_append, List.nil_append, List.length_cons, List.length_nil, List.replicate, then_normal, Option.getD_some, Bool.or_false, Bool.false_eq_true, up_zero, Nat.reduceAdd, binv, ↓opt_def, AV.cells, ldc, Int.natCast_nonneg, lt_len, Int.toNat_natCast, true_and, and_true, eq_self, e1, mts_len, hi2, hil, hgx, hgy, e2, Nat.zero_add, List.drop, Nat.reduceLeDiff]
      refine h0 _ _ ?_
      try clear h0 K_h0
      refine T.cond rfl (fun _ => ?_) (fun h => by cases h)
      refine T.seq_k (fun K_h0 h0 => ?_)
      refine T.regi hm ?_
      simp only [↓reduceIte, namesOf, List.any, I.names, aopsI, astep, ev, setd, List.set, List.cons_append, List.nil_append, List.replicate, then_normal, Bool.or_false, Bool.false_eq_true, up_zero]
      refine h0 _ _ ?_
      try clear h0 K_h0
      exact T.ret (Fin.ret rfl ⟨by rw [decide_eq_false (RisM.bad (by omega) hx hy hlt)]; rfl, rfl⟩)
  · refine T.seq_k (fun K_h0 h0 => ?_)
    refine T.regi hm ?_
    simp only [↓reduceIte, namesOf, List.any, I.names, aopsI, astep, ev, setd, List.set, List.getD, List.getElem?_cons_zero, List.getElem?_cons_succ, List.cons_append, List.nil_append, List.replicate, then_normal, Option.getD_some, Bool.or_false, Bool.false_eq_true, up_zero, binv, ↓opt_def, lt_len, eq_self, mts_len, hil, decide_false]
    refine h0 _ _ ?_
    try clear h0 K_h0
    refine T.cond rfl (fun h => by cases h) (fun _ => T.exit ?_)
    rw [List.take_of_length_le (by omega)] at hpre
    try simp only [List.cons_append, List.nil_append, List.replicate, then_normal, inBlock_exit, then_exit]
    refine h1 _ _ ?_
    try clear h1 K_h1
    refine T.seq_k (fun K_h0 h0 => ?_)
    refine T.regi hm ?_
    simp only [↓reduceIte, namesOf, List.any, I.names, aopsI, astep, ev, setd, List.set, then_normal, Bool.or_false, Bool.false_eq_true, up_zero]
    refine h0 _ _ ?_
    try clear h0 K_h0
    exact T.ret (Fin.ret rfl ⟨by rw [decide_eq_true hpre]; rfl, rfl⟩)

end Go.VL

namespace Go.VL

open Go.Proofs

/-- where a meta is merged -/
abbrev pk (long : Int) (m : Mt) : Int × Int := (m.level, m.en.tdiv long)

abbrev pkLt (a b : Int × Int) : Prop := a.1 < b.1 ∨ a.1 = b.1 ∧ a.2 < b.2

def cntM (long : Int) (l : List Mt) (k : Int × Int) : Nat := l.countP fun m => decide (pk long m = k)

/-- may metas be merged there? -/
def Elig (long : Int) (l : List Mt) (k : Int × Int) : Prop := 2 ≤ cntM long l k ∧ k.1 < 10

/-- the first place, of metas -/
def First (long : Int) (l : List Mt) (k : Int × Int) : Prop := Elig long l k ∧ ∀ k', Elig long l k' → ¬ pkLt k' k

theorem First.uniq {long : Int} {l : List Mt} {a b : Int × Int} (ha : First long l a) (hb : First long l b) : a = b := by
  have h1 := ha.2 b hb.1
  have h2 := hb.2 a ha.1
  unfold pkLt at h1 h2
  refine Prod.ext ?_ ?_ <;> omega

/-- what is to be merged -/
def Grp (long : Int) (most : Nat) (l out : List Mt) : Prop := ((∀ k, ¬ Elig long l k) ∧ out = []) ∨ ∃ k, First long l k ∧ out = (l.filter fun m => decide (pk long m = k)).take most

theorem Grp.uniq {long : Int} {most : Nat} {l a b : List Mt} (ha : Grp long most l a) (hb : Grp long most l b) : a = b := by
  rcases ha with ⟨h1, rfl⟩ | ⟨k, h1, rfl⟩
  · rcases hb with ⟨_, rfl⟩ | ⟨k', h2, _⟩
    · rfl
    · exact absurd h2.1 (h1 k')
  · rcases hb with ⟨h2, _⟩ | ⟨k', h2, rfl⟩
    · exact absurd h1.1 (h2 k)
    · rw [h1.uniq h2]

theorem cnt_step {long : Int} {l : List Mt} {k : Int × Int} {i : Nat} {m : Mt} (h : l[i]? = some m) : cntM long (l.take (i + 1)) k = cntM long (l.take i) k + if pk long m = k then 1 else 0 := by
  obtain ⟨hi, rfl⟩ := List.getElem?_eq_some_iff.1 h
  unfold cntM
  rw [List.take_succ_eq_append_getElem hi, List.countP_append, List.countP_singleton]
  simp

theorem cnt_le (long : Int) (l : List Mt) (k : Int × Int) : cntM long l k ≤ l.length := List.countP_le_length

theorem win_wrap {long x : Int} (hl : 1 ≤ long) (hx : -9223372036854775808 ≤ x ∧ x ≤ 9223372036854775807) : IntKind.i64.wrap (x.tdiv long) = x.tdiv long := by
  have h1 : (x.tdiv long).natAbs ≤ x.natAbs := by
    rw [Int.natAbs_tdiv]
    exact Nat.div_le_self _ _
  by_cases h0 : 0 ≤ x
  · have h2 : 0 ≤ x.tdiv long := Int.tdiv_nonneg h0 (by omega)
    exact wrap64 (by omega) (by omega)
  · have h2 : x.tdiv long ≤ 0 := by
      have h3 : 0 ≤ (-x).tdiv long := Int.tdiv_nonneg (by omega) (by omega)
      rw [Int.neg_tdiv] at h3; omega
    exact wrap64 (by omega) (by omega)

/-- the first place among the first i metas' places (at the index b) -/
def BestAt (long : Int) (l : List Mt) (i : Nat) (b : Int) : Prop :=
  (b = -1 ∧ ∀ (j : Nat) (m : Mt), j < i → l[j]? = some m → ¬ Elig long l (pk long m)) ∨
  ∃ (n : Nat) (x : Mt), b = (n : Int) ∧ l[n]? = some x ∧ Elig long l (pk long x) ∧ ∀ (j : Nat) (m : Mt), j < i → l[j]? = some m → Elig long l (pk long m) → ¬ pkLt (pk long m) (pk long x)

theorem elig_mem {long : Int} {l : List Mt} {k : Int × Int} (h : Elig long l k) : ∃ (j : Nat) (m : Mt), l[j]? = some m ∧ pk long m = k := by
  have h1 : 0 < l.countP fun m => decide (pk long m = k) := by have := h.1; unfold cntM at this; omega
  obtain ⟨m, hm, hk⟩ := List.countP_pos_iff.1 h1
  obtain ⟨j, hj⟩ := List.getElem?_of_mem hm
  exact ⟨j, m, hj, by simpa using hk⟩

theorem BestAt.done {long : Int} {l : List Mt} {b : Int} (h : BestAt long l l.length b) : (b = -1 ∧ ∀ k, ¬ Elig long l k) ∨ ∃ (n : Nat) (x : Mt), b = (n : Int) ∧ l[n]? = some x ∧ First long l (pk long x) := by
  rcases h with ⟨rfl, h⟩ | ⟨n, x, rfl, hx, he, h⟩
  · refine .inl ⟨rfl, fun k hk => ?_⟩
    obtain ⟨j, m, hj, rfl⟩ := elig_mem hk
    exact h j m (List.getElem?_eq_some_iff.1 hj).1 hj hk
  · refine .inr ⟨n, x, rfl, hx, he, fun k hk => ?_⟩
    obtain ⟨j, m, hj, rfl⟩ := elig_mem hk
    exact h j m (List.getElem?_eq_some_iff.1 hj).1 hj hk

theorem BestAt.skip {long : Int} {l : List Mt} {i : Nat} {b : Int} {m : Mt} (h : BestAt long l i b) (hm : l[i]? = some m) (hn : ¬ Elig long l (pk long m)) : BestAt long l (i + 1) b := by
  rcases h with ⟨rfl, h⟩ | ⟨n, x, rfl, hx, he, h⟩
  · refine .inl ⟨rfl, fun j y hj hy => ?_⟩
    rcases Nat.lt_or_ge j i with h1 | h1
    · exact h j y h1 hy
    · have : j = i := by omega
      subst this; rw [hm] at hy; cases hy; exact hn
  · refine .inr ⟨n, x, rfl, hx, he, fun j y hj hy hey => ?_⟩
    rcases Nat.lt_or_ge j i with h1 | h1
    · exact h j y h1 hy hey
    · have : j = i := by omega
      subst this; rw [hm] at hy; cases hy; exact absurd hey hn

theorem BestAt.keep {long : Int} {l : List Mt} {i n : Nat} {m x : Mt} (h : BestAt long l i (n : Int)) (hm : l[i]? = some m) (hx : l[n]? = some x) (hn : ¬ pkLt (pk long m) (pk long x)) : BestAt long l (i + 1) (n : Int) := by
  rcases h with ⟨h0, _⟩ | ⟨n', x', h0, hx', he, h⟩
  · omega
  · have : n = n' := by omega
    subst this
    rw [hx] at hx'; cases hx'
    refine .inr ⟨n, x, rfl, hx, he, fun j y hj hy hey => ?_⟩
    rcases Nat.lt_or_ge j i with h1 | h1
    · exact h j y h1 hy hey
    · have : j = i := by omega
      subst this; rw [hm] at hy; cases hy; exact hn

theorem pkLt_trans {a b c : Int × Int} (h : pkLt a b) (k : ¬ pkLt c b) : ¬ pkLt c a := by
  unfold pkLt at *; omega

theorem BestAt.take {long : Int} {l : List Mt} {i : Nat} {b : Int} {m : Mt} (h : BestAt long l i b) (hm : l[i]? = some m) (he : Elig long l (pk long m)) (hb : b = -1 ∨ ∃ (n : Nat) (x : Mt), b = (n : Int) ∧ l[n]? = some x ∧ pkLt (pk long m) (pk long x)) : BestAt long l (i + 1) (i : Int) := by
  refine .inr ⟨i, m, rfl, hm, he, fun j y hj hy hey => ?_⟩
  rcases Nat.lt_or_ge j i with h1 | h1
  · rcases h with ⟨_, h⟩ | ⟨n', x', h0, hx', _, h⟩
    · exact absurd hey (h j y h1 hy)
    · rcases hb with hb | ⟨n, x, hb, hx, hlt⟩
      · omega
      · have : n = n' := by omega
        subst this
        rw [hx] at hx'; cases hx'
        exact pkLt_trans hlt (h j y h1 hy hey)
  · have : j = i := by omega
    subst this; rw [hm] at hy; cases hy
    unfold pkLt; omega

end Go.VL

namespace Go.VL

open Go.Proofs

/-- a slice that began as nil, and was appended to: nothing yet, or a named end; what was there ahead of it is as it was -/
def AccG (σ t : St) (k : Nat) (xs : List AV) (x : AV) : Option Nat → Prop
  | none => x = .sl [] .nil ∧ xs = [] ∧ Like σ t
  | some g => x = .sl xs (.tip g) ∧ Tq σ t g k

section

variable {σ t u : St} {k : Nat} {xs : List AV} {x : AV} {G : Option Nat}

theorem AccG.like (h : AccG σ t k xs x G) : Like σ t := by
  cases G with
  | none => exact h.2.2
  | some g => exact h.2.like

theorem AccG.nil (h : Like σ t) : AccG σ t k [] (.sl [] .nil) none := ⟨rfl, rfl, h⟩

theorem AccG.of_tip {g : Nat} (h : Tq σ t g k) : AccG σ t k xs (.sl xs (.tip g)) (some g) := ⟨rfl, h⟩

theorem AccG.ex (h : AccG σ t k xs x G) : ∃ v, x = .sl xs v := by
  cases G with
  | none => obtain ⟨h1, h2, _⟩ := h; subst h2; exact ⟨_, h1⟩
  | some g => exact ⟨_, h.1⟩

theorem AccG.up (h : AccG σ t k xs x G) (n : Nat) : AccG σ (t.up n) k xs x G := by
  cases G with
  | none => exact ⟨h.1, h.2.1, h.2.2.up n⟩
  | some g => exact ⟨h.1, h.2.up n⟩

theorem AccG.lt (h : AccG σ t k xs x G) : ∀ g, G = some g → σ.next ≤ g ∧ g < t.next := by
  rintro g rfl
  exact ⟨h.2.lo, h.2.hi⟩

theorem AccG.keep (h : AccG σ t k xs x G) (hn : t.next ≤ u.next) (hs : ∀ m, m < σ.next → u.res m = t.res m) (hg : ∀ g, G = some g → u.res g = t.res g) : AccG σ u k xs x G := by
  have hl : Like σ u := ⟨Nat.le_trans h.like.next hn, fun m hm => (hs m hm).trans (h.like.same m hm)⟩
  cases G with
  | none => exact ⟨h.1, h.2.1, hl⟩
  | some g => exact ⟨h.1, hl, by rw [hg g rfl]; exact h.2.at_, h.2.lo, Nat.lt_of_lt_of_le h.2.hi hn⟩

theorem AccG.set (h : AccG σ t k xs x G) {a : Nat} (r : Res) (ha : σ.next ≤ a) (hg : ∀ g, G = some g → a ≠ g) : AccG σ (t.set a r) k xs x G :=
  h.keep (Nat.le_refl _) (fun m hm => St.set_other _ _ (by omega)) (fun g e => St.set_other _ _ (Ne.symm (hg g e)))

theorem AccG.box (h : AccG σ t k xs x G) {n i : Nat} (hi : i < n) (r : Res) : AccG σ ((t.up n).set (t.next + i) r) k xs x G :=
  (h.up n).set r (by have := h.like.next; omega) (fun g e => by have := (h.lt g e).2; omega)

theorem AccG.quiet (wf : WF σ) (h : AccG σ t k xs x G) : ∀ n r, σ.res n = some r → t.res n = some r := h.like.quiet wf

theorem AccG.wk (h : AccG σ t k xs x G) : Wk x (.sl xs .none) := by
  obtain ⟨v, rfl⟩ := h.ex
  exact .sl _ _

end

end Go.VL
