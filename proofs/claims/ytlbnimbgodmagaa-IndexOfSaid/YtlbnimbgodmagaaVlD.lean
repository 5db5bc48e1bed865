/- The value logic, part D: the relation between what is owned and a memory, and how it is kept. -/
import Derived.Test.YtlbnimbgodmagaaVlC
import Derived.Laws.Sem
import Derived.Laws.Cells
namespace Go.VL

def fzOk (n : Nat) (fz : Nat × Nat) : Prop := fz.1 = fz.2 ∨ n ≤ fz.1

/-- entries of a map -/
inductive Vm (κ : Kx) (w : World) : List MapEntry → List (AV × AV) → Prop where
  | nil : Vm κ w [] []
  | cons (e : MapEntry) (p : AV × AV) (es : List MapEntry) (ps : List (AV × AV)) (hk : V κ w e.key p.1) (hv : V κ w e.val p.2) (t : Vm κ w es ps) : Vm κ w (e :: es) (p :: ps)

theorem Vm.mono {κ κ' : Kx} {w w' : World} (e : Ext κ w κ' w') : ∀ {es : List MapEntry} {ps : List (AV × AV)}, Vm κ w es ps → Vm κ' w' es ps
  | _, _, .nil => .nil
  | _, _, .cons a p es ps hk hv t => .cons a p es ps (hk.mono e) (hv.mono e) (t.mono e)

def Owns (κ : Kx) (w : World) (n : Nat) : Res → Prop
  | .obj cs => ∃ us rest t fz, w.heap[κ.φ n]? = some (.cells ⟨us ++ rest⟩ t fz) ∧ fzOk us.length fz ∧ Vl κ w us cs ∧ ∀ o, ¬ κ.I (κ.φ n) o
  | .tip k => κ.ξ n = k ∧ ∃ us t fz, w.heap[κ.φ n]? = some (.cells ⟨us⟩ t fz) ∧ fzOk us.length fz ∧ κ.χ n ≤ us.length ∧ ∀ o, κ.ψ n ≤ o → ¬ κ.I (κ.φ n) o
  | .map es ts clk => ∃ ents, w.heap[κ.φ n]? = some (.map ⟨ents⟩ clk) ∧ Vm κ w ents es ∧ (∀ o, ¬ κ.I (κ.φ n) o) ∧ ents.map (·.born) = ts ∧ ts.Nodup ∧ ∀ t ∈ ts, t < clk
  | .iter m since seen last => w.heap[κ.φ n]? = some (.mapIter (m.map κ.φ) since ⟨seen⟩ last) ∧ (∀ m', m = some m' → κ.dom m') ∧ ∀ o, ¬ κ.I (κ.φ n) o
  | .siter s pos => w.heap[κ.φ n]? = some (.stringIter s pos) ∧ ∀ o, ¬ κ.I (κ.φ n) o

structure R (B : Nat) (F : Nat → Prop) (κ : Kx) (w : World) (σ : St) : Prop where
  dom : ∀ n, κ.dom n → n < σ.next
  own : ∀ n r, σ.res n = some r → κ.dom n ∧ Owns κ w n r
  apart : ∀ n m r s, σ.res n = some r → σ.res m = some s → κ.φ n = κ.φ m → n = m
  imm : ∀ b o, κ.I b o → b < w.heap.size
  foot : ∀ n r, σ.res n = some r → F (κ.φ n) ∨ B ≤ κ.φ n

/-- all but the blocks of F is as it was -/
structure Fr (F : Nat → Prop) (w0 w : World) : Prop where
  os : w.os = w0.os
  tape : w.tape = w0.tape
  output : w.output = w0.output
  size : w0.heap.size ≤ w.heap.size
  block : ∀ b, b < w0.heap.size → ¬ F b → w.heap[b]? = w0.heap[b]?

theorem Fr.refl (F : Nat → Prop) (w : World) : Fr F w w := ⟨rfl, rfl, rfl, Nat.le_refl _, fun _ _ _ => rfl⟩

theorem cell_of {w : World} {b : Nat} {us : List Value} {t : TypeId} {fz : Nat × Nat} (h : w.heap[b]? = some (.cells ⟨us⟩ t fz)) (o : Nat) : w.cell? ⟨b, o, none⟩ = us[o]? := by
  simp [World.cell?, h]
theorem frozen_of {w : World} {b n : Nat} {us : List Value} {t : TypeId} {fz : Nat × Nat} (h : w.heap[b]? = some (.cells ⟨us⟩ t fz)) (hf : fzOk n fz) {o : Nat} (ho : o < n) : w.frozen? ⟨b, o, none⟩ = false := by
  simp only [World.frozen?, h, Bool.and_eq_false_iff, decide_eq_false_iff_not]
  obtain ⟨lo, hi⟩ := fz
  rcases hf with hf | hf
  · simp only at hf; subst hf
    rcases Nat.lt_or_ge o lo with hx | hx
    · exact .inl (by simp only; omega)
    · exact .inr (by simp only; omega)
  · simp only at hf; exact .inl (by simp only; omega)
theorem cell_same {w w' : World} {b : Nat} (h : w'.heap[b]? = w.heap[b]?) (o : Nat) : w'.cell? ⟨b, o, none⟩ = w.cell? ⟨b, o, none⟩ := by
  simp [World.cell?, h]

theorem Owns.keep {κ κ' : Kx} {w w' : World} {n : Nat} {r : Res} (h : Owns κ w n r) (e : Ext κ w κ' w') (hd : κ.dom n) (hb : w'.heap[κ.φ n]? = w.heap[κ.φ n]?)
    (hI : ∀ o, κ'.I (κ.φ n) o → κ.I (κ.φ n) o) : Owns κ' w' n r := by
  cases r with
  | obj cs =>
    obtain ⟨us, rest, t, fz, h1, h2, h3, h4⟩ := h
    exact ⟨us, rest, t, fz, by rw [e.φ n hd, hb, h1], h2, h3.mono e, fun o ho => h4 o (hI o (by rwa [e.φ n hd] at ho))⟩
  | tip k =>
    obtain ⟨h0, us, t, fz, h1, h2, h3, h4⟩ := h
    exact ⟨by rw [e.ξ n hd, h0], us, t, fz, by rw [e.φ n hd, hb, h1], h2, by rw [e.χ n hd]; exact h3, fun o hp ho => h4 o (by rwa [e.ψ n hd] at hp) (hI o (by rwa [e.φ n hd] at ho))⟩
  | map es ts clk =>
    obtain ⟨ents, h1, h2, h4, h5⟩ := h
    exact ⟨ents, by rw [e.φ n hd, hb, h1], h2.mono e, fun o ho => h4 o (hI o (by rwa [e.φ n hd] at ho)), h5⟩
  | iter m since seen last =>
    obtain ⟨h1, h2, h3⟩ := h
    refine ⟨?_, fun m' hm => e.dom m' (h2 m' hm), fun o ho => h3 o (hI o (by rwa [e.φ n hd] at ho))⟩
    rw [e.φ n hd, hb, h1]
    cases m with
    | none => rfl
    | some m' => simp only [Option.map_some, e.φ m' (h2 m' rfl)]
  | siter s pos =>
    exact ⟨by rw [e.φ n hd, hb, h.1], fun o ho => h.2 o (hI o (by rwa [e.φ n hd] at ho))⟩

/-- a step: each name owns what it owned, its block untouched, or it is told anew -/
theorem R.step {B : Nat} {F : Nat → Prop} {κ κ' : Kx} {w w' : World} {σ σ' : St} (h : R B F κ w σ) (e : Ext κ w κ' w')
    (hdom : ∀ n, κ'.dom n → n < σ'.next) (himm : ∀ b o, κ'.I b o → b < w'.heap.size)
    (hown : ∀ n r, σ'.res n = some r → (σ.res n = some r ∧ w'.heap[κ.φ n]? = w.heap[κ.φ n]? ∧ ∀ o, κ'.I (κ.φ n) o → κ.I (κ.φ n) o) ∨
      (κ'.dom n ∧ Owns κ' w' n r ∧ (F (κ'.φ n) ∨ B ≤ κ'.φ n) ∧ ∀ m s, σ'.res m = some s → κ'.φ n = κ'.φ m → n = m)) : R B F κ' w' σ' where
  dom := hdom
  own := fun n r hr => by
    rcases hown n r hr with ⟨h1, h2, h3⟩ | ⟨h1, h2, _⟩
    · have := h.own n r h1
      exact ⟨e.dom n this.1, this.2.keep e this.1 h2 h3⟩
    · exact ⟨h1, h2⟩
  apart := fun n m r s hn hm hx => by
    rcases hown n r hn with ⟨h1, _⟩ | ⟨_, _, _, h4⟩
    · rcases hown m s hm with ⟨k1, _⟩ | ⟨_, _, _, k4⟩
      · exact h.apart n m r s h1 k1 (by rw [← e.φ n (h.own n r h1).1, ← e.φ m (h.own m s k1).1]; exact hx)
      · exact (k4 n r hn hx.symm).symm
    · exact h4 m s hm hx
  imm := himm
  foot := fun n r hr => by
    rcases hown n r hr with ⟨h1, _⟩ | ⟨_, _, h3, _⟩
    · rw [e.φ n (h.own n r h1).1]; exact h.foot n r h1
    · exact h3

theorem R.lt {B : Nat} {F : Nat → Prop} {κ : Kx} {w : World} {σ : St} (h : R B F κ w σ) {n : Nat} {r : Res} (hr : σ.res n = some r) : κ.φ n < w.heap.size := by
  have := (h.own n r hr).2
  cases r with
  | obj cs => obtain ⟨us, rest, t, fz, h1, _⟩ := this; exact (Array.getElem?_eq_some_iff.1 h1).1
  | tip k => obtain ⟨_, us, t, fz, h1, _⟩ := this; exact (Array.getElem?_eq_some_iff.1 h1).1
  | map es ts clk => obtain ⟨ents, h1, _⟩ := this; exact (Array.getElem?_eq_some_iff.1 h1).1
  | iter m since seen last => exact (Array.getElem?_eq_some_iff.1 this.1).1
  | siter s pos => exact (Array.getElem?_eq_some_iff.1 this.1).1

/-! ### New blocks -/

def Kx.name (κ : Kx) (nm b : Nat) : Kx := { κ with dom := fun n => κ.dom n ∨ n = nm, φ := fun n => if n = nm then b else κ.φ n }
def Kx.imms (κ : Kx) (b n : Nat) : Kx := { κ with I := fun b' o => κ.I b' o ∨ (b' = b ∧ o < n) }
def Kx.mark (κ : Kx) (nm b e r k : Nat) : Kx :=
  { κ with dom := fun n => κ.dom n ∨ n = nm, φ := fun n => if n = nm then b else κ.φ n, ψ := fun n => if n = nm then e else κ.ψ n,
           χ := fun n => if n = nm then r else κ.χ n, ξ := fun n => if n = nm then k else κ.ξ n }

theorem heap_alloc (w : World) (o : Obj) (b : Nat) (hb : b < w.heap.size) : (w.alloc o).heap[b]? = w.heap[b]? := by
  have e : (w.alloc o).heap = w.heap.push o := rfl
  rw [e, Array.getElem?_push, if_neg (by omega)]
theorem heap_alloc_new (w : World) (o : Obj) : (w.alloc o).heap[w.heap.size]? = some o := by
  have e : (w.alloc o).heap = w.heap.push o := rfl
  rw [e, Array.getElem?_push, if_pos rfl]
theorem size_alloc (w : World) (o : Obj) : (w.alloc o).heap.size = w.heap.size + 1 := by
  have e : (w.alloc o).heap = w.heap.push o := rfl
  rw [e, Array.size_push]

theorem Ext.name {κ : Kx} {w w' : World} {nm b : Nat} (hn : ¬ κ.dom nm) (hc : ∀ b o, κ.I b o → w'.cell? ⟨b, o, none⟩ = w.cell? ⟨b, o, none⟩) : Ext κ w (κ.name nm b) w' where
  I := fun _ _ h => h
  φ := fun n h => by have : n ≠ nm := fun e => hn (e ▸ h); simp [Kx.name, this]
  ψ := fun _ _ => rfl
  χ := fun _ _ => rfl
  ξ := fun _ _ => rfl
  dom := fun _ h => .inl h
  cell := hc
theorem Ext.mark {κ : Kx} {w w' : World} {nm b e r k : Nat} (hn : ¬ κ.dom nm) (hc : ∀ b o, κ.I b o → w'.cell? ⟨b, o, none⟩ = w.cell? ⟨b, o, none⟩) : Ext κ w (κ.mark nm b e r k) w' where
  I := fun _ _ h => h
  φ := fun n h => by have : n ≠ nm := fun e => hn (e ▸ h); simp [Kx.mark, this]
  ψ := fun n h => by have : n ≠ nm := fun e => hn (e ▸ h); simp [Kx.mark, this]
  χ := fun n h => by have : n ≠ nm := fun e => hn (e ▸ h); simp [Kx.mark, this]
  ξ := fun n h => by have : n ≠ nm := fun e => hn (e ▸ h); simp [Kx.mark, this]
  dom := fun _ h => .inl h
  cell := hc
theorem Ext.imms {κ : Kx} {w w' : World} {b n : Nat} (hc : ∀ b o, κ.I b o → w'.cell? ⟨b, o, none⟩ = w.cell? ⟨b, o, none⟩) : Ext κ w (κ.imms b n) w' where
  I := fun _ _ h => .inl h
  φ := fun _ _ => rfl
  ψ := fun _ _ => rfl
  χ := fun _ _ => rfl
  ξ := fun _ _ => rfl
  dom := fun _ h => h
  cell := hc

section
variable {B : Nat} {F : Nat → Prop} {κ : Kx} {w : World} {σ : St}

theorem R.cells_alloc (h : R B F κ w σ) (o : Obj) : ∀ b i, κ.I b i → (w.alloc o).cell? ⟨b, i, none⟩ = w.cell? ⟨b, i, none⟩ :=
  fun b i hi => cell_same (heap_alloc w o b (h.imm b i hi)) i

/-- a new row that is owned -/
theorem R.new_obj (h : R B F κ w σ) (hB : B ≤ w.heap.size) {nm : Nat} (hn : ¬ κ.dom nm) (hlt : nm < σ.next) {us : List Value} {cs : List AV} (t : TypeId) (rest : List Value) (fz : Nat × Nat) (hf : fzOk us.length fz) (hv : Vl κ w us cs) :
    Ext κ w (κ.name nm w.heap.size) (w.alloc (.cells ⟨us ++ rest⟩ t fz)) ∧ R B F (κ.name nm w.heap.size) (w.alloc (.cells ⟨us ++ rest⟩ t fz)) (σ.set nm (.obj cs)) := by
  have e : Ext κ w (κ.name nm w.heap.size) (w.alloc (.cells ⟨us ++ rest⟩ t fz)) := .name hn (h.cells_alloc _)
  refine ⟨e, h.step e (fun n hd => ?_) (fun b o hi => ?_) (fun n r hr => ?_)⟩
  · rcases hd with hd | rfl
    · exact h.dom n hd
    · exact hlt
  · rw [size_alloc]; exact Nat.lt_succ_of_lt (h.imm b o hi)
  · by_cases hx : n = nm
    · subst hx
      simp only [St.set_same, Option.some.injEq] at hr
      subst hr
      refine .inr ⟨.inr rfl, ⟨us, rest, t, fz, ?_, hf, hv.mono e, fun o ho => ?_⟩, .inr ?_, fun m s hs hm => ?_⟩
      · simp only [Kx.name, if_true]; exact heap_alloc_new _ _
      · simp only [Kx.name, if_true] at ho; exact absurd (h.imm _ _ ho) (Nat.lt_irrefl _)
      · simp only [Kx.name, if_true]; exact hB
      · by_cases hx : m = n
        · exact hx.symm
        · rw [St.set_other _ _ hx] at hs
          have := h.lt hs
          simp only [Kx.name, if_true, hx, if_false] at hm
          omega
    · rw [St.set_other _ _ hx] at hr
      exact .inl ⟨hr, heap_alloc _ _ _ (h.lt hr), fun o ho => ho⟩

/-- a new block of another kind -/
theorem R.new_other (h : R B F κ w σ) (hB : B ≤ w.heap.size) {nm : Nat} (hn : ¬ κ.dom nm) (hlt : nm < σ.next) (ob : Obj) (r : Res)
    (ho : ∀ κ' w', κ'.φ nm = w.heap.size → Ext κ w κ' w' → w'.heap[w.heap.size]? = some ob → (∀ o, ¬ κ'.I w.heap.size o) → Owns κ' w' nm r) :
    Ext κ w (κ.name nm w.heap.size) (w.alloc ob) ∧ R B F (κ.name nm w.heap.size) (w.alloc ob) (σ.set nm r) := by
  have e : Ext κ w (κ.name nm w.heap.size) (w.alloc ob) := .name hn (h.cells_alloc _)
  refine ⟨e, h.step e (fun n hd => ?_) (fun b o hi => ?_) (fun n r' hr => ?_)⟩
  · rcases hd with hd | rfl
    · exact h.dom n hd
    · exact hlt
  · rw [size_alloc]; exact Nat.lt_succ_of_lt (h.imm b o hi)
  · by_cases hx : n = nm
    · subst hx
      simp only [St.set_same, Option.some.injEq] at hr
      subst hr
      refine .inr ⟨.inr rfl, ?_, .inr ?_, fun m s hs hm => ?_⟩
      · refine ho _ _ (by simp [Kx.name]) e (heap_alloc_new _ _) (fun o ho => ?_)
        exact absurd (h.imm _ _ ho) (Nat.lt_irrefl _)
      · simp only [Kx.name, if_true]; exact hB
      · by_cases hx : m = n
        · exact hx.symm
        · rw [St.set_other _ _ hx] at hs
          have := h.lt hs
          simp only [Kx.name, if_true, hx, if_false] at hm
          omega
    · rw [St.set_other _ _ hx] at hr
      exact .inl ⟨hr, heap_alloc _ _ _ (h.lt hr), fun o ho => ho⟩

/-- a new map -/
theorem R.new_map (h : R B F κ w σ) (hB : B ≤ w.heap.size) {nm : Nat} (hn : ¬ κ.dom nm) (hlt : nm < σ.next) :
    Ext κ w (κ.name nm w.heap.size) (w.alloc (.map #[] 0)) ∧ R B F (κ.name nm w.heap.size) (w.alloc (.map #[] 0)) (σ.set nm (.map [] [] 0)) :=
  h.new_other hB hn hlt _ _ fun κ' w' hφ _ hw hI => ⟨[], by rw [hφ, hw], .nil, by rw [hφ]; exact hI, rfl, .nil, fun t ht => by cases ht⟩

/-- a new row that never changes: all of its first n cells -/
theorem R.new_imm (h : R B F κ w σ) (us : List Value) (t : TypeId) (fz : Nat × Nat) (n : Nat) :
    Ext κ w (κ.imms w.heap.size n) (w.alloc (.cells ⟨us⟩ t fz)) ∧ R B F (κ.imms w.heap.size n) (w.alloc (.cells ⟨us⟩ t fz)) σ := by
  have e : Ext κ w (κ.imms w.heap.size n) (w.alloc (.cells ⟨us⟩ t fz)) := .imms (h.cells_alloc _)
  refine ⟨e, h.step e (fun n hd => h.dom n hd) (fun b o hi => ?_) (fun n r hr => .inl ⟨hr, heap_alloc _ _ _ (h.lt hr), fun o ho => ?_⟩)⟩
  · rw [size_alloc]
    rcases hi with hi | ⟨rfl, _⟩
    · exact Nat.lt_succ_of_lt (h.imm b o hi)
    · exact Nat.lt_succ_self _
  · rcases ho with ho | ⟨hx, _⟩
    · exact ho
    · exact absurd (h.lt hr) (by rw [hx]; exact Nat.lt_irrefl _)

/-- a new row, its first n cells never changing, its room behind them owned -/
theorem R.new_tip (h : R B F κ w σ) (hB : B ≤ w.heap.size) {nm : Nat} (hn : ¬ κ.dom nm) (hlt : nm < σ.next) (us : List Value) (t : TypeId) (fz : Nat × Nat) (hf : fzOk us.length fz) (n r k : Nat) (hr : r ≤ us.length) :
    Ext κ w ((κ.imms w.heap.size n).mark nm w.heap.size n r k) (w.alloc (.cells ⟨us⟩ t fz)) ∧ R B F ((κ.imms w.heap.size n).mark nm w.heap.size n r k) (w.alloc (.cells ⟨us⟩ t fz)) (σ.set nm (.tip k)) := by
  have e : Ext κ w ((κ.imms w.heap.size n).mark nm w.heap.size n r k) (w.alloc (.cells ⟨us⟩ t fz)) := by
    have e1 : Ext κ w (κ.imms w.heap.size n) (w.alloc (.cells ⟨us⟩ t fz)) := .imms (h.cells_alloc _)
    exact e1.trans (.mark (κ := κ.imms w.heap.size n) hn (fun _ _ _ => rfl))
  refine ⟨e, h.step e (fun n hd => ?_) (fun b o hi => ?_) (fun m s hs => ?_)⟩
  · rcases hd with hd | rfl
    · exact h.dom n hd
    · exact hlt
  · rw [size_alloc]
    rcases hi with hi | ⟨rfl, _⟩
    · exact Nat.lt_succ_of_lt (h.imm b o hi)
    · exact Nat.lt_succ_self _
  · by_cases hx : m = nm
    · subst hx
      simp only [St.set_same, Option.some.injEq] at hs
      subst hs
      refine .inr ⟨.inr rfl, ⟨by simp [Kx.mark], us, t, fz, ?_, hf, by simpa [Kx.mark] using hr, fun o hp ho => ?_⟩, .inr ?_, fun j s hj hm => ?_⟩
      · simp only [Kx.mark, if_true]; exact heap_alloc_new _ _
      · simp only [Kx.mark, if_true, Kx.imms] at ho hp
        rcases ho with ho | ⟨_, ho⟩
        · exact absurd (h.imm _ _ ho) (Nat.lt_irrefl _)
        · omega
      · simp only [Kx.mark, if_true]; exact hB
      · by_cases hx : j = m
        · exact hx.symm
        · rw [St.set_other _ _ hx] at hj
          have := h.lt hj
          simp only [Kx.mark, if_true, hx, if_false, Kx.imms] at hm
          omega
    · rw [St.set_other _ _ hx] at hs
      refine .inl ⟨hs, heap_alloc _ _ _ (h.lt hs), fun o ho => ?_⟩
      simp only [Kx.mark, Kx.imms] at ho
      rcases ho with ho | ⟨hy, _⟩
      · exact ho
      · exact absurd (h.lt hs) (by rw [hy]; exact Nat.lt_irrefl _)

/-- an owned row is told anew: its block holds other cells -/
theorem R.set_obj (h : R B F κ w σ) {n : Nat} {cs cs' : List AV} (hr : σ.res n = some (.obj cs)) {w' : World} {us rest : List Value} {t : TypeId} {fz : Nat × Nat}
    (hb : w'.heap[κ.φ n]? = some (.cells ⟨us ++ rest⟩ t fz)) (hf : fzOk us.length fz) (ho : ∀ b, b ≠ κ.φ n → w'.heap[b]? = w.heap[b]?) (hs : w'.heap.size = w.heap.size)
    (hv : Vl κ w us cs') : Ext κ w κ w' ∧ R B F κ w' (σ.set n (.obj cs')) := by
  obtain ⟨hd, us0, rest0, t0, fz0, h1, h2, h3, h4⟩ := h.own n _ hr
  have e : Ext κ w κ w' := ⟨fun _ _ x => x, fun _ _ => rfl, fun _ _ => rfl, fun _ _ => rfl, fun _ _ => rfl, fun _ x => x, fun b o hi => cell_same (ho b (fun hx => h4 o (hx ▸ hi))) o⟩
  refine ⟨e, h.step e h.dom (fun b o hi => by rw [hs]; exact h.imm b o hi) (fun m r hm => ?_)⟩
  by_cases hx : m = n
  · subst hx
    simp only [St.set_same, Option.some.injEq] at hm
    subst hm
    refine .inr ⟨hd, ⟨us, rest, t, fz, hb, hf, hv.mono e, h4⟩, h.foot _ _ hr, fun j s hj hm => ?_⟩
    by_cases hy : j = m
    · exact hy.symm
    · rw [St.set_other _ _ hy] at hj
      exact h.apart _ _ _ _ hr hj hm
  · rw [St.set_other _ _ hx] at hm
    exact .inl ⟨hm, ho _ (fun hy => hx (h.apart _ _ _ _ hm hr hy)), fun o x => x⟩

/-- an owned thing is told anew -/
theorem R.set_res (h : R B F κ w σ) {n : Nat} {r r' : Res} (hr : σ.res n = some r) (hI : ∀ o, ¬ κ.I (κ.φ n) o) {w' : World}
    (ho : ∀ b, b ≠ κ.φ n → w'.heap[b]? = w.heap[b]?) (hs : w'.heap.size = w.heap.size)
    (hv : Ext κ w κ w' → Owns κ w' n r') : Ext κ w κ w' ∧ R B F κ w' (σ.set n r') := by
  obtain ⟨hd, _⟩ := h.own n _ hr
  have e : Ext κ w κ w' := ⟨fun _ _ x => x, fun _ _ => rfl, fun _ _ => rfl, fun _ _ => rfl, fun _ _ => rfl, fun _ x => x, fun b o hi => cell_same (ho b (fun hx => hI o (hx ▸ hi))) o⟩
  refine ⟨e, h.step e h.dom (fun b o hi => by rw [hs]; exact h.imm b o hi) (fun m r hm => ?_)⟩
  by_cases hx : m = n
  · subst hx
    simp only [St.set_same, Option.some.injEq] at hm
    subst hm
    refine .inr ⟨hd, hv e, h.foot _ _ hr, fun j s hj hm => ?_⟩
    by_cases hy : j = m
    · exact hy.symm
    · rw [St.set_other _ _ hy] at hj
      exact h.apart _ _ _ _ hr hj hm
  · rw [St.set_other _ _ hx] at hm
    exact .inl ⟨hm, ho _ (fun hy => hx (h.apart _ _ _ _ hm hr hy)), fun o x => x⟩

theorem R.set_map (h : R B F κ w σ) {n : Nat} {es es' : List (AV × AV)} {ts ts' : List Nat} {clk clk' : Nat} (hr : σ.res n = some (.map es ts clk)) {w' : World} {ents : List MapEntry}
    (hb : w'.heap[κ.φ n]? = some (.map ⟨ents⟩ clk')) (ho : ∀ b, b ≠ κ.φ n → w'.heap[b]? = w.heap[b]?) (hs : w'.heap.size = w.heap.size)
    (hv : Vm κ w ents es') (ht : ents.map (·.born) = ts') (hnd : ts'.Nodup) (hlt : ∀ t ∈ ts', t < clk') : Ext κ w κ w' ∧ R B F κ w' (σ.set n (.map es' ts' clk')) := by
  obtain ⟨hd, e0, h1, h2, h4, h5⟩ := h.own n _ hr
  exact h.set_res hr h4 ho hs fun e => ⟨ents, hb, hv.mono e, h4, ht, hnd, hlt⟩
end

end Go.VL
