/- Texts put together: The value logic, part A: abstract values, what they stand for in a memory, and how that is kept. The value logic, part B: what is owned, the relation to a memory, the instructions and what each comes to. The value logic, part C: from the loaded code to the instructions. The value logic, part D: the relation between what is owned and a memory, and how it is kept. The value logic, part E: each operation of the code comes to what its instruction says. The value logic, part F: operations that leave memory alone. The value logic, part G: operations that make memory, or write it. -/
import Derived.Below
import Derived.Orders
import Derived.Laws.World
import GoSem.Core.Utf8
import Derived.Laws.Sem
import Derived.Laws.Cells
import Derived.Laws.Strings

/- The value logic, part A: abstract values, what they stand for in a memory, and how that is kept. -/
namespace Go.VL

/-- What is known of the place behind a slice: nothing; it is the nil slice; there is no room at all; it is named. -/
inductive Ver where
  | none
  | nil
  | zero
  | tip (g : Nat)

/-- Abstract values. -/
inductive AV where
  | any
  | bool (b : Bool)
  | int (k : IntKind) (n : Int)
  | str (s : ByteArray)
  | nilp
  | nilm
  | nilf
  | nili
  | ptr (n off : Nat)
  | eptr (cs : List AV)
  | sl (xs : List AV) (g : Ver)
  | ref (n off len : Nat)
  | room (g n : Nat)
  | map (n : Nat)
  | func (f : Nat) (first captured : List AV)
  | iface (t : Nat) (x : AV)
  | agg (cs : List AV)
  | tup (xs : List AV)

instance : Inhabited AV := ⟨.any⟩

def AV.cells : AV → List AV
  | .agg cs => cs
  | x => [x]

/-- What names stand for: which cells never change; a name's block; of a named end: where it is, where the room ends, an element's size. -/
structure Kx where
  I : Nat → Nat → Prop
  φ : Nat → Nat
  ψ : Nat → Nat
  χ : Nat → Nat
  ξ : Nat → Nat
  dom : Nat → Prop

mutual
inductive V (κ : Kx) (w : World) : Value → AV → Prop where
  | any (v : Value) : V κ w v .any
  | bool (b : Bool) : V κ w (.bool b) (.bool b)
  | int (k : IntKind) (n : Int) : V κ w (.int k n) (.int k n)
  | str (s : ByteArray) : V κ w (.string s) (.str s)
  | nilp : V κ w (.pointer none) .nilp
  | nilm : V κ w (.map none) .nilm
  | nilf : V κ w .nilFunc .nilf
  | nili : V κ w .nilIface .nili
  | ptr (n off : Nat) (h : κ.dom n) : V κ w (.pointer (some ⟨κ.φ n, off, none⟩)) (.ptr n off)
  | eptr (b o : Nat) (cs : List AV) (h : Vs κ w b o cs) : V κ w (.pointer (some ⟨b, o, none⟩)) (.eptr cs)
  | slnil (g : Ver) (hg : g = .nil ∨ g = .none ∨ g = .zero) : V κ w (.slice none 0 0) (.sl [] g)
  | slz (a : Addr) (g : Ver) (hg : g = .none ∨ g = .zero) : V κ w (.slice (some a) 0 0) (.sl [] g)
  | sl (b o cap k : Nat) (xs : List AV) (hk : ∀ x ∈ xs, x.cells.length = k) (hc : xs.length ≤ cap) (h : Vs κ w b o (xs.flatMap AV.cells)) :
      V κ w (.slice (some ⟨b, o, none⟩) xs.length cap) (.sl xs .none)
  | tip (o cap g : Nat) (xs : List AV) (hk : ∀ x ∈ xs, x.cells.length = κ.ξ g) (hc : xs.length ≤ cap) (hg : κ.dom g)
      (he : κ.ψ g = o + xs.length * κ.ξ g) (hr : κ.χ g = o + cap * κ.ξ g) (h : Vs κ w (κ.φ g) o (xs.flatMap AV.cells)) :
      V κ w (.slice (some ⟨κ.φ g, o, none⟩) xs.length cap) (.sl xs (.tip g))
  | ref (n off len cap : Nat) (h : κ.dom n) (hc : len ≤ cap) : V κ w (.slice (some ⟨κ.φ n, off, none⟩) len cap) (.ref n off len)
  | room (o cap g n : Nat) (hg : κ.dom g) (hc : n ≤ cap) (he : κ.ψ g = o) (hr : κ.χ g = o + cap * κ.ξ g) : V κ w (.slice (some ⟨κ.φ g, o, none⟩) n cap) (.room g n)
  | map (n : Nat) (h : κ.dom n) : V κ w (.map (some (κ.φ n))) (.map n)
  | func (f : Nat) (a b : List Value) (x y : List AV) (h1 : Vl κ w a x) (h2 : Vl κ w b y) : V κ w (.func (.func f) ⟨a⟩ ⟨b⟩) (.func f x y)
  | iface (t : Nat) (v : Value) (x : AV) (h : V κ w v x) : V κ w (.iface t v) (.iface t x)
  | agg (a : List Value) (x : List AV) (h : Vl κ w a x) : V κ w (.agg ⟨a⟩) (.agg x)
  | tup (a : List Value) (x : List AV) (h : Vl κ w a x) : V κ w (.tuple ⟨a⟩) (.tup x)
inductive Vs (κ : Kx) (w : World) : Nat → Nat → List AV → Prop where
  | nil (b o : Nat) : Vs κ w b o []
  | cons (b o : Nat) (u : Value) (x : AV) (xs : List AV) (hI : κ.I b o) (hc : w.cell? ⟨b, o, none⟩ = some u) (hu : V κ w u x) (ht : Vs κ w b (o + 1) xs) :
      Vs κ w b o (x :: xs)
inductive Vl (κ : Kx) (w : World) : List Value → List AV → Prop where
  | nil : Vl κ w [] []
  | cons (v : Value) (x : AV) (vs : List Value) (xs : List AV) (h : V κ w v x) (t : Vl κ w vs xs) : Vl κ w (v :: vs) (x :: xs)
end

/-- What was known stays known. -/
structure Ext (κ : Kx) (w : World) (κ' : Kx) (w' : World) : Prop where
  I : ∀ b o, κ.I b o → κ'.I b o
  φ : ∀ n, κ.dom n → κ'.φ n = κ.φ n
  ψ : ∀ n, κ.dom n → κ'.ψ n = κ.ψ n
  χ : ∀ n, κ.dom n → κ'.χ n = κ.χ n
  ξ : ∀ n, κ.dom n → κ'.ξ n = κ.ξ n
  dom : ∀ n, κ.dom n → κ'.dom n
  cell : ∀ b o, κ.I b o → w'.cell? ⟨b, o, none⟩ = w.cell? ⟨b, o, none⟩

theorem Ext.refl (κ : Kx) (w : World) : Ext κ w κ w := ⟨fun _ _ h => h, fun _ _ => rfl, fun _ _ => rfl, fun _ _ => rfl, fun _ _ => rfl, fun _ h => h, fun _ _ _ => rfl⟩

theorem Ext.trans {κ κ1 κ2 : Kx} {w w1 w2 : World} (h : Ext κ w κ1 w1) (k : Ext κ1 w1 κ2 w2) : Ext κ w κ2 w2 where
  I := fun b o hi => k.I b o (h.I b o hi)
  φ := fun n hn => (k.φ n (h.dom n hn)).trans (h.φ n hn)
  ψ := fun n hn => (k.ψ n (h.dom n hn)).trans (h.ψ n hn)
  χ := fun n hn => (k.χ n (h.dom n hn)).trans (h.χ n hn)
  ξ := fun n hn => (k.ξ n (h.dom n hn)).trans (h.ξ n hn)
  dom := fun n hn => k.dom n (h.dom n hn)
  cell := fun b o hi => (k.cell b o (h.I b o hi)).trans (h.cell b o hi)

mutual
theorem V.mono {κ κ' : Kx} {w w' : World} (e : Ext κ w κ' w') : ∀ {v : Value} {x : AV}, V κ w v x → V κ' w' v x
  | _, _, .any v => .any v
  | _, _, .bool b => .bool b
  | _, _, .int k n => .int k n
  | _, _, .str s => .str s
  | _, _, .nilp => .nilp
  | _, _, .nilm => .nilm
  | _, _, .nilf => .nilf
  | _, _, .nili => .nili
  | _, _, .ptr n off h => by rw [← e.φ n h]; exact .ptr n off (e.dom _ h)
  | _, _, .eptr b o cs h => .eptr b o cs (Vs.mono e h)
  | _, _, .slnil g hg => .slnil g hg
  | _, _, .slz a g hg => .slz a g hg
  | _, _, .sl b o cap k xs hk hc h => .sl b o cap k xs hk hc (Vs.mono e h)
  | _, _, .tip o cap g xs hk hc hg he hr h => by
    have hx := Vs.mono e h
    rw [← e.φ g hg] at hx ⊢
    exact .tip o cap g xs (by rw [e.ξ g hg]; exact hk) hc (e.dom _ hg) (by rw [e.ψ g hg, e.ξ g hg]; exact he) (by rw [e.χ g hg, e.ξ g hg]; exact hr) hx
  | _, _, .ref n off len cap h hc => by rw [← e.φ n h]; exact .ref n off len cap (e.dom _ h) hc
  | _, _, .room o cap g n hg hc he hr => by
    rw [← e.φ g hg]
    exact .room o cap g n (e.dom _ hg) hc (by rw [e.ψ g hg]; exact he) (by rw [e.χ g hg, e.ξ g hg]; exact hr)
  | _, _, .map n h => by rw [← e.φ n h]; exact .map n (e.dom _ h)
  | _, _, .func f a b x y h1 h2 => .func f a b x y (Vl.mono e h1) (Vl.mono e h2)
  | _, _, .iface t v x h => .iface t v x (V.mono e h)
  | _, _, .agg a x h => .agg a x (Vl.mono e h)
  | _, _, .tup a x h => .tup a x (Vl.mono e h)
theorem Vs.mono {κ κ' : Kx} {w w' : World} (e : Ext κ w κ' w') : ∀ {b o : Nat} {xs : List AV}, Vs κ w b o xs → Vs κ' w' b o xs
  | _, _, _, .nil b o => .nil b o
  | _, _, _, .cons b o u x xs hI hc hu ht => .cons b o u x xs (e.I b o hI) ((e.cell b o hI).trans hc) (V.mono e hu) (Vs.mono e ht)
theorem Vl.mono {κ κ' : Kx} {w w' : World} (e : Ext κ w κ' w') : ∀ {vs : List Value} {xs : List AV}, Vl κ w vs xs → Vl κ' w' vs xs
  | _, _, .nil => .nil
  | _, _, .cons v x vs xs h t => .cons v x vs xs (V.mono e h) (Vl.mono e t)
end

theorem Vl.length {κ : Kx} {w : World} : ∀ {vs : List Value} {xs : List AV}, Vl κ w vs xs → vs.length = xs.length
  | _, _, .nil => rfl
  | _, _, .cons _ _ _ _ _ t => by simp [t.length]
theorem Vl.get {κ : Kx} {w : World} : ∀ {vs : List Value} {xs : List AV} (_ : Vl κ w vs xs) (i : Nat), V κ w (vs.getD i undef) (xs.getD i .any)
  | _, _, .nil, i => by simp; exact .any _
  | _, _, .cons v x vs xs h t, 0 => by simpa using h
  | _, _, .cons v x vs xs h t, i + 1 => by simpa using Vl.get t i
theorem Vl.get? {κ : Kx} {w : World} : ∀ {vs : List Value} {xs : List AV} (_ : Vl κ w vs xs) (i : Nat) (x : AV), xs[i]? = some x → ∃ v, vs[i]? = some v ∧ V κ w v x
  | _, _, .nil, i, x, h => by simp at h
  | _, _, .cons v y vs xs hy t, 0, x, h => by simp at h; subst h; exact ⟨v, rfl, hy⟩
  | _, _, .cons v y vs xs hy t, i + 1, x, h => by simpa using Vl.get? t i x (by simpa using h)
theorem Vl.append {κ : Kx} {w : World} : ∀ {vs us : List Value} {xs ys : List AV}, Vl κ w vs xs → Vl κ w us ys → Vl κ w (vs ++ us) (xs ++ ys)
  | _, _, _, _, .nil, k => by simpa using k
  | _, _, _, _, .cons v x vs xs h t, k => by simpa using Vl.cons v x _ _ h (Vl.append t k)
theorem Vl.set {κ : Kx} {w : World} : ∀ {vs : List Value} {xs : List AV} (_ : Vl κ w vs xs) (i : Nat) {v : Value} {x : AV}, V κ w v x → Vl κ w (vs.set i v) (xs.set i x)
  | _, _, .nil, i, _, _, _ => by simpa using Vl.nil
  | _, _, .cons v y vs xs hy t, 0, _, _, k => by simpa using Vl.cons _ _ _ _ k t
  | _, _, .cons v y vs xs hy t, i + 1, _, _, k => by simpa using Vl.cons _ _ _ _ hy (Vl.set t i k)
theorem Vl.take {κ : Kx} {w : World} : ∀ {vs : List Value} {xs : List AV} (_ : Vl κ w vs xs) (i : Nat), Vl κ w (vs.take i) (xs.take i)
  | _, _, _, 0 => by simpa using Vl.nil
  | _, _, .nil, i + 1 => by simpa using Vl.nil
  | _, _, .cons v y vs xs hy t, i + 1 => by simpa using Vl.cons _ _ _ _ hy (Vl.take t i)
theorem Vl.drop {κ : Kx} {w : World} : ∀ {vs : List Value} {xs : List AV} (_ : Vl κ w vs xs) (i : Nat), Vl κ w (vs.drop i) (xs.drop i)
  | _, _, h, 0 => by simpa using h
  | _, _, .nil, i + 1 => by simpa using Vl.nil
  | _, _, .cons v y vs xs hy t, i + 1 => by simpa using Vl.drop t i
theorem Vl.anys {κ : Kx} {w : World} : ∀ (vs : List Value), Vl κ w vs (List.replicate vs.length .any)
  | [] => .nil
  | v :: vs => .cons v .any vs _ (.any v) (Vl.anys vs)

theorem Vs.append {κ : Kx} {w : World} : ∀ {b o : Nat} {xs ys : List AV}, Vs κ w b o xs → Vs κ w b (o + xs.length) ys → Vs κ w b o (xs ++ ys)
  | _, _, _, _, .nil b o, k => by simpa using k
  | _, _, _, _, .cons b o u x xs hI hc hu ht, k => .cons b o u x _ hI hc hu (Vs.append ht (by simpa [Nat.add_assoc, Nat.add_comm 1] using k))
theorem Vs.left {κ : Kx} {w : World} : ∀ {b o : Nat} (xs : List AV) {ys : List AV}, Vs κ w b o (xs ++ ys) → Vs κ w b o xs
  | b, o, [], _, _ => .nil b o
  | _, _, x :: xs, _, .cons b o u _ _ hI hc hu ht => .cons b o u x xs hI hc hu (Vs.left xs ht)
theorem Vs.right {κ : Kx} {w : World} : ∀ {b o : Nat} (xs : List AV) {ys : List AV}, Vs κ w b o (xs ++ ys) → Vs κ w b (o + xs.length) ys
  | _, _, [], _, h => by simpa using h
  | _, _, x :: xs, ys, .cons b o u _ _ hI hc hu ht => by
    have := Vs.right xs ht
    simpa [Nat.add_assoc, Nat.add_comm 1] using this
theorem Vs.drop {κ : Kx} {w : World} {b o : Nat} {xs : List AV} (h : Vs κ w b o xs) (i : Nat) (hi : i ≤ xs.length) : Vs κ w b (o + i) (xs.drop i) := by
  have h' : Vs κ w b o (xs.take i ++ xs.drop i) := by rwa [List.take_append_drop]
  have := Vs.right _ h'
  rwa [List.length_take, Nat.min_eq_left hi] at this
/-- a cell of a row -/
theorem Vs.cell {κ : Kx} {w : World} : ∀ {b o : Nat} {xs : List AV} (_ : Vs κ w b o xs) (i : Nat) (x : AV), xs[i]? = some x → ∃ u, w.cell? ⟨b, o + i, none⟩ = some u ∧ V κ w u x
  | _, _, _, .nil b o, i, x, h => by simp at h
  | _, _, _, .cons b o u y xs hI hc hu ht, 0, x, h => by simp at h; subst h; exact ⟨u, hc, hu⟩
  | _, _, _, .cons b o u y xs hI hc hu ht, i + 1, x, h => by
    obtain ⟨u', h1, h2⟩ := Vs.cell ht i x (by simpa using h)
    exact ⟨u', by rw [← h1]; congr 2; omega, h2⟩
/-- the cells of a row, as a list -/
theorem Vs.row {κ : Kx} {w : World} : ∀ {b o : Nat} {xs : List AV}, Vs κ w b o xs → ∃ us : List Value, Vl κ w us xs ∧ us.length = xs.length ∧ ∀ i u, us[i]? = some u → w.cell? ⟨b, o + i, none⟩ = some u
  | _, _, _, .nil b o => ⟨[], .nil, rfl, fun i u h => by simp at h⟩
  | _, _, _, .cons b o u y xs hI hc hu ht => by
    obtain ⟨us, h1, h2, h3⟩ := Vs.row ht
    refine ⟨u :: us, .cons _ _ _ _ hu h1, by simp [h2], fun i v h => ?_⟩
    cases i with
    | zero => simp at h; subst h; exact hc
    | succ i => rw [← h3 i v (by simpa using h)]; congr 2; omega
/-- a row, out of cells that never change -/
theorem Vs.mk {κ : Kx} {w : World} : ∀ {b o : Nat} {us : List Value} {xs : List AV}, Vl κ w us xs → (∀ i u, us[i]? = some u → κ.I b (o + i) ∧ w.cell? ⟨b, o + i, none⟩ = some u) → Vs κ w b o xs
  | b, o, _, _, .nil, _ => .nil b o
  | b, o, _, _, .cons v x vs xs h t, hc => by
    have h0 := hc 0 v (by simp)
    exact .cons b o v x xs h0.1 h0.2 h (Vs.mk t (fun i u hi => by
      have := hc (i + 1) u (by simpa using hi)
      rwa [show o + (i + 1) = o + 1 + i by omega] at this))

/-- a value's cells -/
theorem V.cells {κ : Kx} {w : World} {v : Value} {x : AV} (h : V κ w v x) (hx : x ≠ .any) : Vl κ w v.cells.toList x.cells := by
  cases h <;> first
    | exact absurd rfl hx
    | (rename_i h; exact h)
    | exact .cons _ _ _ _ (by constructor <;> assumption) .nil

theorem V.weak {κ : Kx} {w : World} {v : Value} {xs : List AV} {g : Ver} (h : V κ w v (.sl xs g)) : V κ w v (.sl xs .none) := by
  cases h with
  | slnil g hg => exact .slnil _ (.inr (.inl rfl))
  | slz a => exact .slz a _ (.inl rfl)
  | sl b o cap k xs hk hc h => exact .sl b o cap k xs hk hc h
  | tip o cap g xs hk hc hg he hr h => exact .sl _ o cap _ xs hk hc h

end Go.VL

/- The value logic, part B: what is owned, the relation to a memory, the instructions and what each comes to. -/
namespace Go.VL

/-- What a name owns: a row of cells; the room behind a slice's end (elements of k cells); a map's entries, when each was put, and the next such time; a walk over a map; a walk over a text. -/
inductive Res where
  | obj (cs : List AV)
  | tip (k : Nat)
  | map (es : List (AV × AV)) (ts : List Nat) (clk : Nat)
  | iter (m : Option Nat) (since : Nat) (seen : List Nat) (last : Nat)
  | siter (s : ByteArray) (pos : Nat)

structure St where
  next : Nat
  res : Nat → Option Res

def St.set (σ : St) (n : Nat) (r : Res) : St := { σ with res := fun m => if m = n then some r else σ.res m }
def St.del (σ : St) (n : Nat) : St := { σ with res := fun m => if m = n then none else σ.res m }
def St.up (σ : St) (k : Nat) : St := { σ with next := σ.next + k }

@[simp] theorem St.set_next (σ : St) (n : Nat) (r : Res) : (σ.set n r).next = σ.next := rfl
@[simp] theorem St.del_next (σ : St) (n : Nat) : (σ.del n).next = σ.next := rfl
@[simp] theorem St.up_next (σ : St) (k : Nat) : (σ.up k).next = σ.next + k := rfl
@[simp] theorem St.up_res (σ : St) (k : Nat) : (σ.up k).res = σ.res := rfl
@[simp] theorem St.set_same (σ : St) (n : Nat) (r : Res) : (σ.set n r).res n = some r := by simp [St.set]
theorem St.set_other (σ : St) {n m : Nat} (r : Res) (h : m ≠ n) : (σ.set n r).res m = σ.res m := by simp [St.set, h]
@[simp] theorem St.set_set (σ : St) (n : Nat) (r s : Res) : (σ.set n r).set n s = σ.set n s := by
  simp only [St.set]; congr 1; funext m; by_cases h : m = n <;> simp [h]
theorem St.set_self {σ : St} {n : Nat} {r : Res} (h : σ.res n = some r) : σ.set n r = σ := by
  cases σ; simp only [St.set, St.mk.injEq, true_and]; funext m; by_cases hm : m = n
  · subst hm; simp at h ⊢; exact h.symm
  · simp [hm]
theorem St.set_comm (σ : St) {n m : Nat} (r s : Res) (h : n ≠ m) : (σ.set n r).set m s = (σ.set m s).set n r := by
  simp only [St.set]; congr 1; funext i; by_cases h1 : i = n <;> by_cases h2 : i = m <;> simp_all

inductive X where
  | t (i : Nat)
  | c (v : AV)

def ev (ρ : List AV) : X → AV
  | .t i => ρ.getD i .any
  | .c v => v

/-- How a slice that is made is kept: as a value; as a value whose room is owned; as a row that is owned; as one without any room; as room alone. -/
inductive Hold where
  | val | tip | own | zero | room

inductive I where
  | mv (x : X)
  | pick (c a b : X)
  | box (x : X)
  | alloc (z : List AV)
  | build (z : List AV) (parts : List (Nat × Nat × X))
  | bslice (k : Nat) (h : Hold) (parts : List X)
  | load (k : Option Nat) (x : X)
  | store (k : Nat) (a x : X)
  | nilCheck (x : X)
  | bin (op : BinOp) (k : IntKind) (x y : X)
  | sbin (op : BinOp) (x y : X)
  | bbin (neg : Bool) (x y : X)
  | eqI (neg lit : Bool) (ts : List (Nat × IntKind)) (x y : X)
  | eqP (neg : Bool) (x y : X)
  | eqA (neg : Bool) (n : Nat) (x y : X)
  | not (x : X)
  | un (op : UnOp) (k : IntKind) (x : X)
  | conv (k : IntKind) (x : X)
  | convBS (x : X)
  | convSB (h : Hold) (x : X)
  | mkI (t : Nat) (x : X)
  | mkF (f : Nat) (first captured : List X)
  | mkMap
  | mkS (k bytes : Nat) (h : Hold) (z : AV) (len cap : X)
  | slice (k : Nat) (x : X) (lo hi : Option X)
  | sslice (x : X) (lo hi : Option X)
  | faddr (off : Nat) (x : X)
  | fld (off : Nat) (k : Option Nat) (x : X)
  | iaddr (k : Nat) (x i : X)
  | iaddrA (n k : Nat) (x i : X)
  | idxS (x i : X)
  | look (kk : Nat) (z : AV) (ok : Bool) (m k : X)
  | mapUp (kk : Nat) (m k v : X)
  | ext (x : X) (i : Nat)
  | len (x : X)
  | slen (x : X)
  | mlen (x : X)
  | app (k bytes : Nat) (h : Hold) (s x : X)
  | eqS (neg : Bool) (x : X)
  | qload (c : Nat) (k : Option Nat) (x : X)
  | appZ (k bytes : Nat) (z : AV) (s n : X)
  | cvt (x : X)
  | cap (x : X)
  | panic
  | copy (k : Nat) (d s : X)
  | range (x : X)
  | srange (x : X)
  | next (x : X)
  | snext (x : X)
  | entry (x : X)
  | del (kk : Nat) (m k : X)
  | mn (xs : List X)
  | mx (xs : List X)
  | call (f : Nat) (args : List X)
  | callv (x : X) (args : List X)
  | qcall (f : Nat) (args : List X)
  | qcallv (x : X) (args : List X)

structure O where
  dst : Option Nat
  i : I
  g : Option (Nat × Bool)

inductive C where
  | skip
  | reg (ops : List O)
  | seq (a b : C)
  | cond (x : X) (a b : C)
  | block (id : Nat) (c : C)
  | loop (c : C)
  | exit (id : Nat)
  | ret

/-! ### What the instructions come to -/

def ldc (cs : List AV) (off : Nat) : Option Nat → Option AV
  | none => cs[off]?
  | some k => if off + k ≤ cs.length then some (.agg ((cs.drop off).take k)) else none

def splice (cs : List AV) (off : Nat) (ys : List AV) : List AV := cs.take off ++ ys ++ cs.drop (off + ys.length)

def AV.er1 : AV → AV
  | .sl xs _ => .sl xs .none
  | x => x
/-- an element: what is known of rooms is dropped -/
def AV.er : AV → AV
  | .agg cs => .agg (cs.map AV.er1)
  | x => x.er1

/-- bytes -/
def bytesAV (l : List UInt8) : List AV := l.map fun b => .int .u8 b.toNat
def toBytes : List AV → Option (List UInt8)
  | [] => some []
  | .int .u8 n :: r => (toBytes r).map (UInt8.ofNat n.toNat :: ·)
  | _ => none

def AV.isAny : AV → Bool
  | .any => true
  | _ => false

/-- what one cell of memory may hold -/
def AV.one : AV → Bool
  | .any | .agg _ | .tup _ => false
  | _ => true
/-- a value of k cells -/
def AV.fits (k : Nat) (x : AV) : Bool := !x.isAny && x.cells.length == k && x.cells.all AV.one

def binv (op : BinOp) (k : IntKind) (a : Int) (k' : IntKind) (b : Int) : Option AV :=
  match op with
  | .shl => if b < 0 then none else some (.int k (k.wrap (a * 2 ^ min b.toNat k.bits)))
  | .shr => if b < 0 then none else some (.int k (a.fdiv (2 ^ min b.toNat k.bits)))
  | _ => if k = k' then
    match op with
    | .add => some (.int k (k.wrap (a + b)))
    | .sub => some (.int k (k.wrap (a - b)))
    | .mul => some (.int k (k.wrap (a * b)))
    | .quo => if b = 0 then none else some (.int k (k.wrap (a.tdiv b)))
    | .rem => if b = 0 then none else some (.int k (a.tmod b))
    | .and => some (.int k (k.wrap (BitVec.ofInt k.bits a &&& BitVec.ofInt k.bits b).toNat))
    | .or => some (.int k (k.wrap (BitVec.ofInt k.bits a ||| BitVec.ofInt k.bits b).toNat))
    | .xor => some (.int k (k.wrap (BitVec.ofInt k.bits a ^^^ BitVec.ofInt k.bits b).toNat))
    | .andNot => some (.int k (k.wrap (BitVec.ofInt k.bits a &&& ~~~ BitVec.ofInt k.bits b).toNat))
    | .eql => some (.bool (a == b))
    | .neq => some (.bool (a != b))
    | .lss => some (.bool (decide (a < b)))
    | .leq => some (.bool (decide (a ≤ b)))
    | .gtr => some (.bool (decide (a > b)))
    | .geq => some (.bool (decide (a ≥ b)))
    | _ => none
  else none

def sbinv (op : BinOp) (a b : ByteArray) : Option AV :=
  match op with
  | .add => if ((a.size + b.size : Nat) : Int) > IntKind.i64.max then none else some (.str (a ++ b))
  | .eql => some (.bool (decide (a = b)))
  | .neq => some (.bool !(decide (a = b)))
  | .lss => some (.bool (Op.bytesLess a.toList b.toList))
  | .leq => some (.bool (Op.bytesLess a.toList b.toList || a.toList == b.toList))
  | .gtr => some (.bool !(Op.bytesLess a.toList b.toList || a.toList == b.toList))
  | .geq => some (.bool !(Op.bytesLess a.toList b.toList))
  | _ => none

/-- '==' of two interface values: nil, or of one of the listed types of whole numbers -/
def eqIv (lit : Bool) (ts : List (Nat × IntKind)) : AV → AV → Option Bool
  | .nili, .nili => if lit then some true else none
  | .nili, .iface _ _ | .iface _ _, .nili => some false
  | .iface t (.int k a), .iface t' (.int k' b) => if t = t' then (if k = k' && ts.any (fun p => p.1 == t && p.2 == k) then some (a == b) else none) else some false
  | .iface t _, .iface t' _ => if t = t' then none else some false
  | _, _ => none

def eqPv : AV → AV → Option Bool
  | .nilp, .nilp => some true
  | .nilp, .ptr _ _ | .ptr _ _, .nilp => some false
  | .ptr n a, .ptr m b => if n = m then some (a == b) else none
  | _, _ => none

/-- '==' of two rows of numbers, bools and texts -/
def eqAv : List AV → List AV → Option Bool
  | [], [] => some true
  | .int k a :: x, .int k' b :: y => if k = k' then (eqAv x y).map fun r => a == b && r else none
  | .bool a :: x, .bool b :: y => (eqAv x y).map fun r => a == b && r
  | .str a :: x, .str b :: y => (eqAv x y).map fun r => decide (a = b) && r
  | _, _ => none

/-- '==' of two keys of a map -/
def keq : AV → AV → Option Bool
  | .int k a, .int k' b => if k = k' then some (a == b) else none
  | .str a, .str b => some (decide (a = b))
  | .agg a, .agg b => eqAv a b
  | _, _ => none

def kshape : Nat → AV → Bool
  | 0, .int _ _ => true
  | 1, .str _ => true
  | 2, .agg _ => true
  | _, _ => false

def mfind (k : AV) : List (AV × AV) → Option (Option AV)
  | [] => some none
  | e :: es => match keq k e.1 with
    | some true => some (some e.2)
    | some false => mfind k es
    | none => none

def mput (k v : AV) : List (AV × AV) → List (AV × AV)
  | [] => [(k, v)]
  | e :: es => match keq k e.1 with
    | some true => (k, v) :: es
    | _ => e :: mput k v es

def midx (k : AV) : List (AV × AV) → Nat
  | [] => 0
  | e :: es => match keq k e.1 with
    | some true => 0
    | _ => midx k es + 1

def mdel (k : AV) : List (AV × AV) → List (AV × AV)
  | [] => []
  | e :: es => match keq k e.1 with
    | some true => es
    | _ => e :: mdel k es

def idx (ρ : List AV) (d : Int) : Option X → Option Int
  | none => some d
  | some x => match ev ρ x with
    | .int _ n => some n
    | _ => none

def mn2 : AV → AV → Option AV
  | .int k x, .int _ y => some (.int k (if y < x then y else x))
  | _, _ => none
def mx2 : AV → AV → Option AV
  | .int k x, .int _ y => some (.int k (if y > x then y else x))
  | _, _ => none

def fillA (ρ : List AV) : List AV → List (Nat × Nat × X) → Option (List AV)
  | cs, [] => some cs
  | cs, (off, k, x) :: r =>
    if (ev ρ x).fits k ∧ off + k ≤ cs.length then fillA ρ (splice cs off (ev ρ x).cells) r else none

/-- what is appended -/
def srcOf (σ : St) (k : Nat) : AV → Option (List AV)
  | .sl ys _ => some (ys.map AV.er)
  | .str t => some (bytesAV t.data.toList)
  | .ref n off len => match σ.res n with
    | some (.obj cs) => if k = 1 ∧ off + len ≤ cs.length ∧ ((cs.drop off).take len).all AV.one = true then some (((cs.drop off).take len).map AV.er1) else none
    | _ => none
  | _ => none

def Ver.noRoom : Ver → Bool
  | .nil | .zero => true
  | _ => false

abbrev CallP := Nat → List AV → St → (AV → St → Prop) → Prop

def opt {α : Type} (K : α → Prop) : Option α → Prop
  | some v => K v
  | none => False

def held (k nm : Nat) (σ : St) (K : AV → St → Prop) (xs : List AV) : Hold → Prop
  | .val => K (.sl (xs.map AV.er) .none) σ
  | .tip => K (.sl (xs.map AV.er) (.tip nm)) (σ.set nm (.tip k))
  | .own => K (.ref nm 0 xs.length) (σ.set nm (.obj (xs.flatMap AV.cells)))
  | .zero => False
  | .room => K (.room nm xs.length) (σ.set nm (.tip k))

def astep (CP : CallP) (nm : Nat) (ρ : List AV) (σ : St) (K : AV → St → Prop) : I → Prop
  | .mv x => K (ev ρ x) σ
  | .pick c a b => match ev ρ c with
    | .bool t => K (if t then ev ρ a else ev ρ b) σ
    | _ => False
  | .box x => if (ev ρ x).isAny then False else K (.ptr nm 0) (σ.set nm (.obj (ev ρ x).cells))
  | .alloc z => K (.ptr nm 0) (σ.set nm (.obj z))
  | .build z parts => opt (fun v => K v σ) ((fillA ρ z parts).map .agg)
  | .bslice k h parts => match h with
    | .zero => if parts.isEmpty then K (.sl [] .zero) σ else False
    | h => if (parts.map (ev ρ)).all (AV.fits k) then held k nm σ K (parts.map (ev ρ)) h else False
  | .load k x => match ev ρ x with
    | .ptr n off => match σ.res n with
      | some (.obj cs) => opt (fun v => K v σ) (ldc cs off k)
      | _ => False
    | .eptr cs => opt (fun v => K v σ) (ldc cs 0 k)
    | _ => False
  | .store k a x => match ev ρ a with
    | .ptr n off => match σ.res n with
      | some (.obj cs) => if (ev ρ x).fits k && decide (off + k ≤ cs.length) then K (.tup []) (σ.set n (.obj (splice cs off (ev ρ x).cells))) else False
      | _ => False
    | _ => False
  | .nilCheck x => match ev ρ x with
    | .ptr n off => K (.ptr n off) σ
    | .eptr cs => K (.eptr cs) σ
    | _ => False
  | .bin op k x y => match ev ρ x, ev ρ y with
    | .int k1 a, .int k2 b => if k1 = k then opt (fun v => K v σ) (binv op k a k2 b) else False
    | _, _ => False
  | .sbin op x y => match ev ρ x, ev ρ y with
    | .str a, .str b => opt (fun v => K v σ) (sbinv op a b)
    | _, _ => False
  | .bbin neg x y => match ev ρ x, ev ρ y with
    | .bool a, .bool b => K (.bool ((a == b) != neg)) σ
    | _, _ => False
  | .eqI neg lit ts x y => match eqIv lit ts (ev ρ x) (ev ρ y) with
    | some b => K (.bool (b != neg)) σ
    | none => False
  | .eqP neg x y => match eqPv (ev ρ x) (ev ρ y) with
    | some b => K (.bool (b != neg)) σ
    | none => False
  | .eqA neg n x y => match ev ρ x, ev ρ y with
    | .agg a, .agg b => if a.length = n then match eqAv a b with
        | some r => K (.bool (r != neg)) σ
        | none => False
      else False
    | _, _ => False
  | .not x => match ev ρ x with
    | .bool b => K (.bool !b) σ
    | _ => False
  | .un op k x => match ev ρ x with
    | .int k1 a => if k1 = k then match op with
        | .neg => K (.int k (k.wrap (0 - a))) σ
        | .xor => opt (fun v => K v σ) (binv .xor k (if k.signed then -1 else k.max) k a)
        | _ => False
      else False
    | _ => False
  | .conv k x => match ev ρ x with
    | .int _ n => K (.int k (k.wrap n)) σ
    | _ => False
  | .convBS x => match ev ρ x with
    | .sl xs _ => opt (fun bs => K (.str ⟨bs.toArray⟩) σ) (toBytes xs)
    | .ref n off len => match σ.res n with
      | some (.obj cs) => if off + len ≤ cs.length then opt (fun bs => K (.str ⟨bs.toArray⟩) σ) (toBytes ((cs.drop off).take len)) else False
      | _ => False
    | _ => False
  | .convSB h x => match ev ρ x with
    | .str s => held 1 nm σ K (bytesAV s.data.toList) h
    | _ => False
  | .mkI t x => K (.iface t (ev ρ x)) σ
  | .mkF f first captured => K (.func f (first.map (ev ρ)) (captured.map (ev ρ))) σ
  | .mkMap => K (.map nm) (σ.set nm (.map [] [] 0))
  | .mkS k bytes h z len cap => match ev ρ len, ev ρ cap with
    | .int _ l, .int _ c => if 0 ≤ l ∧ l ≤ c ∧ c * bytes ≤ 140737488355328 ∧ c ≤ 9223372036854775807 ∧ z.fits k = true ∧ c = l then held k nm σ K (List.replicate l.toNat z) h else False
    | _, _ => False
  | .slice k x lo hi => match ev ρ x with
    | .sl xs g => match idx ρ 0 lo, idx ρ xs.length hi with
      | some l, some h => if 0 ≤ l ∧ l ≤ h ∧ h ≤ xs.length ∧ xs.all (AV.fits k) = true then
          K (.sl ((xs.drop l.toNat).take (h - l).toNat) (if h = xs.length ∧ (l = 0 ∨ l < h) then g else .none)) σ else False
      | _, _ => False
    | .ref n off len => match idx ρ 0 lo, idx ρ len hi with
      | some l, some h => if 0 ≤ l ∧ l ≤ h ∧ h ≤ len then K (if l = h then .sl [] .none else .ref n (off + l.toNat * k) (h - l).toNat) σ else False
      | _, _ => False
    | .room g n => match idx ρ 0 lo, idx ρ n hi with
      | some l, some h => if l = 0 ∧ h = 0 then K (.sl [] (.tip g)) σ else False
      | _, _ => False
    | _ => False
  | .sslice x lo hi => match ev ρ x with
    | .str s => match idx ρ 0 lo, idx ρ s.size hi with
      | some l, some h => if 0 ≤ l ∧ l ≤ h ∧ h ≤ s.size then K (.str (s.extract l.toNat h.toNat)) σ else False
      | _, _ => False
    | _ => False
  | .faddr off x => match ev ρ x with
    | .ptr n o => K (.ptr n (o + off)) σ
    | .eptr cs => K (.eptr (cs.drop off)) σ
    | _ => False
  | .fld off k x => match ev ρ x with
    | .agg cs => opt (fun v => K v σ) (ldc cs off k)
    | _ => False
  | .iaddr k x i => match ev ρ x, ev ρ i with
    | .sl xs _, .int _ n => if 0 ≤ n ∧ n < xs.length then match xs[n.toNat]? with
        | some y => if y.cells.length = k then K (.eptr y.cells) σ else False
        | none => False
      else False
    | .ref m off len, .int _ n => if 0 ≤ n ∧ n < len then K (.ptr m (off + n.toNat * k)) σ else False
    | _, _ => False
  | .iaddrA len k x i => match ev ρ x, ev ρ i with
    | .ptr m off, .int _ n => if 0 ≤ n ∧ n < len then K (.ptr m (off + n.toNat * k)) σ else False
    | _, _ => False
  | .idxS x i => match ev ρ x, ev ρ i with
    | .str s, .int _ n => if 0 ≤ n ∧ n < s.size then match s.data.toList[n.toNat]? with
        | some b => K (.int .u8 b.toNat) σ
        | none => False
      else False
    | _, _ => False
  | .look kk z ok m k => match ev ρ m with
    | .nilm => K (if ok then .tup [z, .bool false] else z) σ
    | .map n => match σ.res n with
      | some (.map es _ _) => if kshape kk (ev ρ k) then match mfind (ev ρ k) es with
        | some (some v) => K (if ok then .tup [v, .bool true] else v) σ
        | some none => K (if ok then .tup [z, .bool false] else z) σ
        | none => False
        else False
      | _ => False
    | _ => False
  | .mapUp kk m k v => match ev ρ m with
    | .map n => match σ.res n with
      | some (.map es ts clk) => if kshape kk (ev ρ k) then match mfind (ev ρ k) es with
        | some (some _) => K (.tup []) (σ.set n (.map (mput (ev ρ k) (ev ρ v) es) ts clk))
        | some none => K (.tup []) (σ.set n (.map (mput (ev ρ k) (ev ρ v) es) (ts ++ [clk]) (clk + 1)))
        | none => False
        else False
      | _ => False
    | _ => False
  | .ext x i => match ev ρ x with
    | .tup xs => opt (fun v => K v σ) (xs[i]?)
    | _ => False
  | .len x => match ev ρ x with
    | .sl xs _ => K (.int .i64 xs.length) σ
    | .ref _ _ n => K (.int .i64 n) σ
    | _ => False
  | .slen x => match ev ρ x with
    | .str s => K (.int .i64 s.size) σ
    | _ => False
  | .mlen x => match ev ρ x with
    | .nilm => K (.int .i64 0) σ
    | .map n => match σ.res n with
      | some (.map es _ _) => K (.int .i64 es.length) σ
      | _ => False
    | _ => False
  | .app k bytes hd s x => match ev ρ s with
    | .sl xs g =>
      match srcOf σ k (ev ρ x) with
      | some ys =>
        if (xs ++ ys).all (AV.fits k) && decide ((xs.length + ys.length) * bytes ≤ 70368744177664 ∧ xs.length + ys.length ≤ 4611686018427387904) then
          match g with
          | .nil => match hd with
            | .own => if ys.isEmpty then K (.sl [] .nil) σ else K (.ref nm 0 ys.length) (σ.set nm (.obj (ys.flatMap AV.cells)))
            | .room => if ys.isEmpty then K (.sl [] .nil) σ else K (.room nm ys.length) (σ.set nm (.tip k))
            | _ => K (.sl (xs ++ ys) (if ys.isEmpty then .nil else .tip nm)) (if ys.isEmpty then σ else σ.set nm (.tip k))
          | .zero => match hd with
            | .own => if ys.isEmpty then K (.sl [] .zero) σ else K (.ref nm 0 ys.length) (σ.set nm (.obj (ys.flatMap AV.cells)))
            | .room => if ys.isEmpty then K (.sl [] .zero) σ else K (.room nm ys.length) (σ.set nm (.tip k))
            | _ => K (.sl (xs ++ ys) (if ys.isEmpty then .zero else .tip nm)) (if ys.isEmpty then σ else σ.set nm (.tip k))
          | .tip h => match σ.res h with
            | some (.tip k') => if k' = k then K (.sl (xs ++ ys) (.tip nm)) ((σ.del h).set nm (.tip k)) else False
            | _ => False
          | .none => False
        else False
      | none => False
    | _ => False
  | .del kk m k => match ev ρ m with
    | .map n => match σ.res n with
      | some (.map es ts clk) => if kshape kk (ev ρ k) then match mfind (ev ρ k) es with
        | some (some _) => K (.tup []) (σ.set n (.map (mdel (ev ρ k) es) (ts.eraseIdx (midx (ev ρ k) es)) clk))
        | some none => K (.tup []) σ
        | none => False
        else False
      | _ => False
    | _ => False
  | .eqS neg x => match ev ρ x with
    | .sl _ .nil => K (.bool (true != neg)) σ
    | .sl xs _ => if xs.isEmpty then (∀ b, K (.bool b) σ) else K (.bool (false != neg)) σ
    | .ref _ _ _ => K (.bool (false != neg)) σ
    | .room _ _ => K (.bool (false != neg)) σ
    | _ => False
  | .qload c k x => match ev ρ x with
    | .ptr n off => if n + c < nm then (match σ.res n with
      | some (.obj cs) => opt (fun v => K v σ) (ldc cs off k)
      | _ => False) else False
    | .eptr cs => opt (fun v => K v σ) (ldc cs 0 k)
    | _ => False
  | .appZ k bytes z s x => match ev ρ s, ev ρ x with
    | .sl [] g, .int _ n => if g.noRoom = true ∧ 0 < n ∧ n * bytes ≤ 70368744177664 ∧ n ≤ 4611686018427387904 ∧ z.fits k = true then K (.room nm n.toNat) (σ.set nm (.tip k)) else False
    | _, _ => False
  | .cvt x => match ev ρ x with
    | .ref n off len => match σ.res n with
      | some (.obj _) => K (.ref n off len) σ
      | _ => False
    | _ => False
  | .cap x => match ev ρ x with
    | .sl _ .nil => K (.int .i64 0) σ
    | .sl _ .zero => K (.int .i64 0) σ
    | _ => False
  | .panic => False
  | .copy k d s => match ev ρ d with
    | .ref n off len => match σ.res n with
      | some (.obj cs) => match srcOf σ k (ev ρ s) with
        | some ys => if ys.all (AV.fits k) && decide (off + len * k ≤ cs.length) then
            K (.int .i64 (min ys.length len : Nat)) (σ.set n (.obj (splice cs off ((ys.take len).flatMap AV.cells)))) else False
        | none => False
      | _ => False
    | .sl xs _ => match srcOf σ k (ev ρ s) with
      | some ys => if xs.isEmpty && ys.all (AV.fits k) then K (.int .i64 0) σ else False
      | none => False
    | _ => False
  | .range x => match ev ρ x with
    | .nilm => K (.ptr nm 0) (σ.set nm (.iter none 0 [] 0))
    | .map n => match σ.res n with
      | some (.map _ _ clk) => K (.ptr nm 0) (σ.set nm (.iter (some n) clk [] clk))
      | _ => False
    | _ => False
  | .srange x => match ev ρ x with
    | .str s => K (.ptr nm 0) (σ.set nm (.siter s 0))
    | _ => False
  | .next x => match ev ρ x with
    | .ptr it 0 => match σ.res it with
      | some (.iter none _ _ _) => K (.tup [.bool false]) σ
      | some (.iter (some m) since seen last) => match σ.res m with
        | some (.map es ts clk) => if since = clk ∧ last = clk then
            (∀ (i : Nat) (p : AV × AV) (t : Nat), es[i]? = some p → ts[i]? = some t → t ∉ seen → K (.tup [.bool true, p.1, p.2]) (σ.set it (.iter (some m) since (seen ++ [t]) clk))) ∧
            ((∀ t ∈ ts, t ∈ seen) → K (.tup [.bool false]) σ) else False
        | _ => False
      | _ => False
    | _ => False
  | .snext x => match ev ρ x with
    | .ptr it 0 => match σ.res it with
      | some (.siter s pos) => if pos < s.size then K (.tup [.bool true, .int .i64 pos, .int .i32 (Utf8.decode s pos).1]) (σ.set it (.siter s (pos + (Utf8.decode s pos).2)))
          else K (.tup [.bool false]) σ
      | _ => False
    | _ => False
  | .entry x => match ev ρ x with
    | .ptr it 0 => match σ.res it with
      | some (.iter (some m) _ seen last) => match σ.res m with
        | some (.map es ts clk) => if last = clk then ∃ (i : Nat) (p : AV × AV) (t : Nat), seen.getLast? = some t ∧ ts[i]? = some t ∧ es[i]? = some p ∧ K (.tup [p.1, p.2]) σ else False
        | _ => False
      | _ => False
    | _ => False
  | .mn xs => match xs.map (ev ρ) with
    | [] => False
    | y :: r => opt (fun v => K v σ) (r.foldlM mn2 y)
  | .mx xs => match xs.map (ev ρ) with
    | [] => False
    | y :: r => opt (fun v => K v σ) (r.foldlM mx2 y)
  | .call f args => CP f (args.map (ev ρ)) σ K
  | .callv x args => match ev ρ x with
    | .func f first captured => CP f (first ++ args.map (ev ρ) ++ captured) σ K
    | _ => False
  | .qcall f args => ∃ v, CP f (args.map (ev ρ)) σ (fun v' σ' => v' = v ∧ σ' = σ) ∧ K v σ
  | .qcallv x args => match ev ρ x with
    | .func f first captured => ∃ v, CP f (first ++ args.map (ev ρ) ++ captured) σ (fun v' σ' => v' = v ∧ σ' = σ) ∧ K v σ
    | _ => False

def setd (ρ : List AV) (v : AV) : Option Nat → List AV
  | some d => ρ.set d v
  | none => ρ

def aops (CP : CallP) (base : Nat) : Nat → List O → List AV → St → (List AV → St → Prop) → Prop
  | _, [], ρ, σ, K => K ρ σ
  | i, o :: r, ρ, σ, K =>
    match o.g with
    | none => astep CP (base + i) ρ σ (fun v σ' => aops CP base (i + 1) r (setd ρ v o.dst) σ' K) o.i
    | some (t, b) => match ρ.getD t .any with
      | .bool c => (c = b → astep CP (base + i) ρ σ (fun v σ' => aops CP base (i + 1) r (setd ρ v o.dst) σ' K) o.i) ∧
          (c = !b → aops CP base (i + 1) r (setd ρ (.tup []) o.dst) σ K)
      | .tup [] => aops CP base (i + 1) r (setd ρ (.tup []) o.dst) σ K
      | _ => False

def I.names : I → Bool
  | .box _ | .alloc _ | .mkMap | .app .. | .appZ .. | .range _ | .srange _ => true
  | .bslice _ h _ | .convSB h _ | .mkS _ _ h _ _ _ => match h with | .val | .zero => false | _ => true
  | _ => false
def namesOf (l : List O) : Nat := if l.any (fun o => o.i.names) then l.length else 0

inductive Ex where
  | normal
  | exit (id : Nat)
  | ret

end Go.VL

/- The value logic, part C: from the loaded code to the instructions. -/
namespace Go.VL

/-- What the maker of a text says of a function: how a slice made at (region, operation) is kept; which types of whole numbers errors are of. -/
structure Ann where
  hold : List (Nat × Nat × Hold) := []
  errs : List (Nat × IntKind) := []
  chk : List (Nat × Nat) := []
  full : List (Nat × Nat) := []

/-- is a call told to be a quiet one? (in a region that draws its order, but where the maker says that it stands in order with all else) -/
def Ann.quiet (A : Ann) (q : Bool) (r i : Nat) : Bool := q && !A.full.any (fun p => p.1 == r && p.2 == i)

def constAV : Value → Option AV
  | .bool b => some (.bool b)
  | .int k n => some (.int k n)
  | .string s => some (.str s)
  | .pointer none => some .nilp
  | .map none => some .nilm
  | .nilFunc => some .nilf
  | .nilIface => some .nili
  | .slice none 0 0 => some (.sl [] .nil)
  | _ => none
def constCs : List Value → Option (List AV)
  | [] => some []
  | v :: r => match constAV v, constCs r with
    | some x, some y => some (x :: y)
    | _, _ => none
/-- a constant, a struct's too -/
def constV : Value → Option AV
  | .agg ⟨cs⟩ => (constCs cs).map .agg
  | v => constAV v

def opX : Operand → Option X
  | .tmp t => some (.t t)
  | .const v => (constV v).map .c
  | .func f => some (.c (.func f [] []))
  | .global _ => none
def opXs : List Operand → Option (List X)
  | [] => some []
  | o :: r => match opX o, opXs r with
    | some x, some y => some (x :: y)
    | _, _ => none
def opXo : Option Operand → Option (Option X)
  | none => some none
  | some o => (opX o).map some

def isC : Operand → Bool
  | .const _ => true
  | _ => false

def nilC : Operand → Bool
  | .const (.slice none 0 0) => true
  | _ => false

/-- a type's cells, if it is a struct or an array -/
def kindOf (P : Program) (t : TypeId) : Option (Option Nat) :=
  match P.underlying t, P.info? t with
  | some (.struct _), some i => some (some i.size)
  | some (.array _ _), some i => some (some i.size)
  | some _, some i => if i.size = 1 then some none else none
  | _, _ => none

def sizeOf' (P : Program) (t : TypeId) : Option Nat := (P.info? t).map (·.size)
def zeroOf (P : Program) (t : TypeId) : Option AV := match P.info? t with
  | some i => match i.zero with
    | some z => constV z
    | none => none
  | none => none

def zlen (P : Program) (t : TypeId) : Option Nat := (zeroOf P t).map (·.cells.length)

def fieldOf (P : Program) (s : TypeId) (f : Nat) : Option Field := match P.underlying s with
  | some (.struct fs) => fs[f]?
  | _ => none

/-- where a struct's fields lie: (offset, cells) -/
def tabOf (P : Program) : List Field → Option (List (Nat × Nat))
  | [] => some []
  | f :: r => match sizeOf' P f.type, tabOf P r with
    | some k, some y => some ((f.offset, k) :: y)
    | _, _ => none
def placesOf (tab : List (Nat × Nat)) : List (Nat × Operand) → Option (List (Nat × Nat × X))
  | [] => some []
  | (i, o) :: r => match tab[i]?, opX o, placesOf tab r with
    | some f, some x, some y => some ((f.1, f.2, x) :: y)
    | _, _, _ => none

/-- the parts of a slice that is written out: all of them, in order -/
def partsOf : Nat → List (Nat × Operand) → Option (List X)
  | _, [] => some []
  | n, (i, o) :: r => if i = n then match opX o, partsOf (n + 1) r with
      | some x, some y => some (x :: y)
      | _, _ => none
    else none

def holdOf (A : Ann) (r i n : Nat) : Hold :=
  match A.hold.find? (fun p => p.1 == r && p.2.1 == i) with
  | some p => p.2.2
  | none => if n = 0 then .tip else .val

def holdMk (A : Ann) (r i : Nat) : Hold :=
  match A.hold.find? (fun p => p.1 == r && p.2.1 == i) with
  | some p => p.2.2
  | none => .own

def errsOk (P : Program) : List (Nat × IntKind) → Bool
  | [] => true
  | (t, k) :: r => (match P.underlying t, P.info? t with
    | some (.int k'), some i => k' == k && i.comparable
    | _, _ => false) && errsOk P r

def plainFields (P : Program) : List Field → Bool
  | [] => true
  | f :: r => f.name != "_" && (match P.underlying f.type with
    | some (.int _) | some .bool | some .string => true
    | _ => false) && plainFields P r

def holdApp (A : Ann) (r i : Nat) : Hold :=
  match A.hold.find? (fun p => p.1 == r && p.2.1 == i) with
  | some p => p.2.2
  | none => .tip

def keyKind (P : Program) (t : TypeId) : Option Nat :=
  match P.underlying t with
  | some (.int _) => some 0
  | some .string => some 1
  | _ => none

def compileCall (P : Program) (A : Ann) (q : Bool) (r i : Nat) (c : Call) : Option I :=
  match c.callee with
  | .builtin .len => match c.args.toList, c.argTypes.toList with
    | [x], t :: _ => match opX x, P.underlying t with
      | some x, some (.slice _) => some (.len x)
      | some x, some .string => some (.slen x)
      | some x, some (.map _ _) => some (.mlen x)
      | _, _ => none
    | _, _ => none
  | .builtin .append => match c.args.toList, c.argTypes.toList with
    | [s, x], [t, u] => match opX s, opX x, P.underlying t, P.underlying u with
      | some s, some x, some (.slice e), some (.slice _) => match P.info? e with
        | some ti => if 0 < ti.size ∧ 0 < ti.bytes ∧ zlen P e = some ti.size then some (.app ti.size ti.bytes (holdApp A r i) s x) else none
        | none => none
      | some s, some x, some (.slice e), some .string => match P.info? e with
        | some ti => if ti.size = 1 ∧ 0 < ti.bytes ∧ zlen P e = some ti.size then some (.app ti.size ti.bytes (holdApp A r i) s x) else none
        | none => none
      | some s, some x, some (.slice e), some (.int _) => match P.info? e, zeroOf P e with
        | some ti, some z => if 0 < ti.size ∧ 0 < ti.bytes ∧ z.cells.length = ti.size then some (.appZ ti.size ti.bytes z s x) else none
        | _, _ => none
      | _, _, _, _ => none
    | _, _ => none
  | .builtin .cap => match c.args.toList, c.argTypes.toList with
    | [x], t :: _ => match opX x, P.underlying t with
      | some x, some (.slice _) => some (.cap x)
      | _, _ => none
    | _, _ => none
  | .builtin .panic => some .panic
  | .builtin .copy => match c.args.toList, c.argTypes.toList with
    | [d, s], t :: _ => match opX d, opX s, P.underlying t with
      | some d, some s, some (.slice e) => (sizeOf' P e).map fun k => .copy k d s
      | _, _, _ => none
    | _, _ => none
  | .builtin .min => (opXs c.args.toList).map .mn
  | .builtin .max => (opXs c.args.toList).map .mx
  | .builtin .delete => match c.args.toList, c.argTypes.toList with
    | [m, k], t :: _ => match opX m, opX k, P.underlying t with
      | some m, some k, some (.map kt _) => (keyKind P kt).map fun kk => .del kk m k
      | _, _, _ => none
    | _, _ => none
  | .value (.func f) => match opXs c.args.toList with
    | some xs => some (if A.quiet q r i then .qcall f xs else .call f xs)
    | none => none
  | .value x => match opX x, opXs c.args.toList with
    | some x, some xs => some (if A.quiet q r i then .qcallv x xs else .callv x xs)
    | _, _ => none
  | _ => none

def compileOp (P : Program) (A : Ann) (q : Bool) (r i : Nat) (o : Oper) : Option I :=
  match o.op with
  | .move x | .assign x => (opX x).map .mv
  | .pick c a b => match opX c, opX a, opX b with
    | some c, some a, some b => some (.pick c a b)
    | _, _, _ => none
  | .box _ x => (opX x).map .box
  | .alloc t => (zeroOf P t).map fun z => .alloc z.cells
  | .build t parts => match zeroOf P t, P.underlying t with
    | some (.agg z), some (.struct fs) => match tabOf P fs.toList with
      | some tab => (placesOf tab parts.toList).map (.build z)
      | none => none
    | _, _ => none
  | .buildSlice t n parts => match P.underlying t with
    | some (.slice e) => match sizeOf' P e, zeroOf P e, partsOf 0 parts.toList with
      | some k, some _, some ps => if ps.length = n ∧ n * k ≤ 65536 then some (.bslice k (holdOf A r i n) ps) else none
      | _, _, _ => none
    | _ => none
  | .load t x => match kindOf P t, opX x with
    | some k, some x => some (if A.chk.any (fun p => p.1 == r && p.2 == i) then .qload i k x else .load k x)
    | _, _ => none
  | .store t a x => match sizeOf' P t, opX a, opX x with
    | some k, some a, some x => some (.store k a x)
    | _, _, _ => none
  | .nilCheck x => (opX x).map .nilCheck
  | .binOp op t x y _ => match opX x, opX y with
    | some x', some y' => match P.underlying t with
      | some (.int k) => some (.bin op k x' y')
      | some .string => some (.sbin op x' y')
      | some .bool => match op with
        | .eql => some (.bbin false x' y')
        | .neq => some (.bbin true x' y')
        | _ => none
      | some (.interface _) => if errsOk P A.errs then match op with
          | .eql => some (.eqI false (isC x || isC y) A.errs x' y')
          | .neq => some (.eqI true (isC x || isC y) A.errs x' y')
          | _ => none
        else none
      | some (.pointer e) => match sizeOf' P e, op with
        | some (_ + 1), .eql => some (.eqP false x' y')
        | some (_ + 1), .neq => some (.eqP true x' y')
        | _, _ => none
      | some (.slice _) => if q then none else match op, nilC y with
        | .eql, true => some (.eqS false x')
        | .neq, true => some (.eqS true x')
        | _, _ => none
      | _ => none
    | _, _ => none
  | .unOp op t x => match opX x, P.underlying t with
    | some x, some .bool => match op with
      | .not => some (.not x)
      | _ => none
    | some x, some (.int k) => match op with
      | .neg => some (.un .neg k x)
      | .xor => some (.un .xor k x)
      | _ => none
    | _, _ => none
  | .convert s d x => match opX x, P.underlying s, P.underlying d with
    | some x, some (.int _), some (.int k) => some (.conv k x)
    | some x, some (.slice e), some .string => match P.underlying e with
      | some (.int .u8) => some (.convBS x)
      | _ => none
    | some x, some (.slice _), some (.slice e) => match s == d, P.underlying e with
      | true, some (.int .u8) => some (.cvt x)
      | _, _ => none
    | some x, some .string, some (.slice e) => match P.underlying e with
      | some (.int .u8) => some (.convSB (holdOf A r i 0) x)
      | _ => none
    | _, _, _ => none
  | .makeInterface t x => match opX x, P.underlying t with
    | some _, some (.interface _) => none
    | some x, some _ => some (.mkI t x)
    | _, _ => none
  | .makeFunc (.func f) first captured => match opXs first.toList, opXs captured.toList with
    | some a, some b => some (.mkF f a b)
    | _, _ => none
  | .makeMap _ none => some .mkMap
  | .makeSlice t l c => match P.underlying t with
    | some (.slice e) => match P.info? e, zeroOf P e, opX l, opX c with
      | some ti, some z, some l, some c => if ti.size = z.cells.length ∧ 0 < ti.size then some (.mkS ti.size ti.bytes (holdMk A r i) z l c) else none
      | _, _, _, _ => none
    | _ => none
  | .slice t x lo hi none => match opX x, opXo lo, opXo hi with
    | some x, some lo, some hi => match P.underlying t with
      | some (.slice e) => (sizeOf' P e).map fun k => .slice k x lo hi
      | some .string => some (.sslice x lo hi)
      | _ => none
    | _, _, _ => none
  | .fieldAddr s x f => match fieldOf P s f, opX x with
    | some f, some x => match sizeOf' P f.type with
      | some (_ + 1) => some (.faddr f.offset x)
      | _ => none
    | _, _ => none
  | .field s x f => match fieldOf P s f, opX x with
    | some f, some x => match kindOf P f.type with
      | some k => some (.fld f.offset k x)
      | none => none
    | _, _ => none
  | .indexAddr t x j => match opX x, opX j, P.underlying t with
    | some x, some j, some (.slice e) => (sizeOf' P e).map fun k => .iaddr k x j
    | some x, some j, some (.array n e) => (sizeOf' P e).map fun k => .iaddrA n k x j
    | _, _, _ => none
  | .index t x j => match opX x, opX j, P.underlying t with
    | some x, some j, some .string => some (.idxS x j)
    | _, _, _ => none
  | .lookup t m k ok => match opX m, opX k, P.underlying t with
    | some m, some k, some (.map kt e) => match keyKind P kt, zeroOf P e with
      | some kk, some z => some (.look kk z ok m k)
      | _, _ => none
    | _, _, _ => none
  | .mapUpdate t m k v => match opX m, opX k, opX v, P.underlying t with
    | some m, some k, some v, some (.map kt _) => (keyKind P kt).map fun kk => .mapUp kk m k v
    | _, _, _, _ => none
  | .extract x j => (opX x).map fun x => .ext x j
  | .call c => compileCall P A q r i c
  | .panic _ => some .panic
  | .range t x => match opX x, P.underlying t with
    | some x, some (.map _ _) => some (.range x)
    | some x, some .string => some (.srange x)
    | _, _ => none
  | .next x st => match opX x with
    | some x => if q then none else some (if st then .snext x else .next x)
    | none => none
  | .entry x => match opX x with
    | some x => if q then none else some (.entry x)
    | none => none
  | _ => none

def compileOps (P : Program) (A : Ann) (q : Bool) (r : Nat) (all : Array Oper) : Nat → List Oper → Option (List O)
  | _, [] => some []
  | i, o :: rest =>
    match compileOp P A q r i o, compileOps P A q r all (i + 1) rest with
    | some x, some l => match o.guard with
      | none => some ({ dst := o.dst, i := x, g := none } :: l)
      | some (j, b) => match (all[j]?).bind (·.dst) with
        | some d => some ({ dst := o.dst, i := x, g := some (d, b) } :: l)
        | none => none
    | _, _ => none

/-! ### A region that draws its order -/

/-- 0: of its operands alone; 1: it reads what is owned; 2: it makes a name; 3: it writes; 4: a quiet call; 5: it reads what was owned ahead of the region; 6: it begins a walk. -/
def I.cat : I → Nat
  | .mv _ | .pick .. | .build .. | .nilCheck _ | .bin .. | .sbin .. | .bbin .. | .eqI .. | .eqP .. | .eqA .. | .not _ | .un .. | .conv .. | .mkI .. | .mkF ..
  | .slice .. | .sslice .. | .faddr .. | .fld .. | .len _ | .slen _ | .iaddr .. | .iaddrA .. | .idxS .. | .ext .. | .mn _ | .mx _ => 0
  | .bslice _ h _ => match h with | .val | .zero => 0 | _ => 2
  | .convSB h _ => match h with | .val => 0 | _ => 2
  | .mkS _ _ h _ _ _ => match h with | .val => 0 | _ => 2
  | .load .. | .look .. | .mlen _ | .convBS _ => 1
  | .cap _ => 0
  | .cvt _ => 3
  | .qload .. => 5
  | .range _ | .srange _ => 6
  | .box _ | .alloc _ | .mkMap => 2
  | .store .. | .mapUp .. | .app .. | .appZ .. | .del .. | .call .. | .callv .. | .eqS .. | .panic | .copy .. | .next _ | .snext _ | .entry _ => 3
  | .qcall .. | .qcallv .. => 4

def catOk (a b : Nat) : Bool := a == 0 || b == 0 || (a == 1 && b == 1) || (a == 1 && b == 4) || (a == 4 && b == 1) ||
  (a == 2 && b == 2) || (a == 5 && (b == 1 || b == 2 || b == 4 || b == 5)) || (b == 5 && (a == 1 || a == 2 || a == 4))

/-- a checked load knows its place -/
def I.placed (i : Nat) : I → Bool
  | .qload c _ _ => c == i
  | _ => true

def X.tmps : X → List Nat
  | .t i => [i]
  | .c _ => []
def Xo.tmps : Option X → List Nat
  | some x => x.tmps
  | none => []
def I.uses : I → List Nat
  | .mv x | .box x | .load _ x | .qload _ _ x | .cvt x | .nilCheck x | .not x | .un _ _ x | .conv _ x | .convBS x | .convSB _ x | .mkI _ x | .faddr _ x | .fld _ _ x | .ext x _ | .len x | .slen x | .mlen x | .eqS _ x | .cap x | .range x | .srange x | .next x | .snext x | .entry x => x.tmps
  | .pick a b c => a.tmps ++ b.tmps ++ c.tmps
  | .alloc _ | .mkMap | .panic => []
  | .build _ ps => ps.flatMap fun p => p.2.2.tmps
  | .bslice _ _ xs | .mn xs | .mx xs | .call _ xs | .qcall _ xs => xs.flatMap X.tmps
  | .store _ a x | .bin _ _ a x | .sbin _ a x | .bbin _ a x | .eqI _ _ _ a x | .eqP _ a x | .eqA _ _ a x | .iaddr _ a x | .iaddrA _ _ a x | .idxS a x | .look _ _ _ a x | .app _ _ _ a x | .appZ _ _ _ a x | .copy _ a x | .del _ a x => a.tmps ++ x.tmps
  | .mkF _ a b => a.flatMap X.tmps ++ b.flatMap X.tmps
  | .mkS _ _ _ _ a b => a.tmps ++ b.tmps
  | .slice _ x lo hi | .sslice x lo hi => x.tmps ++ Xo.tmps lo ++ Xo.tmps hi
  | .mapUp _ a b c => a.tmps ++ b.tmps ++ c.tmps
  | .callv x xs | .qcallv x xs => x.tmps ++ xs.flatMap X.tmps
def O.looks (o : O) : List Nat := o.i.uses ++ (match o.g with | some (t, _) => [t] | none => [])

def I.isCall : I → Bool
  | .call .. | .callv .. | .eqS .. | .next _ | .entry _ => true
  | _ => false

/-- neither sees the other -/
def indep (a b : O) : Bool :=
  !a.i.isCall && !b.i.isCall && catOk a.i.cat b.i.cat &&
  (match a.dst with | some d => !b.looks.contains d | none => true) && (match b.dst with | some d => !a.looks.contains d | none => true) &&
  (match a.dst, b.dst with | some d, some e => d != e | _, _ => true)

/-- which operations each one waits for, as bits -/
def masks : List Oper → List Nat → List Nat
  | [], acc => acc
  | o :: r, acc => masks r (acc ++ [o.after.toList.foldl (fun m e => if Region.binds .any e then m ||| (2 ^ e.on ||| acc.getD e.on 0) else m) 0])

def commOk (ops : Array Oper) (l : List O) : Bool :=
  (List.range ops.size).all fun i => (List.range i).all fun j => ((masks ops.toList []).getD i 0).testBit j || (match l[j]?, l[i]? with
    | some a, some b => indep a b && a.i.placed j && b.i.placed i
    | _, _ => false)

def backOk (ops : Array Oper) : Bool := (List.range ops.size).all fun i => match ops[i]? with
  | some o => o.after.all fun e => !Region.binds .any e || decide (e.on < i)
  | none => true

def compileC (P : Program) (A : Ann) : Code → Option C
  | .skip => some .skip
  | .region id ops draw => match compileOps P A draw id ops 0 ops.toList with
    | some l => if draw then (if commOk ops l && backOk ops then some (.reg l) else none) else some (.reg l)
    | none => none
  | .seq a b => match compileC P A a, compileC P A b with
    | some x, some y => some (.seq x y)
    | _, _ => none
  | .cond c a b => match opX c, compileC P A a, compileC P A b with
    | some x, some y, some z => some (.cond x y z)
    | _, _, _ => none
  | .block id c => (compileC P A c).map (.block id)
  | .loop c => (compileC P A c).map .loop
  | .exit id => some (.exit id)
  | .ret => some .ret
  | _ => none

end Go.VL

/- The value logic, part D: the relation between what is owned and a memory, and how it is kept. -/
namespace Go.VL

def fzOk (n : Nat) (fz : Nat × Nat) : Prop := fz.1 = fz.2 ∨ n ≤ fz.1

/-- entries of a map -/
inductive Vm (κ : Kx) (w : World) : List MapEntry → List (AV × AV) → Prop where
  | nil : Vm κ w [] []
  | cons (e : MapEntry) (p : AV × AV) (es : List MapEntry) (ps : List (AV × AV)) (hk : V κ w e.key p.1) (hv : V κ w e.val p.2) (t : Vm κ w es ps) : Vm κ w (e :: es) (p :: ps)

theorem Vm.mono {κ κ' : Kx} {w w' : World} (e : Ext κ w κ' w') : ∀ {es : List MapEntry} {ps : List (AV × AV)}, Vm κ w es ps → Vm κ' w' es ps
  | _, _, .nil => .nil
  | _, _, .cons a p es ps hk hv t => .cons a p es ps (hk.mono e) (hv.mono e) (t.mono e)

def Owns (κ : Kx) (w : World) (n : Nat) : Res → Prop
  | .obj cs => ∃ us rest t fz, w.heap[κ.φ n]? = some (.cells ⟨us ++ rest⟩ t fz) ∧ fzOk us.length fz ∧ Vl κ w us cs ∧ ∀ o, ¬ κ.I (κ.φ n) o
  | .tip k => κ.ξ n = k ∧ ∃ us t fz, w.heap[κ.φ n]? = some (.cells ⟨us⟩ t fz) ∧ fzOk us.length fz ∧ κ.χ n ≤ us.length ∧ ∀ o, κ.ψ n ≤ o → ¬ κ.I (κ.φ n) o
  | .map es ts clk => ∃ ents, w.heap[κ.φ n]? = some (.map ⟨ents⟩ clk) ∧ Vm κ w ents es ∧ (∀ o, ¬ κ.I (κ.φ n) o) ∧ ents.map (·.born) = ts ∧ ts.Nodup ∧ ∀ t ∈ ts, t < clk
  | .iter m since seen last => w.heap[κ.φ n]? = some (.mapIter (m.map κ.φ) since ⟨seen⟩ last) ∧ (∀ m', m = some m' → κ.dom m') ∧ ∀ o, ¬ κ.I (κ.φ n) o
  | .siter s pos => w.heap[κ.φ n]? = some (.stringIter s pos) ∧ ∀ o, ¬ κ.I (κ.φ n) o

structure R (B : Nat) (F : Nat → Prop) (κ : Kx) (w : World) (σ : St) : Prop where
  dom : ∀ n, κ.dom n → n < σ.next
  own : ∀ n r, σ.res n = some r → κ.dom n ∧ Owns κ w n r
  apart : ∀ n m r s, σ.res n = some r → σ.res m = some s → κ.φ n = κ.φ m → n = m
  imm : ∀ b o, κ.I b o → b < w.heap.size
  foot : ∀ n r, σ.res n = some r → F (κ.φ n) ∨ B ≤ κ.φ n

/-- all but the blocks of F is as it was -/
structure Fr (F : Nat → Prop) (w0 w : World) : Prop where
  os : w.os = w0.os
  tape : w.tape = w0.tape
  output : w.output = w0.output
  size : w0.heap.size ≤ w.heap.size
  block : ∀ b, b < w0.heap.size → ¬ F b → w.heap[b]? = w0.heap[b]?

theorem Fr.refl (F : Nat → Prop) (w : World) : Fr F w w := ⟨rfl, rfl, rfl, Nat.le_refl _, fun _ _ _ => rfl⟩

theorem cell_of {w : World} {b : Nat} {us : List Value} {t : TypeId} {fz : Nat × Nat} (h : w.heap[b]? = some (.cells ⟨us⟩ t fz)) (o : Nat) : w.cell? ⟨b, o, none⟩ = us[o]? := by
  simp [World.cell?, h]
theorem frozen_of {w : World} {b n : Nat} {us : List Value} {t : TypeId} {fz : Nat × Nat} (h : w.heap[b]? = some (.cells ⟨us⟩ t fz)) (hf : fzOk n fz) {o : Nat} (ho : o < n) : w.frozen? ⟨b, o, none⟩ = false := by
  simp only [World.frozen?, h, Bool.and_eq_false_iff, decide_eq_false_iff_not]
  obtain ⟨lo, hi⟩ := fz
  rcases hf with hf | hf
  · simp only at hf; subst hf
    rcases Nat.lt_or_ge o lo with hx | hx
    · exact .inl (by simp only; omega)
    · exact .inr (by simp only; omega)
  · simp only at hf; exact .inl (by simp only; omega)
theorem cell_same {w w' : World} {b : Nat} (h : w'.heap[b]? = w.heap[b]?) (o : Nat) : w'.cell? ⟨b, o, none⟩ = w.cell? ⟨b, o, none⟩ := by
  simp [World.cell?, h]

theorem Owns.keep {κ κ' : Kx} {w w' : World} {n : Nat} {r : Res} (h : Owns κ w n r) (e : Ext κ w κ' w') (hd : κ.dom n) (hb : w'.heap[κ.φ n]? = w.heap[κ.φ n]?)
    (hI : ∀ o, κ'.I (κ.φ n) o → κ.I (κ.φ n) o) : Owns κ' w' n r := by
  cases r with
  | obj cs =>
    obtain ⟨us, rest, t, fz, h1, h2, h3, h4⟩ := h
    exact ⟨us, rest, t, fz, by rw [e.φ n hd, hb, h1], h2, h3.mono e, fun o ho => h4 o (hI o (by rwa [e.φ n hd] at ho))⟩
  | tip k =>
    obtain ⟨h0, us, t, fz, h1, h2, h3, h4⟩ := h
    exact ⟨by rw [e.ξ n hd, h0], us, t, fz, by rw [e.φ n hd, hb, h1], h2, by rw [e.χ n hd]; exact h3, fun o hp ho => h4 o (by rwa [e.ψ n hd] at hp) (hI o (by rwa [e.φ n hd] at ho))⟩
  | map es ts clk =>
    obtain ⟨ents, h1, h2, h4, h5⟩ := h
    exact ⟨ents, by rw [e.φ n hd, hb, h1], h2.mono e, fun o ho => h4 o (hI o (by rwa [e.φ n hd] at ho)), h5⟩
  | iter m since seen last =>
    obtain ⟨h1, h2, h3⟩ := h
    refine ⟨?_, fun m' hm => e.dom m' (h2 m' hm), fun o ho => h3 o (hI o (by rwa [e.φ n hd] at ho))⟩
    rw [e.φ n hd, hb, h1]
    cases m with
    | none => rfl
    | some m' => simp only [Option.map_some, e.φ m' (h2 m' rfl)]
  | siter s pos =>
    exact ⟨by rw [e.φ n hd, hb, h.1], fun o ho => h.2 o (hI o (by rwa [e.φ n hd] at ho))⟩

/-- a step: each name owns what it owned, its block untouched, or it is told anew -/
theorem R.step {B : Nat} {F : Nat → Prop} {κ κ' : Kx} {w w' : World} {σ σ' : St} (h : R B F κ w σ) (e : Ext κ w κ' w')
    (hdom : ∀ n, κ'.dom n → n < σ'.next) (himm : ∀ b o, κ'.I b o → b < w'.heap.size)
    (hown : ∀ n r, σ'.res n = some r → (σ.res n = some r ∧ w'.heap[κ.φ n]? = w.heap[κ.φ n]? ∧ ∀ o, κ'.I (κ.φ n) o → κ.I (κ.φ n) o) ∨
      (κ'.dom n ∧ Owns κ' w' n r ∧ (F (κ'.φ n) ∨ B ≤ κ'.φ n) ∧ ∀ m s, σ'.res m = some s → κ'.φ n = κ'.φ m → n = m)) : R B F κ' w' σ' where
  dom := hdom
  own := fun n r hr => by
    rcases hown n r hr with ⟨h1, h2, h3⟩ | ⟨h1, h2, _⟩
    · have := h.own n r h1
      exact ⟨e.dom n this.1, this.2.keep e this.1 h2 h3⟩
    · exact ⟨h1, h2⟩
  apart := fun n m r s hn hm hx => by
    rcases hown n r hn with ⟨h1, _⟩ | ⟨_, _, _, h4⟩
    · rcases hown m s hm with ⟨k1, _⟩ | ⟨_, _, _, k4⟩
      · exact h.apart n m r s h1 k1 (by rw [← e.φ n (h.own n r h1).1, ← e.φ m (h.own m s k1).1]; exact hx)
      · exact (k4 n r hn hx.symm).symm
    · exact h4 m s hm hx
  imm := himm
  foot := fun n r hr => by
    rcases hown n r hr with ⟨h1, _⟩ | ⟨_, _, h3, _⟩
    · rw [e.φ n (h.own n r h1).1]; exact h.foot n r h1
    · exact h3

theorem R.lt {B : Nat} {F : Nat → Prop} {κ : Kx} {w : World} {σ : St} (h : R B F κ w σ) {n : Nat} {r : Res} (hr : σ.res n = some r) : κ.φ n < w.heap.size := by
  have := (h.own n r hr).2
  cases r with
  | obj cs => obtain ⟨us, rest, t, fz, h1, _⟩ := this; exact (Array.getElem?_eq_some_iff.1 h1).1
  | tip k => obtain ⟨_, us, t, fz, h1, _⟩ := this; exact (Array.getElem?_eq_some_iff.1 h1).1
  | map es ts clk => obtain ⟨ents, h1, _⟩ := this; exact (Array.getElem?_eq_some_iff.1 h1).1
  | iter m since seen last => exact (Array.getElem?_eq_some_iff.1 this.1).1
  | siter s pos => exact (Array.getElem?_eq_some_iff.1 this.1).1

/-! ### New blocks -/

def Kx.name (κ : Kx) (nm b : Nat) : Kx := { κ with dom := fun n => κ.dom n ∨ n = nm, φ := fun n => if n = nm then b else κ.φ n }
def Kx.imms (κ : Kx) (b n : Nat) : Kx := { κ with I := fun b' o => κ.I b' o ∨ (b' = b ∧ o < n) }
def Kx.mark (κ : Kx) (nm b e r k : Nat) : Kx :=
  { κ with dom := fun n => κ.dom n ∨ n = nm, φ := fun n => if n = nm then b else κ.φ n, ψ := fun n => if n = nm then e else κ.ψ n,
           χ := fun n => if n = nm then r else κ.χ n, ξ := fun n => if n = nm then k else κ.ξ n }

theorem heap_alloc (w : World) (o : Obj) (b : Nat) (hb : b < w.heap.size) : (w.alloc o).heap[b]? = w.heap[b]? := by
  have e : (w.alloc o).heap = w.heap.push o := rfl
  rw [e, Array.getElem?_push, if_neg (by omega)]
theorem heap_alloc_new (w : World) (o : Obj) : (w.alloc o).heap[w.heap.size]? = some o := by
  have e : (w.alloc o).heap = w.heap.push o := rfl
  rw [e, Array.getElem?_push, if_pos rfl]
theorem size_alloc (w : World) (o : Obj) : (w.alloc o).heap.size = w.heap.size + 1 := by
  have e : (w.alloc o).heap = w.heap.push o := rfl
  rw [e, Array.size_push]

theorem Ext.name {κ : Kx} {w w' : World} {nm b : Nat} (hn : ¬ κ.dom nm) (hc : ∀ b o, κ.I b o → w'.cell? ⟨b, o, none⟩ = w.cell? ⟨b, o, none⟩) : Ext κ w (κ.name nm b) w' where
  I := fun _ _ h => h
  φ := fun n h => by have : n ≠ nm := fun e => hn (e ▸ h); simp [Kx.name, this]
  ψ := fun _ _ => rfl
  χ := fun _ _ => rfl
  ξ := fun _ _ => rfl
  dom := fun _ h => .inl h
  cell := hc
theorem Ext.mark {κ : Kx} {w w' : World} {nm b e r k : Nat} (hn : ¬ κ.dom nm) (hc : ∀ b o, κ.I b o → w'.cell? ⟨b, o, none⟩ = w.cell? ⟨b, o, none⟩) : Ext κ w (κ.mark nm b e r k) w' where
  I := fun _ _ h => h
  φ := fun n h => by have : n ≠ nm := fun e => hn (e ▸ h); simp [Kx.mark, this]
  ψ := fun n h => by have : n ≠ nm := fun e => hn (e ▸ h); simp [Kx.mark, this]
  χ := fun n h => by have : n ≠ nm := fun e => hn (e ▸ h); simp [Kx.mark, this]
  ξ := fun n h => by have : n ≠ nm := fun e => hn (e ▸ h); simp [Kx.mark, this]
  dom := fun _ h => .inl h
  cell := hc
theorem Ext.imms {κ : Kx} {w w' : World} {b n : Nat} (hc : ∀ b o, κ.I b o → w'.cell? ⟨b, o, none⟩ = w.cell? ⟨b, o, none⟩) : Ext κ w (κ.imms b n) w' where
  I := fun _ _ h => .inl h
  φ := fun _ _ => rfl
  ψ := fun _ _ => rfl
  χ := fun _ _ => rfl
  ξ := fun _ _ => rfl
  dom := fun _ h => h
  cell := hc

section
variable {B : Nat} {F : Nat → Prop} {κ : Kx} {w : World} {σ : St}

theorem R.cells_alloc (h : R B F κ w σ) (o : Obj) : ∀ b i, κ.I b i → (w.alloc o).cell? ⟨b, i, none⟩ = w.cell? ⟨b, i, none⟩ :=
  fun b i hi => cell_same (heap_alloc w o b (h.imm b i hi)) i

/-- a new row that is owned -/
theorem R.new_obj (h : R B F κ w σ) (hB : B ≤ w.heap.size) {nm : Nat} (hn : ¬ κ.dom nm) (hlt : nm < σ.next) {us : List Value} {cs : List AV} (t : TypeId) (rest : List Value) (fz : Nat × Nat) (hf : fzOk us.length fz) (hv : Vl κ w us cs) :
    Ext κ w (κ.name nm w.heap.size) (w.alloc (.cells ⟨us ++ rest⟩ t fz)) ∧ R B F (κ.name nm w.heap.size) (w.alloc (.cells ⟨us ++ rest⟩ t fz)) (σ.set nm (.obj cs)) := by
  have e : Ext κ w (κ.name nm w.heap.size) (w.alloc (.cells ⟨us ++ rest⟩ t fz)) := .name hn (h.cells_alloc _)
  refine ⟨e, h.step e (fun n hd => ?_) (fun b o hi => ?_) (fun n r hr => ?_)⟩
  · rcases hd with hd | rfl
    · exact h.dom n hd
    · exact hlt
  · rw [size_alloc]; exact Nat.lt_succ_of_lt (h.imm b o hi)
  · by_cases hx : n = nm
    · subst hx
      simp only [St.set_same, Option.some.injEq] at hr
      subst hr
      refine .inr ⟨.inr rfl, ⟨us, rest, t, fz, ?_, hf, hv.mono e, fun o ho => ?_⟩, .inr ?_, fun m s hs hm => ?_⟩
      · simp only [Kx.name, if_true]; exact heap_alloc_new _ _
      · simp only [Kx.name, if_true] at ho; exact absurd (h.imm _ _ ho) (Nat.lt_irrefl _)
      · simp only [Kx.name, if_true]; exact hB
      · by_cases hx : m = n
        · exact hx.symm
        · rw [St.set_other _ _ hx] at hs
          have := h.lt hs
          simp only [Kx.name, if_true, hx, if_false] at hm
          omega
    · rw [St.set_other _ _ hx] at hr
      exact .inl ⟨hr, heap_alloc _ _ _ (h.lt hr), fun o ho => ho⟩

/-- a new block of another kind -/
theorem R.new_other (h : R B F κ w σ) (hB : B ≤ w.heap.size) {nm : Nat} (hn : ¬ κ.dom nm) (hlt : nm < σ.next) (ob : Obj) (r : Res)
    (ho : ∀ κ' w', κ'.φ nm = w.heap.size → Ext κ w κ' w' → w'.heap[w.heap.size]? = some ob → (∀ o, ¬ κ'.I w.heap.size o) → Owns κ' w' nm r) :
    Ext κ w (κ.name nm w.heap.size) (w.alloc ob) ∧ R B F (κ.name nm w.heap.size) (w.alloc ob) (σ.set nm r) := by
  have e : Ext κ w (κ.name nm w.heap.size) (w.alloc ob) := .name hn (h.cells_alloc _)
  refine ⟨e, h.step e (fun n hd => ?_) (fun b o hi => ?_) (fun n r' hr => ?_)⟩
  · rcases hd with hd | rfl
    · exact h.dom n hd
    · exact hlt
  · rw [size_alloc]; exact Nat.lt_succ_of_lt (h.imm b o hi)
  · by_cases hx : n = nm
    · subst hx
      simp only [St.set_same, Option.some.injEq] at hr
      subst hr
      refine .inr ⟨.inr rfl, ?_, .inr ?_, fun m s hs hm => ?_⟩
      · refine ho _ _ (by simp [Kx.name]) e (heap_alloc_new _ _) (fun o ho => ?_)
        exact absurd (h.imm _ _ ho) (Nat.lt_irrefl _)
      · simp only [Kx.name, if_true]; exact hB
      · by_cases hx : m = n
        · exact hx.symm
        · rw [St.set_other _ _ hx] at hs
          have := h.lt hs
          simp only [Kx.name, if_true, hx, if_false] at hm
          omega
    · rw [St.set_other _ _ hx] at hr
      exact .inl ⟨hr, heap_alloc _ _ _ (h.lt hr), fun o ho => ho⟩

/-- a new map -/
theorem R.new_map (h : R B F κ w σ) (hB : B ≤ w.heap.size) {nm : Nat} (hn : ¬ κ.dom nm) (hlt : nm < σ.next) :
    Ext κ w (κ.name nm w.heap.size) (w.alloc (.map #[] 0)) ∧ R B F (κ.name nm w.heap.size) (w.alloc (.map #[] 0)) (σ.set nm (.map [] [] 0)) :=
  h.new_other hB hn hlt _ _ fun κ' w' hφ _ hw hI => ⟨[], by rw [hφ, hw], .nil, by rw [hφ]; exact hI, rfl, .nil, fun t ht => by cases ht⟩

/-- a new row that never changes: all of its first n cells -/
theorem R.new_imm (h : R B F κ w σ) (us : List Value) (t : TypeId) (fz : Nat × Nat) (n : Nat) :
    Ext κ w (κ.imms w.heap.size n) (w.alloc (.cells ⟨us⟩ t fz)) ∧ R B F (κ.imms w.heap.size n) (w.alloc (.cells ⟨us⟩ t fz)) σ := by
  have e : Ext κ w (κ.imms w.heap.size n) (w.alloc (.cells ⟨us⟩ t fz)) := .imms (h.cells_alloc _)
  refine ⟨e, h.step e (fun n hd => h.dom n hd) (fun b o hi => ?_) (fun n r hr => .inl ⟨hr, heap_alloc _ _ _ (h.lt hr), fun o ho => ?_⟩)⟩
  · rw [size_alloc]
    rcases hi with hi | ⟨rfl, _⟩
    · exact Nat.lt_succ_of_lt (h.imm b o hi)
    · exact Nat.lt_succ_self _
  · rcases ho with ho | ⟨hx, _⟩
    · exact ho
    · exact absurd (h.lt hr) (by rw [hx]; exact Nat.lt_irrefl _)

/-- a new row, its first n cells never changing, its room behind them owned -/
theorem R.new_tip (h : R B F κ w σ) (hB : B ≤ w.heap.size) {nm : Nat} (hn : ¬ κ.dom nm) (hlt : nm < σ.next) (us : List Value) (t : TypeId) (fz : Nat × Nat) (hf : fzOk us.length fz) (n r k : Nat) (hr : r ≤ us.length) :
    Ext κ w ((κ.imms w.heap.size n).mark nm w.heap.size n r k) (w.alloc (.cells ⟨us⟩ t fz)) ∧ R B F ((κ.imms w.heap.size n).mark nm w.heap.size n r k) (w.alloc (.cells ⟨us⟩ t fz)) (σ.set nm (.tip k)) := by
  have e : Ext κ w ((κ.imms w.heap.size n).mark nm w.heap.size n r k) (w.alloc (.cells ⟨us⟩ t fz)) := by
    have e1 : Ext κ w (κ.imms w.heap.size n) (w.alloc (.cells ⟨us⟩ t fz)) := .imms (h.cells_alloc _)
    exact e1.trans (.mark (κ := κ.imms w.heap.size n) hn (fun _ _ _ => rfl))
  refine ⟨e, h.step e (fun n hd => ?_) (fun b o hi => ?_) (fun m s hs => ?_)⟩
  · rcases hd with hd | rfl
    · exact h.dom n hd
    · exact hlt
  · rw [size_alloc]
    rcases hi with hi | ⟨rfl, _⟩
    · exact Nat.lt_succ_of_lt (h.imm b o hi)
    · exact Nat.lt_succ_self _
  · by_cases hx : m = nm
    · subst hx
      simp only [St.set_same, Option.some.injEq] at hs
      subst hs
      refine .inr ⟨.inr rfl, ⟨by simp [Kx.mark], us, t, fz, ?_, hf, by simpa [Kx.mark] using hr, fun o hp ho => ?_⟩, .inr ?_, fun j s hj hm => ?_⟩
      · simp only [Kx.mark, if_true]; exact heap_alloc_new _ _
      · simp only [Kx.mark, if_true, Kx.imms] at ho hp
        rcases ho with ho | ⟨_, ho⟩
        · exact absurd (h.imm _ _ ho) (Nat.lt_irrefl _)
        · omega
      · simp only [Kx.mark, if_true]; exact hB
      · by_cases hx : j = m
        · exact hx.symm
        · rw [St.set_other _ _ hx] at hj
          have := h.lt hj
          simp only [Kx.mark, if_true, hx, if_false, Kx.imms] at hm
          omega
    · rw [St.set_other _ _ hx] at hs
      refine .inl ⟨hs, heap_alloc _ _ _ (h.lt hs), fun o ho => ?_⟩
      simp only [Kx.mark, Kx.imms] at ho
      rcases ho with ho | ⟨hy, _⟩
      · exact ho
      · exact absurd (h.lt hs) (by rw [hy]; exact Nat.lt_irrefl _)

/-- an owned row is told anew: its block holds other cells -/
theorem R.set_obj (h : R B F κ w σ) {n : Nat} {cs cs' : List AV} (hr : σ.res n = some (.obj cs)) {w' : World} {us rest : List Value} {t : TypeId} {fz : Nat × Nat}
    (hb : w'.heap[κ.φ n]? = some (.cells ⟨us ++ rest⟩ t fz)) (hf : fzOk us.length fz) (ho : ∀ b, b ≠ κ.φ n → w'.heap[b]? = w.heap[b]?) (hs : w'.heap.size = w.heap.size)
    (hv : Vl κ w us cs') : Ext κ w κ w' ∧ R B F κ w' (σ.set n (.obj cs')) := by
  obtain ⟨hd, us0, rest0, t0, fz0, h1, h2, h3, h4⟩ := h.own n _ hr
  have e : Ext κ w κ w' := ⟨fun _ _ x => x, fun _ _ => rfl, fun _ _ => rfl, fun _ _ => rfl, fun _ _ => rfl, fun _ x => x, fun b o hi => cell_same (ho b (fun hx => h4 o (hx ▸ hi))) o⟩
  refine ⟨e, h.step e h.dom (fun b o hi => by rw [hs]; exact h.imm b o hi) (fun m r hm => ?_)⟩
  by_cases hx : m = n
  · subst hx
    simp only [St.set_same, Option.some.injEq] at hm
    subst hm
    refine .inr ⟨hd, ⟨us, rest, t, fz, hb, hf, hv.mono e, h4⟩, h.foot _ _ hr, fun j s hj hm => ?_⟩
    by_cases hy : j = m
    · exact hy.symm
    · rw [St.set_other _ _ hy] at hj
      exact h.apart _ _ _ _ hr hj hm
  · rw [St.set_other _ _ hx] at hm
    exact .inl ⟨hm, ho _ (fun hy => hx (h.apart _ _ _ _ hm hr hy)), fun o x => x⟩

/-- an owned thing is told anew -/
theorem R.set_res (h : R B F κ w σ) {n : Nat} {r r' : Res} (hr : σ.res n = some r) (hI : ∀ o, ¬ κ.I (κ.φ n) o) {w' : World}
    (ho : ∀ b, b ≠ κ.φ n → w'.heap[b]? = w.heap[b]?) (hs : w'.heap.size = w.heap.size)
    (hv : Ext κ w κ w' → Owns κ w' n r') : Ext κ w κ w' ∧ R B F κ w' (σ.set n r') := by
  obtain ⟨hd, _⟩ := h.own n _ hr
  have e : Ext κ w κ w' := ⟨fun _ _ x => x, fun _ _ => rfl, fun _ _ => rfl, fun _ _ => rfl, fun _ _ => rfl, fun _ x => x, fun b o hi => cell_same (ho b (fun hx => hI o (hx ▸ hi))) o⟩
  refine ⟨e, h.step e h.dom (fun b o hi => by rw [hs]; exact h.imm b o hi) (fun m r hm => ?_)⟩
  by_cases hx : m = n
  · subst hx
    simp only [St.set_same, Option.some.injEq] at hm
    subst hm
    refine .inr ⟨hd, hv e, h.foot _ _ hr, fun j s hj hm => ?_⟩
    by_cases hy : j = m
    · exact hy.symm
    · rw [St.set_other _ _ hy] at hj
      exact h.apart _ _ _ _ hr hj hm
  · rw [St.set_other _ _ hx] at hm
    exact .inl ⟨hm, ho _ (fun hy => hx (h.apart _ _ _ _ hm hr hy)), fun o x => x⟩

theorem R.set_map (h : R B F κ w σ) {n : Nat} {es es' : List (AV × AV)} {ts ts' : List Nat} {clk clk' : Nat} (hr : σ.res n = some (.map es ts clk)) {w' : World} {ents : List MapEntry}
    (hb : w'.heap[κ.φ n]? = some (.map ⟨ents⟩ clk')) (ho : ∀ b, b ≠ κ.φ n → w'.heap[b]? = w.heap[b]?) (hs : w'.heap.size = w.heap.size)
    (hv : Vm κ w ents es') (ht : ents.map (·.born) = ts') (hnd : ts'.Nodup) (hlt : ∀ t ∈ ts', t < clk') : Ext κ w κ w' ∧ R B F κ w' (σ.set n (.map es' ts' clk')) := by
  obtain ⟨hd, e0, h1, h2, h4, h5⟩ := h.own n _ hr
  exact h.set_res hr h4 ho hs fun e => ⟨ents, hb, hv.mono e, h4, ht, hnd, hlt⟩
end

end Go.VL

/- The value logic, part E: each operation of the code comes to what its instruction says. -/
namespace Go.VL

def ownd (κ : Kx) (σ : St) (b : Nat) : Prop := ∃ n r, σ.res n = some r ∧ κ.φ n = b

/-- a function with a body of its own -/
def Enters (P : Program) (f : Nat) : Prop := ∃ fn, P.funcs[f]? = some fn ∧ fn.body.isNone = false ∧ (fn.name == "runtime.NumGoroutine") = false

/-- WHAT A CALL COMES TO, over values: from whatever memory that the owned things fit, it returns what K tells. -/
def ACalls (P : Program) (f : Nat) (args : List AV) (σ : St) (K : AV → St → Prop) : Prop :=
  Enters P f ∧ ∀ (κ : Kx) (w : World) (vs : List Value) (B : Nat) (F : Nat → Prop), R B F κ w σ → Vl κ w vs args →
    Calls P f ⟨vs⟩ w fun e w' => ∃ v x κ' σ', e = .returned v ∧ Ext κ w κ' w' ∧ (∀ n, κ'.dom n → κ.dom n ∨ σ.next ≤ n) ∧ R w.heap.size (ownd κ σ) κ' w' σ' ∧ Fr (ownd κ σ) w w' ∧
      σ.next ≤ σ'.next ∧ V κ' w' v x ∧ K x σ'

theorem ACalls.mono {P : Program} {f : Nat} {args : List AV} {σ : St} {K K' : AV → St → Prop} (h : ACalls P f args σ K) (hk : ∀ x σ', K x σ' → K' x σ') : ACalls P f args σ K' :=
  ⟨h.1, fun κ w vs B F hr hv => (h.2 κ w vs B F hr hv).mono fun _ _ ⟨v, x, κ', σ', h1, h2, h3, h4, h5, h6, h7, h8⟩ => ⟨v, x, κ', σ', h1, h2, h3, h4, h5, h6, h7, hk _ _ h8⟩⟩

structure Post (w0 : World) (F : Nat → Prop) (κ : Kx) (w : World) (σ : St) (nm : Nat) (κ' : Kx) (w' : World) (σ' : St) : Prop where
  ext : Ext κ w κ' w'
  dom : ∀ n, κ'.dom n → κ.dom n ∨ n = nm ∨ σ.next ≤ n
  r : R w0.heap.size F κ' w' σ'
  fr : Fr F w0 w'
  next : σ.next ≤ σ'.next

structure Inv (w0 : World) (F : Nat → Prop) (κ : Kx) (a : Act) (w : World) (ρ : List AV) (σ : St) : Prop where
  r : R w0.heap.size F κ w σ
  fr : Fr F w0 w
  env : Vl κ w a.tmps.toList ρ
  defers : a.defers = []

theorem R.widen {B : Nat} {F : Nat → Prop} {κ κ' : Kx} {w w' : World} {σ σ' : St} (h : R B F κ w σ) (hB : B ≤ w.heap.size) (h' : R w.heap.size (ownd κ σ) κ' w' σ') : R B F κ' w' σ' where
  dom := h'.dom
  own := h'.own
  apart := h'.apart
  imm := h'.imm
  foot := fun n r hr => by
    rcases h'.foot n r hr with ⟨m, s, hs, hm⟩ | hx
    · rw [← hm]; exact h.foot m s hs
    · exact .inr (Nat.le_trans hB hx)
theorem Fr.widen {B : Nat} {F : Nat → Prop} {κ : Kx} {w0 w w' : World} {σ : St} (h : Fr F w0 w) (hr : R B F κ w σ) (hB : B = w0.heap.size) (h' : Fr (ownd κ σ) w w') : Fr F w0 w' where
  os := h'.os.trans h.os
  tape := h'.tape.trans h.tape
  output := h'.output.trans h.output
  size := Nat.le_trans h.size h'.size
  block := fun b hb hF => by
    rw [h'.block b (Nat.lt_of_lt_of_le hb h.size) ?_, h.block b hb hF]
    rintro ⟨n, r, hn, rfl⟩
    rcases hr.foot n r hn with hx | hx
    · exact hF hx
    · omega


/-! ### What a value of a shape is -/
section
variable {κ : Kx} {w : World} {v : Value}
theorem V.ptr_inv {n off : Nat} (h : V κ w v (.ptr n off)) : v = .pointer (some ⟨κ.φ n, off, none⟩) ∧ κ.dom n := by cases h; exact ⟨rfl, by assumption⟩
theorem V.eptr_inv {cs : List AV} (h : V κ w v (.eptr cs)) : ∃ b i, v = .pointer (some ⟨b, i, none⟩) ∧ Vs κ w b i cs := by cases h; exact ⟨_, _, rfl, by assumption⟩
theorem V.int_inv {k : IntKind} {n : Int} (h : V κ w v (.int k n)) : v = .int k n := by cases h; rfl
theorem V.bool_inv {b : Bool} (h : V κ w v (.bool b)) : v = .bool b := by cases h; rfl
theorem V.str_inv {s : ByteArray} (h : V κ w v (.str s)) : v = .string s := by cases h; rfl
theorem V.nilp_inv (h : V κ w v .nilp) : v = .pointer none := by cases h; rfl
theorem V.nilm_inv (h : V κ w v .nilm) : v = .map none := by cases h; rfl
theorem V.nili_inv (h : V κ w v .nili) : v = .nilIface := by cases h; rfl
theorem V.nilf_inv (h : V κ w v .nilf) : v = .nilFunc := by cases h; rfl
theorem V.room_inv {g n : Nat} (h : V κ w v (.room g n)) : ∃ o cap, v = .slice (some ⟨κ.φ g, o, none⟩) n cap ∧ κ.dom g ∧ n ≤ cap ∧ κ.ψ g = o ∧ κ.χ g = o + cap * κ.ξ g := by cases h; exact ⟨_, _, rfl, by assumption, by assumption, by assumption, by assumption⟩
theorem V.map_inv {n : Nat} (h : V κ w v (.map n)) : v = .map (some (κ.φ n)) ∧ κ.dom n := by cases h; exact ⟨rfl, by assumption⟩
theorem V.agg_inv {x : List AV} (h : V κ w v (.agg x)) : ∃ u, v = .agg ⟨u⟩ ∧ Vl κ w u x := by cases h; exact ⟨_, rfl, by assumption⟩
theorem V.tup_inv {x : List AV} (h : V κ w v (.tup x)) : ∃ u, v = .tuple ⟨u⟩ ∧ Vl κ w u x := by cases h; exact ⟨_, rfl, by assumption⟩
theorem V.iface_inv {t : Nat} {x : AV} (h : V κ w v (.iface t x)) : ∃ u, v = .iface t u ∧ V κ w u x := by cases h; exact ⟨_, rfl, by assumption⟩
theorem V.func_inv {f : Nat} {x y : List AV} (h : V κ w v (.func f x y)) : ∃ p q, v = .func (.func f) ⟨p⟩ ⟨q⟩ ∧ Vl κ w p x ∧ Vl κ w q y := by cases h; exact ⟨_, _, rfl, by assumption, by assumption⟩
theorem V.ref_inv {n off len : Nat} (h : V κ w v (.ref n off len)) : ∃ cap, v = .slice (some ⟨κ.φ n, off, none⟩) len cap ∧ len ≤ cap ∧ κ.dom n := by cases h; exact ⟨_, rfl, by assumption, by assumption⟩
theorem V.sl_inv {xs : List AV} {g : Ver} (h : V κ w v (.sl xs g)) : (∃ base, v = .slice base 0 0 ∧ xs = []) ∨
    ∃ b i cap k, v = .slice (some ⟨b, i, none⟩) xs.length cap ∧ (∀ x ∈ xs, x.cells.length = k) ∧ xs.length ≤ cap ∧ Vs κ w b i (xs.flatMap AV.cells) := by
  cases h with
  | slnil g hg => exact .inl ⟨_, rfl, rfl⟩
  | slz a g hg => exact .inl ⟨_, rfl, rfl⟩
  | sl b o cap k xs hk hc h => exact .inr ⟨b, o, cap, k, rfl, hk, hc, h⟩
  | tip o cap g xs hk hc hg he hr h => exact .inr ⟨_, o, cap, _, rfl, hk, hc, h⟩
end

theorem ba_beq (a b : ByteArray) : (a == b) = decide (a = b) := by
  obtain ⟨x⟩ := a
  obtain ⟨y⟩ := b
  by_cases h : x = y
  · subst h
    simp
    show (x == x) = true
    simp
  · have h1 : ¬ (ByteArray.mk x = ByteArray.mk y) := fun e => h (by injection e)
    rw [decide_eq_false h1]
    show (x == y) = false
    simpa using h
theorem bl_beq (a b : ByteArray) : (a.toList == b.toList) = decide (a = b) := by
  rw [ByteArray.toList_eq, ByteArray.toList_eq]
  by_cases h : a = b
  · subst h; simp
  · rw [decide_eq_false h]
    simp only [beq_eq_false_iff_ne, ne_eq]
    exact fun e => h (ByteArray.ext (Array.toList_inj.mp e))

/-- another count of draws -/
def World.drawnTo (w : World) (n : Nat) : World := { w with drawn := n }

/-- The operation o, at this frame and in this memory, does what K tells. -/
def Good (P : Program) (w0 : World) (F : Nat → Prop) (o : Oper) (a : Act) (w : World) (κ : Kx) (σ : St) (nm : Nat) (K : AV → St → Prop) : Prop :=
  ∀ (next : Act → World → Prop) (Q : Exit → Act → World → Prop), (∀ v w' κ' x σ', Post w0 F κ w σ nm κ' w' σ' → V κ' w' v x → K x σ' → next (a.put o.dst v) w') → o.wp P a w next Q

section
variable {P : Program} {w0 : World} {F : Nat → Prop} {o : Oper} {a : Act} {w : World} {κ : Kx} {ρ : List AV} {σ : St} {nm : Nat} {K : AV → St → Prop}

theorem Inv.refl (h : Inv w0 F κ a w ρ σ) : Post w0 F κ w σ nm κ w σ := ⟨.refl _ _, fun _ h => .inl h, h.r, h.fr, Nat.le_refl _⟩
theorem Inv.hB (h : Inv w0 F κ a w ρ σ) : w0.heap.size ≤ w.heap.size := h.fr.size

theorem Good.value {v : Value} {x : AV} (hI : Inv w0 F κ a w ρ σ) (he : (execOp a.eval o).run P w = .ok (.value v) w) (hv : V κ w v x) (hk : K x σ) : Good P w0 F o a w κ σ nm K := by
  intro next Q hn
  unfold Oper.wp
  rw [he]
  exact hn v w κ x σ hI.refl hv hk
theorem Good.value' {v : Value} {x : AV} {w' : World} {κ' : Kx} {σ' : St} (hp : Post w0 F κ w σ nm κ' w' σ') (he : (execOp a.eval o).run P w = .ok (.value v) w') (hv : V κ' w' v x) (hk : K x σ') : Good P w0 F o a w κ σ nm K := by
  intro next Q hn
  unfold Oper.wp
  rw [he]
  exact hn v w' κ' x σ' hp hv hk
theorem Good.skip' {w' : World} {κ' : Kx} {σ' : St} (hp : Post w0 F κ w σ nm κ' w' σ') (he : (execOp a.eval o).run P w = .ok .skip w') (hk : K (.tup []) σ') : Good P w0 F o a w κ σ nm K := by
  intro next Q hn
  unfold Oper.wp
  rw [he]
  exact hn undef w' κ' (.tup []) σ' hp (.tup [] [] .nil) hk

theorem Fr.drawn (h : Fr F w0 w) (n : Nat) : Fr F w0 { w with drawn := n } := ⟨h.os, h.tape, h.output, h.size, h.block⟩
theorem Fr.alloc (h : Fr F w0 w) (ob : Obj) : Fr F w0 (w.alloc ob) :=
  ⟨h.os, h.tape, h.output, by rw [size_alloc]; exact Nat.le_succ_of_le h.size, fun b hb hF => by rw [heap_alloc _ _ _ (Nat.lt_of_lt_of_le hb h.size)]; exact h.block b hb hF⟩
theorem Fr.owned {B : Nat} (h : Fr F w0 w) (hr : R B F κ w σ) (hB : B = w0.heap.size) {n : Nat} {r : Res} (hn : σ.res n = some r) {w' : World} (h1 : w'.os = w.os) (h2 : w'.tape = w.tape) (h3 : w'.output = w.output)
    (h4 : w'.heap.size = w.heap.size) (h5 : ∀ b, b ≠ κ.φ n → w'.heap[b]? = w.heap[b]?) : Fr F w0 w' :=
  ⟨h1.trans h.os, h2.trans h.tape, h3.trans h.output, by rw [h4]; exact h.size, fun b hb hF => by
    rw [h5 b ?_]; exact h.block b hb hF
    rintro rfl
    rcases hr.foot n r hn with hx | hx
    · exact hF hx
    · omega⟩

/-! ### Operands -/
theorem constCs_ok : ∀ {vs : List Value} {xs : List AV}, constCs vs = some xs → Vl κ w vs xs
  | [], xs, h => by simp [constCs] at h; subst h; exact .nil
  | v :: r, xs, h => by
    unfold constCs at h
    split at h
    · rename_i x y hx hy
      simp only [Option.some.injEq] at h
      subst h
      refine .cons _ _ _ _ ?_ (constCs_ok hy)
      unfold constAV at hx
      split at hx <;> simp only [Option.some.injEq, reduceCtorEq] at hx <;> subst hx <;> first | (constructor; done) | exact .slnil _ (.inl rfl)
    · cases h
theorem constAV_ok {v : Value} {x : AV} (h : constAV v = some x) : V κ w v x := by
  have : constCs [v] = some [x] := by simp [constCs, h]
  cases constCs_ok (κ := κ) (w := w) this with
  | cons _ _ _ _ h _ => exact h
theorem constV_ok {v : Value} {x : AV} (h : constV v = some x) : V κ w v x := by
  unfold constV at h
  split at h
  · rename_i cs
    rw [Option.map_eq_some_iff] at h
    obtain ⟨ys, hy, rfl⟩ := h
    exact .agg _ _ (constCs_ok hy)
  · exact constAV_ok h

theorem Inv.opX (h : Inv w0 F κ a w ρ σ) {y : Operand} {x : X} (hx : opX y = some x) : V κ w (a.eval y) (ev ρ x) := by
  cases y with
  | tmp t =>
    simp only [VL.opX, Option.some.injEq] at hx
    subst hx
    have := h.env.get t
    simpa [Act.eval, ev] using this
  | const v =>
    simp only [VL.opX, Option.map_eq_some_iff] at hx
    obtain ⟨z, hz, rfl⟩ := hx
    exact constV_ok hz
  | global g => simp [VL.opX] at hx
  | func f =>
    simp only [VL.opX, Option.some.injEq] at hx
    subst hx
    exact .func f [] [] [] [] .nil .nil
theorem Inv.opXs (h : Inv w0 F κ a w ρ σ) : ∀ {ys : List Operand} {xs : List X}, opXs ys = some xs → Vl κ w (ys.map a.eval) (xs.map (ev ρ))
  | [], xs, hx => by simp only [VL.opXs, Option.some.injEq] at hx; subst hx; exact .nil
  | y :: r, xs, hx => by
    unfold VL.opXs at hx
    split at hx
    · rename_i x z h1 h2
      simp only [Option.some.injEq] at hx
      subst hx
      exact .cons _ _ _ _ (h.opX h1) (h.opXs h2)
    · cases hx

/-! ### A row of cells that can be read -/
def Row (κ : Kx) (w : World) (b o : Nat) (cs : List AV) : Prop := ∃ us, Vl κ w us cs ∧ ∀ i u, us[i]? = some u → w.cell? ⟨b, o + i, none⟩ = some u
theorem Row.of_vs {b i : Nat} {cs : List AV} (h : Vs κ w b i cs) : Row κ w b i cs := by
  obtain ⟨us, h1, _, h3⟩ := h.row
  exact ⟨us, h1, h3⟩
theorem Row.drop {b i : Nat} {cs : List AV} (h : Row κ w b i cs) (j : Nat) : Row κ w b (i + j) (cs.drop j) := by
  obtain ⟨us, h1, h3⟩ := h
  exact ⟨us.drop j, h1.drop j, fun k u hk => by rw [Nat.add_assoc]; exact h3 _ u (by simpa using hk)⟩
theorem Row.of_own {n : Nat} {cs : List AV} (h : Owns κ w n (.obj cs)) : Row κ w (κ.φ n) 0 cs := by
  obtain ⟨us, rest, t, fz, h1, _, h3, _⟩ := h
  exact ⟨us, h3, fun i u hu => by
    have hi : i < us.length := (List.getElem?_eq_some_iff.1 hu).1
    rw [cell_of h1, Nat.zero_add, List.getElem?_append_left hi]; exact hu⟩

theorem add_spot (b i j : Nat) : (⟨b, i, none⟩ : Addr).add j = ⟨b, i + j, none⟩ := by
  unfold Addr.add; split
  · simp_all
  · rfl

theorem run_isAgg {t : TypeId} {k : Option Nat} (h : kindOf P t = some k) : (isAgg t).run P w = .ok k.isSome w ∧ (∀ n, k = some n → (sizeOf t).run P w = .ok n w) := by
  unfold kindOf at h
  split at h
  · rename_i h1 h2
    simp only [Option.some.injEq] at h; subst h
    exact ⟨by simp [isAgg, underlying, h1], fun n hn => by simp [sizeOf, typeInfo, h2] at hn ⊢; exact hn⟩
  · rename_i h1 h2
    simp only [Option.some.injEq] at h; subst h
    exact ⟨by simp [isAgg, underlying, h1], fun n hn => by simp [sizeOf, typeInfo, h2] at hn ⊢; exact hn⟩
  · rename_i d i h1 h2 hs ha
    split at h
    · simp only [Option.some.injEq] at h; subst h
      refine ⟨?_, fun n hn => by cases hn⟩
      simp only [isAgg, underlying, Sem.run_bind, run_program, Result.andThen_ok, hs]
      cases d <;> first | rfl | (exact (h1 _ rfl).elim) | (exact (h2 _ _ rfl).elim)
    · cases h
  · cases h

theorem run_loadVar {t : TypeId} {k : Option Nat} (hk : kindOf P t = some k) {b i : Nat} {cs : List AV} (h : Row κ w b i cs) {x : AV} (hx : ldc cs 0 k = some x) :
    ∃ u, (loadVar t ⟨b, i, none⟩).run P w = .ok u w ∧ V κ w u x := by
  obtain ⟨us, h1, h3⟩ := h
  obtain ⟨e1, e2⟩ := run_isAgg (w := w) hk
  cases k with
  | none =>
    obtain ⟨u, hu, hv⟩ := h1.get? 0 x (by simpa [ldc] using hx)
    refine ⟨u, ?_, hv⟩
    have := h3 0 u hu
    simp only [Nat.add_zero] at this
    simp [loadVar, e1, this]
  | some n =>
    simp only [ldc, Nat.zero_add] at hx
    split at hx
    · rename_i hn
      simp only [List.drop_zero, Option.some.injEq] at hx
      subst hx
      refine ⟨.agg ⟨us.take n⟩, ?_, .agg _ _ (h1.take n)⟩
      have hl := h1.length
      have hr := run_loadCells_list (P := P) (w := w) ⟨b, i, none⟩ (us.take n) (fun j v hj => by
        rw [add_spot]; exact h3 j v (by rw [List.getElem?_take] at hj; split at hj <;> simp_all))
      rw [List.length_take, Nat.min_eq_left (by omega)] at hr
      simp [loadVar, e1, e2 n rfl, hr]
    · cases hx

end
end Go.VL

/- The value logic, part F: operations that leave memory alone. -/
namespace Go.VL
section
variable {P : Program} {w0 : World} {F : Nat → Prop} {o : Oper} {a : Act} {w : World} {κ : Kx} {ρ : List AV} {σ : St} {nm : Nat} {K : AV → St → Prop}

theorem opt_some {α : Type} {K : α → Prop} {z : Option α} (h : opt K z) : ∃ v, z = some v ∧ K v := by
  cases z with
  | none => exact h.elim
  | some v => exact ⟨v, rfl, h⟩

theorem ok_mv (hI : Inv w0 F κ a w ρ σ) {y : Operand} {x : X} (hop : o.op = .move y ∨ o.op = .assign y) (hx : opX y = some x) (h : K (ev ρ x) σ) : Good P w0 F o a w κ σ nm K :=
  .value hI (by rcases hop with hop | hop <;> simp [execOp, hop]) (hI.opX hx) h

theorem ok_pick (hI : Inv w0 F κ a w ρ σ) {c y z : Operand} {c' y' z' : X} (hop : o.op = .pick c y z) (hc : opX c = some c') (hy : opX y = some y') (hz : opX z = some z')
    (h : astep (ACalls P) nm ρ σ K (.pick c' y' z')) : Good P w0 F o a w κ σ nm K := by
  have vc := hI.opX hc
  simp only [astep] at h
  split at h
  · rename_i t ht
    rw [ht] at vc
    cases hv : a.eval c <;> rw [hv] at vc <;> cases vc
    refine .value hI (v := if t then a.eval y else a.eval z) (by cases t <;> simp [execOp, hop, hv, asBool]) ?_ h
    cases t
    · exact hI.opX hz
    · exact hI.opX hy
  · exact h.elim

theorem ldc_drop {cs : List AV} {off : Nat} {k : Option Nat} {v : AV} (h : ldc cs off k = some v) : ldc (cs.drop off) 0 k = some v := by
  cases k with
  | none => simpa [ldc] using h
  | some n =>
    simp only [ldc] at h ⊢
    split at h
    · rename_i hn
      rw [if_pos (by simp only [List.length_drop]; omega)]
      simpa using h
    · cases h

theorem ok_load (hI : Inv w0 F κ a w ρ σ) {t : TypeId} {y : Operand} {x : X} {k : Option Nat} (hop : o.op = .load t y) (hk : kindOf P t = some k) (hx : opX y = some x)
    (h : astep (ACalls P) nm ρ σ K (.load k x)) : Good P w0 F o a w κ σ nm K := by
  have vx := hI.opX hx
  simp only [astep] at h
  split at h
  · rename_i n off hn
    rw [hn] at vx
    obtain ⟨hy, hd⟩ := vx.ptr_inv
    split at h
    · rename_i cs hr
      obtain ⟨v, hv, hK⟩ := opt_some h
      have hrow := (Row.of_own (hI.r.own n _ hr).2).drop off
      rw [Nat.zero_add] at hrow
      obtain ⟨u, hu, hV⟩ := run_loadVar (P := P) (w := w) hk hrow (ldc_drop hv)
      exact .value hI (by simp [execOp, hop, hy, Instr.loadAt, Instr.sureAddr, hu]) hV hK
    · exact h.elim
  · rename_i cs hn
    rw [hn] at vx
    obtain ⟨v, hv, hK⟩ := opt_some h
    obtain ⟨b, i, hy, hh⟩ := vx.eptr_inv
    obtain ⟨u, hu, hV⟩ := run_loadVar (P := P) (w := w) hk (Row.of_vs hh) hv
    exact .value hI (by simp [execOp, hop, hy, Instr.loadAt, Instr.sureAddr, hu]) hV hK
  · exact h.elim

theorem ok_nilCheck (hI : Inv w0 F κ a w ρ σ) {y : Operand} {x : X} (hop : o.op = .nilCheck y) (hx : opX y = some x)
    (h : astep (ACalls P) nm ρ σ K (.nilCheck x)) : Good P w0 F o a w κ σ nm K := by
  have vx := hI.opX hx
  simp only [astep] at h
  split at h
  · rename_i n off hn
    have vx' := vx
    rw [hn] at vx
    obtain ⟨hy, hd⟩ := vx.ptr_inv
    exact .value hI (by simp [execOp, hop, hy]) vx (by rw [hy] at *; exact h)
  · rename_i cs hn
    rw [hn] at vx
    obtain ⟨b, i, hy, hh⟩ := vx.eptr_inv
    exact .value hI (by simp [execOp, hop, hy]) vx (by rw [hy] at *; exact h)
  · exact h.elim

theorem run_eqGuard_int (op : BinOp) (t : TypeId) (x y : Operand) (k k' : IntKind) (m n : Int) : (eqGuard op t x y (.int k m) (.int k' n)).run P w = .ok () w := by
  unfold eqGuard; split <;> rfl
theorem run_eqGuard_str (op : BinOp) (t : TypeId) (x y : Operand) (m n : ByteArray) : (eqGuard op t x y (.string m) (.string n)).run P w = .ok () w := by
  unfold eqGuard; split <;> rfl
theorem run_eqGuard_bool (op : BinOp) (t : TypeId) (x y : Operand) (m n : Bool) : (eqGuard op t x y (.bool m) (.bool n)).run P w = .ok () w := by
  unfold eqGuard; split <;> rfl

def scal : AV → Value
  | .int k n => .int k n
  | .bool b => .bool b
  | .str s => .string s
  | _ => undef

theorem binv_ok {op : BinOp} {t : TypeId} {k k' : IntKind} {m n : Int} {z : AV} (h : binv op k m k' n = some z) : (binOp op t (.int k m) (.int k' n)).run P w = .ok (scal z) w ∧ V κ w (scal z) z := by
  unfold binv at h
  split at h
  · split at h
    · cases h
    · rename_i h0
      simp only [Option.some.injEq] at h; subst h
      exact ⟨by simp [binOp, Op.shift, h0, scal], .int _ _⟩
  · split at h
    · cases h
    · rename_i h0
      simp only [Option.some.injEq] at h; subst h
      exact ⟨by simp [binOp, Op.shift, h0, scal], .int _ _⟩
  · rename_i e1 e2
    split at h
    · rename_i hk
      subst hk
      split at h <;> (try split at h) <;> first
        | (cases h; done)
        | (simp only [Option.some.injEq] at h; subst h; exact ⟨by simp_all [binOp, Op.intArith, Op.intDiv, Op.intBits, Op.intCmp, scal], by constructor⟩)
    · cases h

theorem sbinv_ok {op : BinOp} {t : TypeId} {m n : ByteArray} {z : AV} (h : sbinv op m n = some z) : (binOp op t (.string m) (.string n)).run P w = .ok (scal z) w ∧ V κ w (scal z) z := by
  unfold sbinv at h
  split at h
  · split at h
    · cases h
    · rename_i h0
      simp only [Option.some.injEq] at h; subst h
      exact ⟨by simp only [binOp, Op.stringOp, if_neg h0]; rfl, .str _⟩
  all_goals first
    | (cases h; done)
    | (simp only [Option.some.injEq] at h; subst h; exact ⟨by simp [binOp, Op.stringOp, scal, bl_beq], by constructor⟩)

theorem ok_bin (hI : Inv w0 F κ a w ρ σ) {op : BinOp} {t t' : TypeId} {y z : Operand} {x x' : X} {k : IntKind} (hop : o.op = .binOp op t y z t') (hx : opX y = some x) (hx' : opX z = some x')
    (h : astep (ACalls P) nm ρ σ K (.bin op k x x')) : Good P w0 F o a w κ σ nm K := by
  have v1 := hI.opX hx
  have v2 := hI.opX hx'
  simp only [astep] at h
  split at h
  · rename_i k1 m k2 n h1 h2
    rw [h1] at v1; rw [h2] at v2
    have e1 := v1.int_inv
    have e2 := v2.int_inv
    split at h
    · rename_i hk
      subst hk
      obtain ⟨v, hv, hK⟩ := opt_some h
      obtain ⟨hu, hV⟩ := binv_ok (P := P) (w := w) (κ := κ) (t := t) hv
      exact .value hI (by simp [execOp, hop, e1, e2, run_eqGuard_int, hu]) hV hK
    · exact h.elim
  · exact h.elim

theorem ok_sbin (hI : Inv w0 F κ a w ρ σ) {op : BinOp} {t t' : TypeId} {y z : Operand} {x x' : X} (hop : o.op = .binOp op t y z t') (hx : opX y = some x) (hx' : opX z = some x')
    (h : astep (ACalls P) nm ρ σ K (.sbin op x x')) : Good P w0 F o a w κ σ nm K := by
  have v1 := hI.opX hx
  have v2 := hI.opX hx'
  simp only [astep] at h
  split at h
  · rename_i m n h1 h2
    rw [h1] at v1; rw [h2] at v2
    have e1 := v1.str_inv
    have e2 := v2.str_inv
    obtain ⟨v, hv, hK⟩ := opt_some h
    obtain ⟨hu, hV⟩ := sbinv_ok (P := P) (w := w) (κ := κ) (t := t) hv
    exact .value hI (by simp [execOp, hop, e1, e2, run_eqGuard_str, hu]) hV hK
  · exact h.elim

theorem run_equalIn_bool (d : Nat) {t : TypeId} (ht : P.underlying t = some .bool) (m n : Bool) : (Op.equalIn (d + 1) t (.bool m) (.bool n)).run P w = .ok (m == n) w := by
  simp [Op.equalIn, underlying, ht]
theorem run_equal_bool {t : TypeId} (ht : P.underlying t = some .bool) (m n : Bool) : (Op.equal t (.bool m) (.bool n)).run P w = .ok (m == n) w := run_equalIn_bool 9999 ht m n

theorem ok_bbin (hI : Inv w0 F κ a w ρ σ) {neg : Bool} {t t' : TypeId} {y z : Operand} {x x' : X} (hop : o.op = .binOp (if neg then .neq else .eql) t y z t') (ht : P.underlying t = some .bool) (hx : opX y = some x) (hx' : opX z = some x')
    (h : astep (ACalls P) nm ρ σ K (.bbin neg x x')) : Good P w0 F o a w κ σ nm K := by
  have v1 := hI.opX hx
  have v2 := hI.opX hx'
  simp only [astep] at h
  split at h
  · rename_i m n h1 h2
    rw [h1] at v1; rw [h2] at v2
    have e1 := v1.bool_inv
    have e2 := v2.bool_inv
    refine .value hI (v := .bool ((m == n) != neg)) ?_ (.bool _) h
    cases neg <;> simp [execOp, hop, e1, e2, run_eqGuard_bool, binOp, run_equal_bool ht]
  · exact h.elim

theorem ok_not (hI : Inv w0 F κ a w ρ σ) {t : TypeId} {y : Operand} {x : X} (hop : o.op = .unOp .not t y) (hx : opX y = some x)
    (h : astep (ACalls P) nm ρ σ K (.not x)) : Good P w0 F o a w κ σ nm K := by
  have v1 := hI.opX hx
  simp only [astep] at h
  split at h
  · rename_i b hb
    rw [hb] at v1
    exact .value hI (by simp [execOp, hop, v1.bool_inv, Op.unary]) (.bool _) h
  · exact h.elim

theorem ok_un (hI : Inv w0 F κ a w ρ σ) {op : UnOp} {t : TypeId} {y : Operand} {x : X} {k : IntKind} (hop : o.op = .unOp op t y) (hx : opX y = some x)
    (h : astep (ACalls P) nm ρ σ K (.un op k x)) : Good P w0 F o a w κ σ nm K := by
  have v1 := hI.opX hx
  simp only [astep] at h
  split at h
  · rename_i k1 m hb
    rw [hb] at v1
    have e1 := v1.int_inv
    split at h
    · rename_i hk
      subst hk
      split at h
      · exact .value hI (v := .int k1 (k1.wrap (0 - m))) (by simp [execOp, hop, e1, Op.unary, Op.intArith]) (.int _ _) h
      · obtain ⟨v, hv, hK⟩ := opt_some h
        obtain ⟨hu, hV⟩ := binv_ok (P := P) (w := w) (κ := κ) (t := 0) hv
        refine .value hI (v := scal v) ?_ hV hK
        simp only [binOp, if_neg (by simp : ¬ (k1 ≠ k1))] at hu
        simp [execOp, hop, e1, Op.unary, hu]
      · exact h.elim
    · exact h.elim
  · exact h.elim

theorem ok_conv (hI : Inv w0 F κ a w ρ σ) {s d : TypeId} {y : Operand} {x : X} {k k' : IntKind} (hop : o.op = .convert s d y) (hs : P.underlying s = some (.int k')) (hd : P.underlying d = some (.int k)) (hx : opX y = some x)
    (h : astep (ACalls P) nm ρ σ K (.conv k x)) : Good P w0 F o a w κ σ nm K := by
  have v1 := hI.opX hx
  simp only [astep] at h
  split at h
  · rename_i k1 m hb
    rw [hb] at v1
    exact .value hI (by simp [execOp, hop, v1.int_inv, convert, underlying, hs, hd, Conv.intToInt]) (.int _ _) h
  · exact h.elim

theorem ok_mkI (hI : Inv w0 F κ a w ρ σ) {t : TypeId} {y : Operand} {x : X} {d : TypeDesc} (hop : o.op = .makeInterface t y) (ht : P.underlying t = some d) (hd : ∀ ms, d ≠ .interface ms) (hx : opX y = some x)
    (h : astep (ACalls P) nm ρ σ K (.mkI t x)) : Good P w0 F o a w κ σ nm K := by
  refine .value hI (v := .iface t (a.eval y)) ?_ (.iface _ _ _ (hI.opX hx)) h
  cases d <;> first | (exact absurd rfl (hd _)) | simp [execOp, hop, Instr.makeInterface, underlying, ht]

theorem ok_mkF (hI : Inv w0 F κ a w ρ σ) {f : Nat} {p q : Array Operand} {x y : List X} (hop : o.op = .makeFunc (.func f) p q) (hx : opXs p.toList = some x) (hy : opXs q.toList = some y)
    (h : astep (ACalls P) nm ρ σ K (.mkF f x y)) : Good P w0 F o a w κ σ nm K := by
  have v1 := hI.opXs hx
  have v2 := hI.opXs hy
  refine .value hI (v := .func (.func f) ⟨p.toList.map a.eval⟩ ⟨q.toList.map a.eval⟩) ?_ (.func _ _ _ _ _ v1 v2) h
  obtain ⟨p⟩ := p
  obtain ⟨q⟩ := q
  simp [execOp, hop, Instr.makeFunc]

theorem ok_ext (hI : Inv w0 F κ a w ρ σ) {y : Operand} {x : X} {i : Nat} (hop : o.op = .extract y i) (hx : opX y = some x)
    (h : astep (ACalls P) nm ρ σ K (.ext x i)) : Good P w0 F o a w κ σ nm K := by
  have v1 := hI.opX hx
  simp only [astep] at h
  split at h
  · rename_i xs hb
    rw [hb] at v1
    obtain ⟨us, e1, hl⟩ := v1.tup_inv
    obtain ⟨v, hv, hK⟩ := opt_some h
    obtain ⟨u, hu, hV⟩ := hl.get? i v hv
    exact .value hI (v := u) (by simp [execOp, hop, e1, Instr.extract, hu]) hV hK
  · exact h.elim

theorem fieldOf_ok {s : TypeId} {f : Nat} {fd : Field} (h : fieldOf P s f = some fd) : ∃ fs, P.underlying s = some (.struct fs) ∧ fs[f]? = some fd := by
  unfold fieldOf at h
  split at h
  · rename_i fs hs; exact ⟨fs, hs, h⟩
  · cases h

theorem run_sizeOf {t : TypeId} {k : Nat} (h : sizeOf' P t = some k) : (sizeOf t).run P w = .ok k w := by
  unfold sizeOf' at h
  rw [Option.map_eq_some_iff] at h
  obtain ⟨i, hi, rfl⟩ := h
  simp [sizeOf, typeInfo, hi]

theorem ok_faddr (hI : Inv w0 F κ a w ρ σ) {s : TypeId} {y : Operand} {x : X} {f k : Nat} {fd : Field} (hop : o.op = .fieldAddr s y f) (hf : fieldOf P s f = some fd) (hk : sizeOf' P fd.type = some (k + 1)) (hx : opX y = some x)
    (h : astep (ACalls P) nm ρ σ K (.faddr fd.offset x)) : Good P w0 F o a w κ σ nm K := by
  have v1 := hI.opX hx
  obtain ⟨fs, hs, hfs⟩ := fieldOf_ok hf
  simp only [astep] at h
  split at h
  · rename_i n off hn
    rw [hn] at v1
    obtain ⟨e1, hd⟩ := v1.ptr_inv
    refine .value hI (v := .pointer (some ⟨κ.φ n, off + fd.offset, none⟩)) ?_ (.ptr _ _ hd) h
    simp [execOp, hop, e1, Instr.fieldAt, underlying, hs, hfs, Instr.sureAddr, fieldPlace, run_sizeOf hk, add_spot]
  · rename_i cs hn
    rw [hn] at v1
    obtain ⟨b, i, e1, hv⟩ := v1.eptr_inv
    by_cases hle : fd.offset ≤ cs.length
    · refine .value hI (v := .pointer (some ⟨b, i + fd.offset, none⟩)) ?_ (.eptr _ _ _ (hv.drop _ hle)) h
      simp [execOp, hop, e1, Instr.fieldAt, underlying, hs, hfs, Instr.sureAddr, fieldPlace, run_sizeOf hk, add_spot]
    · refine .value hI (v := .pointer (some ⟨b, i + fd.offset, none⟩)) ?_ (.eptr _ _ _ (by rw [List.drop_eq_nil_of_le (by omega)]; exact .nil _ _)) h
      simp [execOp, hop, e1, Instr.fieldAt, underlying, hs, hfs, Instr.sureAddr, fieldPlace, run_sizeOf hk, add_spot]
  · exact h.elim

/-- a part of an aggregate -/
theorem run_part {t : TypeId} {k : Option Nat} (hk : kindOf P t = some k) {us : List Value} {cs : List AV} (hl : Vl κ w us cs) {off : Nat} {x : AV} (hx : ldc cs off k = some x) :
    ∃ u, (part t ⟨us⟩ off).run P w = .ok u w ∧ V κ w u x := by
  obtain ⟨e1, e2⟩ := run_isAgg (w := w) hk
  cases k with
  | none =>
    obtain ⟨u, hu, hv⟩ := hl.get? off x (by simpa [ldc] using hx)
    exact ⟨u, by simp [part, e1, hu], hv⟩
  | some n =>
    simp only [ldc] at hx
    split at hx
    · simp only [Option.some.injEq] at hx
      subst hx
      refine ⟨.agg ⟨(us.drop off).take n⟩, ?_, .agg _ _ ((hl.drop off).take n)⟩
      simp [part, e1, e2 n rfl]
    · cases hx

theorem ok_fld (hI : Inv w0 F κ a w ρ σ) {s : TypeId} {y : Operand} {x : X} {f : Nat} {k : Option Nat} {fd : Field} (hop : o.op = .field s y f) (hf : fieldOf P s f = some fd) (hk : kindOf P fd.type = some k) (hx : opX y = some x)
    (h : astep (ACalls P) nm ρ σ K (.fld fd.offset k x)) : Good P w0 F o a w κ σ nm K := by
  have v1 := hI.opX hx
  obtain ⟨fs, hs, hfs⟩ := fieldOf_ok hf
  simp only [astep] at h
  split at h
  · rename_i cs hn
    rw [hn] at v1
    obtain ⟨us, e1, hl⟩ := v1.agg_inv
    obtain ⟨v, hv, hK⟩ := opt_some h
    obtain ⟨u, hu, hV⟩ := run_part (P := P) hk hl hv
    exact .value hI (v := u) (by simp [execOp, hop, e1, Instr.field, underlying, hs, hfs, asAgg, hu]) hV hK
  · exact h.elim
end
end Go.VL

/- The value logic, part G: operations that make memory, or write it. -/
namespace Go.VL
section
variable {P : Program} {w0 : World} {F : Nat → Prop} {o : Oper} {a : Act} {w : World} {κ : Kx} {ρ : List AV} {σ : St} {nm : Nat} {K : AV → St → Prop}

theorem V.one {v : Value} {x : AV} (h : V κ w v x) (hx : x.one = true) : v.oneCell' = true := by
  cases h <;> first | rfl | (simp [AV.one] at hx)

theorem Vl.ones : ∀ {vs : List Value} {xs : List AV}, Vl κ w vs xs → xs.all AV.one = true → ∀ u ∈ vs, u.oneCell' = true
  | _, _, .nil, _, u, hu => by simp at hu
  | _, _, .cons v x vs xs h t, ha, u, hu => by
    simp only [List.all_cons, Bool.and_eq_true] at ha
    rcases List.mem_cons.1 hu with rfl | hu
    · exact h.one ha.1
    · exact Vl.ones t ha.2 u hu

theorem fits_iff {k : Nat} {x : AV} (h : x.fits k = true) : x ≠ .any ∧ x.cells.length = k ∧ x.cells.all AV.one = true := by
  simp only [AV.fits, Bool.and_eq_true, beq_iff_eq] at h
  refine ⟨?_, h.1.2, h.2⟩
  rintro rfl
  simp [AV.isAny] at h

structure Same (w w' : World) (b : Nat) : Prop where
  os : w'.os = w.os
  tape : w'.tape = w.tape
  output : w'.output = w.output
  size : w'.heap.size = w.heap.size
  block : ∀ b', b' ≠ b → w'.heap[b']? = w.heap[b']?

theorem Same.trans {w w1 w2 : World} {b : Nat} (h : Same w w1 b) (k : Same w1 w2 b) : Same w w2 b :=
  ⟨k.os.trans h.os, k.tape.trans h.tape, k.output.trans h.output, k.size.trans h.size, fun b' hb => (k.block b' hb).trans (h.block b' hb)⟩

theorem heap_setCell {b i : Nat} {vs : List Value} {t : TypeId} {fz : Nat × Nat} (h : w.heap[b]? = some (.cells ⟨vs⟩ t fz)) (u : Value) :
    (w.setCell ⟨b, i, none⟩ u).heap[b]? = some (.cells ⟨vs.set i u⟩ t fz) ∧ Same w (w.setCell ⟨b, i, none⟩ u) b := by
  have hlt := (Array.getElem?_eq_some_iff.1 h).1
  refine ⟨?_, rfl, rfl, rfl, ?_, fun b' hb => ?_⟩
  · simp [World.setCell, Array.getElem?_modify, h]
  · simp [World.setCell]
  · have : ¬ b = b' := fun e => hb e.symm
    simp [World.setCell, Array.getElem?_modify, this]

theorem run_storeCells {b : Nat} {t : TypeId} {fz : Nat × Nat} {N : Nat} : ∀ (us : List Value) (off : Nat) (w : World) (vs : List Value), w.heap[b]? = some (.cells ⟨vs⟩ t fz) → fzOk N fz →
    off + us.length ≤ N → N ≤ vs.length → (∀ u ∈ us, u.oneCell' = true) → ∀ base j, base + j = off →
    ∃ w', (storeCells ⟨b, base, none⟩ us j).run P w = .ok () w' ∧ w'.heap[b]? = some (.cells ⟨vs.take off ++ us ++ vs.drop (off + us.length)⟩ t fz) ∧ Same w w' b
  | [], off, w, vs, hb, hf, hle, hN, ho, base, j, hj => ⟨w, by simp [storeCells], by simpa using hb, rfl, rfl, rfl, rfl, fun _ _ => rfl⟩
  | u :: us, off, w, vs, hb, hf, hle, hN, ho, base, j, hj => by
    simp only [List.length_cons] at hle
    have hlt : off < vs.length := by omega
    have hc : w.cell? ⟨b, off, none⟩ = some vs[off] := by rw [cell_of hb]; simp [hlt]
    have hfz := frozen_of hb hf (show off < N by omega)
    obtain ⟨h1, h2⟩ := heap_setCell (i := off) hb u
    obtain ⟨w', e1, e2, e3⟩ := run_storeCells us (off + 1) (w.setCell ⟨b, off, none⟩ u) (vs.set off u) h1 hf (by omega) (by simpa using hN) (fun x hx => ho x (List.mem_cons_of_mem _ hx)) base (j + 1) (by omega)
    refine ⟨w', ?_, ?_, h2.trans e3⟩
    · have : (⟨b, base, none⟩ : Addr).add j = ⟨b, off, none⟩ := by rw [add_spot, hj]
      simp only [storeCells, Sem.run_bind, this, run_store P w _ _ _ (ho u (List.mem_cons_self ..)), hc, hfz]
      simpa using e1
    · rw [e2]
      congr 2
      have e : (vs.set off u).take (off + 1) = vs.take off ++ [u] := by
        rw [List.take_add_one, List.take_set_of_le (Nat.le_refl _)]
        simp [hlt]
      have e' : (vs.set off u).drop (off + 1 + us.length) = vs.drop (off + (us.length + 1)) := by
        rw [List.drop_set_of_lt (by omega)]
        congr 1
        omega
      rw [e, e']
      simp

theorem Post.own {κ' : Kx} {w' : World} {σ' : St} (e : Ext κ w κ' w') (hd : κ'.dom = κ.dom) (hr : R w0.heap.size F κ' w' σ') (hf : Fr F w0 w') (hn : σ'.next = σ.next) : Post w0 F κ w σ nm κ' w' σ' :=
  ⟨e, fun n h => .inl (by rwa [hd] at h), hr, hf, by rw [hn]; exact Nat.le_refl _⟩

theorem ok_box (hI : Inv w0 F κ a w ρ σ) (hn : ¬ κ.dom nm) (hlt : nm < σ.next) {t : TypeId} {y : Operand} {x : X} (hop : o.op = .box t y) (hx : opX y = some x)
    (h : astep (ACalls P) nm ρ σ K (.box x)) : Good P w0 F o a w κ σ nm K := by
  have v1 := hI.opX hx
  simp only [astep] at h
  split at h
  · exact h.elim
  · rename_i ha
    have hv := v1.cells (by intro e; rw [e] at ha; exact ha rfl)
    obtain ⟨e, hr⟩ := hI.r.new_obj hI.hB hn hlt t [] (0, 0) (.inl rfl) hv
    simp only [List.append_nil] at e hr
    refine .value' (κ' := κ.name nm w.heap.size) ⟨e, fun n hd => hd.imp id .inl, hr, hI.fr.alloc _, Nat.le_refl _⟩ (v := .pointer (some ⟨w.heap.size, 0, none⟩)) ?_ ?_ h
    · have : (⟨(a.eval y).cells.toList⟩ : Array Value) = (a.eval y).cells := by simp
      simp [execOp, hop, Instr.box, newVar, newRow]
    · have := V.ptr (κ := κ.name nm w.heap.size) (w := w.alloc (.cells ⟨(a.eval y).cells.toList⟩ t)) nm 0 (.inr rfl)
      simpa [Kx.name] using this

theorem zeroOf_ok {t : TypeId} {z : AV} (h : zeroOf P t = some z) : ∃ i v, P.info? t = some i ∧ i.zero = some v ∧ constV v = some z := by
  unfold zeroOf at h
  split at h
  · rename_i i hi
    split at h
    · rename_i v hv; exact ⟨i, v, hi, hv, h⟩
    · cases h
  · cases h

theorem constAV_ne {v : Value} {z : AV} (h : constAV v = some z) : z ≠ .any := by
  unfold constAV at h
  split at h <;> simp only [Option.some.injEq, reduceCtorEq] at h <;> subst h <;> simp
theorem constV_ne {v : Value} {z : AV} (h : constV v = some z) : z ≠ .any := by
  unfold constV at h
  split at h
  · rw [Option.map_eq_some_iff] at h
    obtain ⟨ys, _, rfl⟩ := h
    simp
  · exact constAV_ne h

theorem ok_alloc (hI : Inv w0 F κ a w ρ σ) (hn : ¬ κ.dom nm) (hlt : nm < σ.next) {t : TypeId} {z : AV} (hop : o.op = .alloc t) (hz : zeroOf P t = some z)
    (h : astep (ACalls P) nm ρ σ K (.alloc z.cells)) : Good P w0 F o a w κ σ nm K := by
  obtain ⟨i, v, h1, h2, h3⟩ := zeroOf_ok hz
  simp only [astep] at h
  have hv := (constV_ok (κ := κ) (w := w) h3).cells (constV_ne h3)
  obtain ⟨e, hr⟩ := hI.r.new_obj hI.hB hn hlt t [] (0, 0) (.inl rfl) hv
  simp only [List.append_nil] at e hr
  refine .value' (κ' := κ.name nm w.heap.size) ⟨e, fun n hd => hd.imp id .inl, hr, hI.fr.alloc _, Nat.le_refl _⟩ (v := .pointer (some ⟨w.heap.size, 0, none⟩)) ?_ ?_ h
  · simp [execOp, hop, Instr.alloc, zeroValue, typeInfo, h1, h2, newVar, newRow]
  · have := V.ptr (κ := κ.name nm w.heap.size) (w := w.alloc (.cells ⟨v.cells.toList⟩ t)) nm 0 (.inr rfl)
    simpa [Kx.name] using this

theorem ok_store (hI : Inv w0 F κ a w ρ σ) {t : TypeId} {y z : Operand} {x x' : X} {k : Nat} (hop : o.op = .store t y z) (hk : sizeOf' P t = some k) (hx : opX y = some x) (hx' : opX z = some x')
    (h : astep (ACalls P) nm ρ σ K (.store k x x')) : Good P w0 F o a w κ σ nm K := by
  have v1 := hI.opX hx
  have v2 := hI.opX hx'
  simp only [astep] at h
  split at h
  · rename_i n off hn
    rw [hn] at v1
    obtain ⟨e1, hd⟩ := v1.ptr_inv
    split at h
    · rename_i cs hr
      split at h
      · rename_i hc
        simp only [Bool.and_eq_true, decide_eq_true_eq] at hc
        obtain ⟨hfit, hle⟩ := hc
        obtain ⟨f1, f2, f3⟩ := fits_iff hfit
        have hv := v2.cells f1
        obtain ⟨hdom, us, rest, tt, fz, g1, g2, g3, g4⟩ := hI.r.own n _ hr
        have hl := g3.length
        have hl2 := hv.length
        obtain ⟨w', r1, r2, r3⟩ := run_storeCells (P := P) (N := us.length) (a.eval z).cells.toList off w (us ++ rest) g1 g2 (by omega) (by simp) (hv.ones f3) off 0 rfl
        have hsp : (us ++ rest).take off ++ (a.eval z).cells.toList ++ (us ++ rest).drop (off + (a.eval z).cells.toList.length) = (us.take off ++ (a.eval z).cells.toList ++ us.drop (off + (a.eval z).cells.toList.length)) ++ rest := by
          rw [List.take_append_of_le_length (by omega), List.drop_append_of_le_length (by omega), List.append_assoc _ _ rest]
        rw [hsp] at r2
        obtain ⟨e, hr'⟩ := hI.r.set_obj (cs' := splice cs off (ev ρ x').cells) hr r2 (by
            refine g2.imp id (fun hx => Nat.le_trans ?_ hx)
            simp only [List.length_append, List.length_take, List.length_drop]
            omega) r3.block r3.size
          (((g3.take off).append hv).append (by have := g3.drop (off + (ev ρ x').cells.length); rwa [← hl2] at this ⊢))
        refine .skip' (.own e rfl hr' (hI.fr.owned hI.r rfl hr r3.os r3.tape r3.output r3.size r3.block) rfl) ?_ h
        have hsz : (a.eval z).cells.size = k := by rw [← f2, ← hl2]; simp
        simp only [execOp, hop, e1, Instr.storeAt, Instr.sureAddr, storeVar, Sem.run_bind, Sem.run_pure, Result.andThen_ok, run_sizeOf hk, hsz]
        simp [r1]
      · exact h.elim
    · exact h.elim
  · exact h.elim

theorem ok_mkMap (hI : Inv w0 F κ a w ρ σ) (hn : ¬ κ.dom nm) (hlt : nm < σ.next) {t : TypeId} (hop : o.op = .makeMap t none)
    (h : astep (ACalls P) nm ρ σ K .mkMap) : Good P w0 F o a w κ σ nm K := by
  simp only [astep] at h
  obtain ⟨e, hr⟩ := hI.r.new_map hI.hB hn hlt
  refine .value' (κ' := κ.name nm w.heap.size) ⟨e, fun n hd => hd.imp id .inl, hr, hI.fr.alloc _, Nat.le_refl _⟩ (v := .map (some w.heap.size)) ?_ ?_ h
  · simp [execOp, hop, Instr.makeMap]
  · have := V.map (κ := κ.name nm w.heap.size) (w := w.alloc (.map #[] 0)) nm (.inr rfl)
    simpa [Kx.name] using this
end
end Go.VL
