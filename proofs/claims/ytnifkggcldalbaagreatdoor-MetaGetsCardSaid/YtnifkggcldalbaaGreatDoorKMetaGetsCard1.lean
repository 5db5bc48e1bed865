/- Texts put together, of these what the theorem needs: The value logic, part A: abstract values, what they stand for in a memory, and how that is kept. The value logic, part B: what is owned, the relation to a memory, the instructions and what each comes to. The value logic, part C: from the loaded code to the instructions. The value logic, part D: the relation between what is owned and a memory, and how it is kept. The value logic, part E: each operation of the code comes to what its instruction says. The value logic, part F: operations that leave memory alone. The value logic, part G: operations that make memory, or write it. The value logic, part H: structs and slices that are built. The value logic, part J: slices that are cut, and grown. The value logic, part K: append. -/
import Derived.Below
import Derived.Orders
import Derived.Laws.World
import GoSem.Core.Utf8
import Derived.Lib.Bytealg
import Derived.Laws.Sem
import Derived.Laws.Cells
import Derived.Laws.Strings
import Derived.Laws.BytesArg
import Derived.Lib.ConvBytes
import Derived.Laws.NewFold
import Derived.Laws.Externs
import Derived.Tactics
import Derived.LoopN
import Derived.ProofKit
import Derived.KernelRfl
import Derived.ChangeSame
import Derived.ChangeVars
import Derived.JoinedOf
import Derived.RowKitTokens
import Derived.LaidLaws
import Derived.LaidHandle
import Derived.Stop.Joined
import Derived.SevenTiedAt
import Derived.Lib.LaidTab
import Derived.MakeChecks
import Derived.Lib.BufferWrite
import Derived.Lib.UnsafeStr
import Derived.Laws.MakeOwn
import Derived.WalkKit
import Derived.Stop.LaidErr
import Derived.Lay

set_option linter.unusedSimpArgs false
set_option linter.unusedVariables false

namespace Go.VL

/-- What is known of the place behind a slice: nothing; it is the nil slice; there is no room at all; it is named. -/
inductive Ver where
  | none
  | nil
  | zero
  | tip (g : Nat)

/-- Abstract values. -/
inductive AV where
  | any
  | bool (b : Bool)
  | int (k : IntKind) (n : Int)
  | str (s : ByteArray)
  | nilp
  | nilm
  | nilf
  | nili
  | ptr (n off : Nat)
  | eptr (cs : List AV)
  | sl (xs : List AV) (g : Ver)
  | ref (n off len : Nat)
  | room (g n : Nat)
  | refr (n k len : Nat)
  | map (n : Nat)
  | func (f : Nat) (first captured : List AV)
  | iface (t : Nat) (x : AV)
  | agg (cs : List AV)
  | tup (xs : List AV)

instance : Inhabited AV := ⟨.any⟩

def AV.cells : AV → List AV
  | .agg cs => cs
  | x => [x]

/-- What names stand for: which cells never change; a name's block; of a named end: where it is, where the room ends, an element's size. -/
structure Kx where
  I : Nat → Nat → Prop
  φ : Nat → Nat
  ψ : Nat → Nat
  χ : Nat → Nat
  ξ : Nat → Nat
  dom : Nat → Prop

mutual
inductive V (κ : Kx) (w : World) : Value → AV → Prop where
  | any (v : Value) : V κ w v .any
  | bool (b : Bool) : V κ w (.bool b) (.bool b)
  | int (k : IntKind) (n : Int) : V κ w (.int k n) (.int k n)
  | str (s : ByteArray) : V κ w (.string s) (.str s)
  | nilp : V κ w (.pointer none) .nilp
  | nilm : V κ w (.map none) .nilm
  | nilf : V κ w .nilFunc .nilf
  | nili : V κ w .nilIface .nili
  | ptr (n off : Nat) (h : κ.dom n) : V κ w (.pointer (some ⟨κ.φ n, off, none⟩)) (.ptr n off)
  | eptr (b o : Nat) (cs : List AV) (h : Vs κ w b o cs) : V κ w (.pointer (some ⟨b, o, none⟩)) (.eptr cs)
  | slnil (g : Ver) (hg : g = .nil ∨ g = .none ∨ g = .zero) : V κ w (.slice none 0 0) (.sl [] g)
  | slz (a : Addr) (g : Ver) (hg : g = .none ∨ g = .zero) : V κ w (.slice (some a) 0 0) (.sl [] g)
  | sl (b o cap k : Nat) (xs : List AV) (hk : ∀ x ∈ xs, x.cells.length = k) (hc : xs.length ≤ cap) (h : Vs κ w b o (xs.flatMap AV.cells)) :
      V κ w (.slice (some ⟨b, o, none⟩) xs.length cap) (.sl xs .none)
  | tip (o cap g : Nat) (xs : List AV) (hk : ∀ x ∈ xs, x.cells.length = κ.ξ g) (hc : xs.length ≤ cap) (hg : κ.dom g)
      (he : κ.ψ g = o + xs.length * κ.ξ g) (hr : κ.χ g = o + cap * κ.ξ g) (h : Vs κ w (κ.φ g) o (xs.flatMap AV.cells)) :
      V κ w (.slice (some ⟨κ.φ g, o, none⟩) xs.length cap) (.sl xs (.tip g))
  | ref (n off len cap : Nat) (h : κ.dom n) (hc : len ≤ cap) : V κ w (.slice (some ⟨κ.φ n, off, none⟩) len cap) (.ref n off len)
  | room (o cap g n : Nat) (hg : κ.dom g) (hc : n ≤ cap) (he : κ.ψ g = o) (hr : κ.χ g = o + cap * κ.ξ g) : V κ w (.slice (some ⟨κ.φ g, o, none⟩) n cap) (.room g n)
  | refr (n k len cap : Nat) (h : κ.dom n) (hc : len ≤ cap) (hr : κ.χ n = cap * k) : V κ w (.slice (some ⟨κ.φ n, 0, none⟩) len cap) (.refr n k len)
  | map (n : Nat) (h : κ.dom n) : V κ w (.map (some (κ.φ n))) (.map n)
  | func (f : Nat) (a b : List Value) (x y : List AV) (h1 : Vl κ w a x) (h2 : Vl κ w b y) : V κ w (.func (.func f) ⟨a⟩ ⟨b⟩) (.func f x y)
  | iface (t : Nat) (v : Value) (x : AV) (h : V κ w v x) : V κ w (.iface t v) (.iface t x)
  | agg (a : List Value) (x : List AV) (h : Vl κ w a x) : V κ w (.agg ⟨a⟩) (.agg x)
  | tup (a : List Value) (x : List AV) (h : Vl κ w a x) : V κ w (.tuple ⟨a⟩) (.tup x)
inductive Vs (κ : Kx) (w : World) : Nat → Nat → List AV → Prop where
  | nil (b o : Nat) : Vs κ w b o []
  | cons (b o : Nat) (u : Value) (x : AV) (xs : List AV) (hI : κ.I b o) (hc : w.cell? ⟨b, o, none⟩ = some u) (hu : V κ w u x) (ht : Vs κ w b (o + 1) xs) :
      Vs κ w b o (x :: xs)
inductive Vl (κ : Kx) (w : World) : List Value → List AV → Prop where
  | nil : Vl κ w [] []
  | cons (v : Value) (x : AV) (vs : List Value) (xs : List AV) (h : V κ w v x) (t : Vl κ w vs xs) : Vl κ w (v :: vs) (x :: xs)
end

/-- What was known stays known. -/
structure Ext (κ : Kx) (w : World) (κ' : Kx) (w' : World) : Prop where
  I : ∀ b o, κ.I b o → κ'.I b o
  φ : ∀ n, κ.dom n → κ'.φ n = κ.φ n
  ψ : ∀ n, κ.dom n → κ'.ψ n = κ.ψ n
  χ : ∀ n, κ.dom n → κ'.χ n = κ.χ n
  ξ : ∀ n, κ.dom n → κ'.ξ n = κ.ξ n
  dom : ∀ n, κ.dom n → κ'.dom n
  cell : ∀ b o, κ.I b o → w'.cell? ⟨b, o, none⟩ = w.cell? ⟨b, o, none⟩

theorem Ext.refl (κ : Kx) (w : World) : Ext κ w κ w := ⟨fun _ _ h => h, fun _ _ => rfl, fun _ _ => rfl, fun _ _ => rfl, fun _ _ => rfl, fun _ h => h, fun _ _ _ => rfl⟩

theorem Ext.trans {κ κ1 κ2 : Kx} {w w1 w2 : World} (h : Ext κ w κ1 w1) (k : Ext κ1 w1 κ2 w2) : Ext κ w κ2 w2 where
  I := fun b o hi => k.I b o (h.I b o hi)
  φ := fun n hn => (k.φ n (h.dom n hn)).trans (h.φ n hn)
  ψ := fun n hn => (k.ψ n (h.dom n hn)).trans (h.ψ n hn)
  χ := fun n hn => (k.χ n (h.dom n hn)).trans (h.χ n hn)
  ξ := fun n hn => (k.ξ n (h.dom n hn)).trans (h.ξ n hn)
  dom := fun n hn => k.dom n (h.dom n hn)
  cell := fun b o hi => (k.cell b o (h.I b o hi)).trans (h.cell b o hi)

mutual
theorem V.mono {κ κ' : Kx} {w w' : World} (e : Ext κ w κ' w') : ∀ {v : Value} {x : AV}, V κ w v x → V κ' w' v x
  | _, _, .any v => .any v
  | _, _, .bool b => .bool b
  | _, _, .int k n => .int k n
  | _, _, .str s => .str s
  | _, _, .nilp => .nilp
  | _, _, .nilm => .nilm
  | _, _, .nilf => .nilf
  | _, _, .nili => .nili
  | _, _, .ptr n off h => by rw [← e.φ n h]; exact .ptr n off (e.dom _ h)
  | _, _, .eptr b o cs h => .eptr b o cs (Vs.mono e h)
  | _, _, .slnil g hg => .slnil g hg
  | _, _, .slz a g hg => .slz a g hg
  | _, _, .sl b o cap k xs hk hc h => .sl b o cap k xs hk hc (Vs.mono e h)
  | _, _, .tip o cap g xs hk hc hg he hr h => by
    have hx := Vs.mono e h
    rw [← e.φ g hg] at hx ⊢
    exact .tip o cap g xs (by rw [e.ξ g hg]; exact hk) hc (e.dom _ hg) (by rw [e.ψ g hg, e.ξ g hg]; exact he) (by rw [e.χ g hg, e.ξ g hg]; exact hr) hx
  | _, _, .ref n off len cap h hc => by rw [← e.φ n h]; exact .ref n off len cap (e.dom _ h) hc
  | _, _, .room o cap g n hg hc he hr => by
    rw [← e.φ g hg]
    exact .room o cap g n (e.dom _ hg) hc (by rw [e.ψ g hg]; exact he) (by rw [e.χ g hg, e.ξ g hg]; exact hr)
  | _, _, .refr n k len cap h hc hr => by rw [← e.φ n h]; exact .refr n k len cap (e.dom _ h) hc (by rw [e.χ n h]; exact hr)
  | _, _, .map n h => by rw [← e.φ n h]; exact .map n (e.dom _ h)
  | _, _, .func f a b x y h1 h2 => .func f a b x y (Vl.mono e h1) (Vl.mono e h2)
  | _, _, .iface t v x h => .iface t v x (V.mono e h)
  | _, _, .agg a x h => .agg a x (Vl.mono e h)
  | _, _, .tup a x h => .tup a x (Vl.mono e h)
theorem Vs.mono {κ κ' : Kx} {w w' : World} (e : Ext κ w κ' w') : ∀ {b o : Nat} {xs : List AV}, Vs κ w b o xs → Vs κ' w' b o xs
  | _, _, _, .nil b o => .nil b o
  | _, _, _, .cons b o u x xs hI hc hu ht => .cons b o u x xs (e.I b o hI) ((e.cell b o hI).trans hc) (V.mono e hu) (Vs.mono e ht)
theorem Vl.mono {κ κ' : Kx} {w w' : World} (e : Ext κ w κ' w') : ∀ {vs : List Value} {xs : List AV}, Vl κ w vs xs → Vl κ' w' vs xs
  | _, _, .nil => .nil
  | _, _, .cons v x vs xs h t => .cons v x vs xs (V.mono e h) (Vl.mono e t)
end

theorem Vl.length {κ : Kx} {w : World} : ∀ {vs : List Value} {xs : List AV}, Vl κ w vs xs → vs.length = xs.length
  | _, _, .nil => rfl
  | _, _, .cons _ _ _ _ _ t => by simp [t.length]

theorem Vl.get {κ : Kx} {w : World} : ∀ {vs : List Value} {xs : List AV} (_ : Vl κ w vs xs) (i : Nat), V κ w (vs.getD i undef) (xs.getD i .any)
  | _, _, .nil, i => by simp; exact .any _
  | _, _, .cons v x vs xs h t, 0 => by simpa using h
  | _, _, .cons v x vs xs h t, i + 1 => by simpa using Vl.get t i

theorem Vl.get? {κ : Kx} {w : World} : ∀ {vs : List Value} {xs : List AV} (_ : Vl κ w vs xs) (i : Nat) (x : AV), xs[i]? = some x → ∃ v, vs[i]? = some v ∧ V κ w v x
  | _, _, .nil, i, x, h => by simp at h
  | _, _, .cons v y vs xs hy t, 0, x, h => by simp at h; subst h; exact ⟨v, rfl, hy⟩
  | _, _, .cons v y vs xs hy t, i + 1, x, h => by simpa using Vl.get? t i x (by simpa using h)

theorem Vl.append {κ : Kx} {w : World} : ∀ {vs us : List Value} {xs ys : List AV}, Vl κ w vs xs → Vl κ w us ys → Vl κ w (vs ++ us) (xs ++ ys)
  | _, _, _, _, .nil, k => by simpa using k
  | _, _, _, _, .cons v x vs xs h t, k => by simpa using Vl.cons v x _ _ h (Vl.append t k)

theorem Vl.set {κ : Kx} {w : World} : ∀ {vs : List Value} {xs : List AV} (_ : Vl κ w vs xs) (i : Nat) {v : Value} {x : AV}, V κ w v x → Vl κ w (vs.set i v) (xs.set i x)
  | _, _, .nil, i, _, _, _ => by simpa using Vl.nil
  | _, _, .cons v y vs xs hy t, 0, _, _, k => by simpa using Vl.cons _ _ _ _ k t
  | _, _, .cons v y vs xs hy t, i + 1, _, _, k => by simpa using Vl.cons _ _ _ _ hy (Vl.set t i k)

theorem Vl.take {κ : Kx} {w : World} : ∀ {vs : List Value} {xs : List AV} (_ : Vl κ w vs xs) (i : Nat), Vl κ w (vs.take i) (xs.take i)
  | _, _, _, 0 => by simpa using Vl.nil
  | _, _, .nil, i + 1 => by simpa using Vl.nil
  | _, _, .cons v y vs xs hy t, i + 1 => by simpa using Vl.cons _ _ _ _ hy (Vl.take t i)

theorem Vl.drop {κ : Kx} {w : World} : ∀ {vs : List Value} {xs : List AV} (_ : Vl κ w vs xs) (i : Nat), Vl κ w (vs.drop i) (xs.drop i)
  | _, _, h, 0 => by simpa using h
  | _, _, .nil, i + 1 => by simpa using Vl.nil
  | _, _, .cons v y vs xs hy t, i + 1 => by simpa using Vl.drop t i

theorem Vs.append {κ : Kx} {w : World} : ∀ {b o : Nat} {xs ys : List AV}, Vs κ w b o xs → Vs κ w b (o + xs.length) ys → Vs κ w b o (xs ++ ys)
  | _, _, _, _, .nil b o, k => by simpa using k
  | _, _, _, _, .cons b o u x xs hI hc hu ht, k => .cons b o u x _ hI hc hu (Vs.append ht (by simpa [Nat.add_assoc, Nat.add_comm 1] using k))

theorem Vs.left {κ : Kx} {w : World} : ∀ {b o : Nat} (xs : List AV) {ys : List AV}, Vs κ w b o (xs ++ ys) → Vs κ w b o xs
  | b, o, [], _, _ => .nil b o
  | _, _, x :: xs, _, .cons b o u _ _ hI hc hu ht => .cons b o u x xs hI hc hu (Vs.left xs ht)

theorem Vs.right {κ : Kx} {w : World} : ∀ {b o : Nat} (xs : List AV) {ys : List AV}, Vs κ w b o (xs ++ ys) → Vs κ w b (o + xs.length) ys
  | _, _, [], _, h => by simpa using h
  | _, _, x :: xs, ys, .cons b o u _ _ hI hc hu ht => by
    have := Vs.right xs ht
    simpa [Nat.add_assoc, Nat.add_comm 1] using this

theorem Vs.drop {κ : Kx} {w : World} {b o : Nat} {xs : List AV} (h : Vs κ w b o xs) (i : Nat) (hi : i ≤ xs.length) : Vs κ w b (o + i) (xs.drop i) := by
  have h' : Vs κ w b o (xs.take i ++ xs.drop i) := by rwa [List.take_append_drop]
  have := Vs.right _ h'
  rwa [List.length_take, Nat.min_eq_left hi] at this

/-- a cell of a row -/
theorem Vs.cell {κ : Kx} {w : World} : ∀ {b o : Nat} {xs : List AV} (_ : Vs κ w b o xs) (i : Nat) (x : AV), xs[i]? = some x → ∃ u, w.cell? ⟨b, o + i, none⟩ = some u ∧ V κ w u x
  | _, _, _, .nil b o, i, x, h => by simp at h
  | _, _, _, .cons b o u y xs hI hc hu ht, 0, x, h => by simp at h; subst h; exact ⟨u, hc, hu⟩
  | _, _, _, .cons b o u y xs hI hc hu ht, i + 1, x, h => by
    obtain ⟨u', h1, h2⟩ := Vs.cell ht i x (by simpa using h)
    exact ⟨u', by rw [← h1]; congr 2; omega, h2⟩

/-- the cells of a row, as a list -/
theorem Vs.row {κ : Kx} {w : World} : ∀ {b o : Nat} {xs : List AV}, Vs κ w b o xs → ∃ us : List Value, Vl κ w us xs ∧ us.length = xs.length ∧ ∀ i u, us[i]? = some u → w.cell? ⟨b, o + i, none⟩ = some u
  | _, _, _, .nil b o => ⟨[], .nil, rfl, fun i u h => by simp at h⟩
  | _, _, _, .cons b o u y xs hI hc hu ht => by
    obtain ⟨us, h1, h2, h3⟩ := Vs.row ht
    refine ⟨u :: us, .cons _ _ _ _ hu h1, by simp [h2], fun i v h => ?_⟩
    cases i with
    | zero => simp at h; subst h; exact hc
    | succ i => rw [← h3 i v (by simpa using h)]; congr 2; omega

/-- a row, out of cells that never change -/
theorem Vs.mk {κ : Kx} {w : World} : ∀ {b o : Nat} {us : List Value} {xs : List AV}, Vl κ w us xs → (∀ i u, us[i]? = some u → κ.I b (o + i) ∧ w.cell? ⟨b, o + i, none⟩ = some u) → Vs κ w b o xs
  | b, o, _, _, .nil, _ => .nil b o
  | b, o, _, _, .cons v x vs xs h t, hc => by
    have h0 := hc 0 v (by simp)
    exact .cons b o v x xs h0.1 h0.2 h (Vs.mk t (fun i u hi => by
      have := hc (i + 1) u (by simpa using hi)
      rwa [show o + (i + 1) = o + 1 + i by omega] at this))

/-- a value's cells -/
theorem V.cells {κ : Kx} {w : World} {v : Value} {x : AV} (h : V κ w v x) (hx : x ≠ .any) : Vl κ w v.cells.toList x.cells := by
  cases h <;> first
    | exact absurd rfl hx
    | (rename_i h; exact h)
    | exact .cons _ _ _ _ (by constructor <;> assumption) .nil

theorem V.weak {κ : Kx} {w : World} {v : Value} {xs : List AV} {g : Ver} (h : V κ w v (.sl xs g)) : V κ w v (.sl xs .none) := by
  cases h with
  | slnil g hg => exact .slnil _ (.inr (.inl rfl))
  | slz a => exact .slz a _ (.inl rfl)
  | sl b o cap k xs hk hc h => exact .sl b o cap k xs hk hc h
  | tip o cap g xs hk hc hg he hr h => exact .sl _ o cap _ xs hk hc h

end Go.VL

namespace Go.VL

/-- What a name owns: a row of cells; the room behind a slice's end (elements of k cells); a map's entries, when each was put, and the next such time; a walk over a map; a walk over a text; a package variable's cell, or its cells, never written. -/
inductive Res where
  | obj (cs : List AV)
  | tip (k : Nat)
  | map (es : List (AV × AV)) (ts : List Nat) (clk : Nat)
  | iter (m : Option Nat) (since : Nat) (seen : List Nat) (last : Nat)
  | siter (s : ByteArray) (pos : Nat)
  | glob (b : Nat) (v : Value)
  | gl (b : Nat) (cs : List AV)

/-- is it a thing that may be written? -/
def Res.real : Res → Bool
  | .glob _ _ => false
  | .gl _ _ => false
  | _ => true

structure St where
  next : Nat
  res : Nat → Option Res

def St.set (σ : St) (n : Nat) (r : Res) : St := { σ with res := fun m => if m = n then some r else σ.res m }

def St.del (σ : St) (n : Nat) : St := { σ with res := fun m => if m = n then none else σ.res m }

def St.up (σ : St) (k : Nat) : St := { σ with next := σ.next + k }

@[simp] theorem St.set_next (σ : St) (n : Nat) (r : Res) : (σ.set n r).next = σ.next := rfl

@[simp] theorem St.del_next (σ : St) (n : Nat) : (σ.del n).next = σ.next := rfl

@[simp] theorem St.up_next (σ : St) (k : Nat) : (σ.up k).next = σ.next + k := rfl

@[simp] theorem St.up_res (σ : St) (k : Nat) : (σ.up k).res = σ.res := rfl

@[simp] theorem St.set_same (σ : St) (n : Nat) (r : Res) : (σ.set n r).res n = some r := by simp [St.set]

theorem St.set_other (σ : St) {n m : Nat} (r : Res) (h : m ≠ n) : (σ.set n r).res m = σ.res m := by simp [St.set, h]

@[simp] theorem St.set_set (σ : St) (n : Nat) (r s : Res) : (σ.set n r).set n s = σ.set n s := by
  simp only [St.set]; congr 1; funext m; by_cases h : m = n <;> simp [h]

theorem St.set_self {σ : St} {n : Nat} {r : Res} (h : σ.res n = some r) : σ.set n r = σ := by
  cases σ; simp only [St.set, St.mk.injEq, true_and]; funext m; by_cases hm : m = n
  · subst hm; simp at h ⊢; exact h.symm
  · simp [hm]

theorem St.set_comm (σ : St) {n m : Nat} (r s : Res) (h : n ≠ m) : (σ.set n r).set m s = (σ.set m s).set n r := by
  simp only [St.set]; congr 1; funext i; by_cases h1 : i = n <;> by_cases h2 : i = m <;> simp_all

inductive X where
  | t (i : Nat)
  | c (v : AV)

def ev (ρ : List AV) : X → AV
  | .t i => ρ.getD i .any
  | .c v => v

/-- How a slice that is made is kept: as a value; as a value whose room is owned; as a row that is owned; as one without any room; as room alone; as a row that is owned, and its room. -/
inductive Hold where
  | val | tip | own | zero | room | grow

inductive I where
  | mv (x : X)
  | pick (c a b : X)
  | box (x : X)
  | alloc (z : List AV)
  | build (z : List AV) (parts : List (Nat × Nat × X))
  | bslice (k : Nat) (h : Hold) (parts : List X)
  | load (k : Option Nat) (x : X)
  | store (k : Nat) (a x : X)
  | nilCheck (x : X)
  | bin (op : BinOp) (k : IntKind) (x y : X)
  | sbin (op : BinOp) (x y : X)
  | bbin (neg : Bool) (x y : X)
  | eqI (neg lit : Bool) (ts : List (Nat × IntKind)) (x y : X)
  | eqP (neg : Bool) (x y : X)
  | eqA (neg : Bool) (n : Nat) (x y : X)
  | not (x : X)
  | un (op : UnOp) (k : IntKind) (x : X)
  | conv (k : IntKind) (x : X)
  | convBS (x : X)
  | convSB (h : Hold) (x : X)
  | mkI (t : Nat) (x : X)
  | mkF (f : Nat) (first captured : List X)
  | mkMap
  | mkS (k bytes : Nat) (h : Hold) (z : AV) (len cap : X)
  | slice (k : Nat) (x : X) (lo hi : Option X)
  | sslice (x : X) (lo hi : Option X)
  | faddr (off : Nat) (x : X)
  | fld (off : Nat) (k : Option Nat) (x : X)
  | iaddr (k : Nat) (x i : X)
  | iaddrA (n k : Nat) (x i : X)
  | idxS (x i : X)
  | look (kk : Nat) (z : AV) (ok : Bool) (m k : X)
  | mapUp (kk : Nat) (m k v : X)
  | ext (x : X) (i : Nat)
  | len (x : X)
  | slen (x : X)
  | mlen (x : X)
  | app (k bytes : Nat) (h : Hold) (s x : X)
  | eqS (neg : Bool) (x : X)
  | qload (c : Nat) (k : Option Nat) (x : X)
  | appZ (k bytes : Nat) (z : AV) (s n : X)
  | cvt (x : X)
  | cap (x : X)
  | panic
  | copy (k : Nat) (d s : X)
  | clr (k : Nat) (z : AV) (x : X)
  | appR (k bytes : Nat) (s x : X)
  | lstore (c k : Nat) (a x : X)
  | lapp (c k bytes : Nat) (s x : X)
  | mapEnt (kk : Nat) (z : AV) (m k : X)
  | entSt (m s x : X)
  | range (x : X)
  | srange (x : X)
  | next (x : X)
  | snext (x : X)
  | entry (x : X)
  | del (kk : Nat) (m k : X)
  | mn (xs : List X)
  | mx (xs : List X)
  | call (f : Nat) (args : List X)
  | callv (x : X) (args : List X)
  | qcall (f : Nat) (args : List X)
  | qcallv (x : X) (args : List X)
  | pcall (f : Nat) (args : List X)
  | mcall (k f : Nat) (args : List X)
  | xidx (s c : X)
  | xcnt (s c : X)
  | gload (g : Nat) (k : Option Nat)
  | gaddr (g n k : Nat) (i : X)
  | sliceA (n k : Nat) (x : X) (lo hi : Option X)

structure O where
  dst : Option Nat
  i : I
  g : Option (Nat × Bool)

inductive C where
  | skip
  | reg (ops : List O)
  | seq (a b : C)
  | cond (x : X) (a b : C)
  | block (id : Nat) (c : C)
  | loop (c : C)
  | exit (id : Nat)
  | ret

/-! ### What the instructions come to -/

def ldc (cs : List AV) (off : Nat) : Option Nat → Option AV
  | none => cs[off]?
  | some k => if off + k ≤ cs.length then some (.agg ((cs.drop off).take k)) else none

def splice (cs : List AV) (off : Nat) (ys : List AV) : List AV := cs.take off ++ ys ++ cs.drop (off + ys.length)

def AV.er1 : AV → AV
  | .sl xs _ => .sl xs .none
  | x => x

/-- an element: what is known of rooms is dropped -/
def AV.er : AV → AV
  | .agg cs => .agg (cs.map AV.er1)
  | x => x.er1

/-- bytes -/
def bytesAV (l : List UInt8) : List AV := l.map fun b => .int .u8 b.toNat

def toBytes : List AV → Option (List UInt8)
  | [] => some []
  | .int .u8 n :: r => (toBytes r).map (UInt8.ofNat n.toNat :: ·)
  | _ => none

def AV.isAny : AV → Bool
  | .any => true
  | _ => false

/-- what one cell of memory may hold -/
def AV.one : AV → Bool
  | .any | .agg _ | .tup _ => false
  | _ => true

/-- a value of k cells -/
def AV.fits (k : Nat) (x : AV) : Bool := !x.isAny && x.cells.length == k && x.cells.all AV.one

def binv (op : BinOp) (k : IntKind) (a : Int) (k' : IntKind) (b : Int) : Option AV :=
  match op with
  | .shl => if b < 0 then none else some (.int k (k.wrap (a * 2 ^ min b.toNat k.bits)))
  | .shr => if b < 0 then none else some (.int k (a.fdiv (2 ^ min b.toNat k.bits)))
  | _ => if k = k' then
    match op with
    | .add => some (.int k (k.wrap (a + b)))
    | .sub => some (.int k (k.wrap (a - b)))
    | .mul => some (.int k (k.wrap (a * b)))
    | .quo => if b = 0 then none else some (.int k (k.wrap (a.tdiv b)))
    | .rem => if b = 0 then none else some (.int k (a.tmod b))
    | .and => some (.int k (k.wrap (BitVec.ofInt k.bits a &&& BitVec.ofInt k.bits b).toNat))
    | .or => some (.int k (k.wrap (BitVec.ofInt k.bits a ||| BitVec.ofInt k.bits b).toNat))
    | .xor => some (.int k (k.wrap (BitVec.ofInt k.bits a ^^^ BitVec.ofInt k.bits b).toNat))
    | .andNot => some (.int k (k.wrap (BitVec.ofInt k.bits a &&& ~~~ BitVec.ofInt k.bits b).toNat))
    | .eql => some (.bool (a == b))
    | .neq => some (.bool (a != b))
    | .lss => some (.bool (decide (a < b)))
    | .leq => some (.bool (decide (a ≤ b)))
    | .gtr => some (.bool (decide (a > b)))
    | .geq => some (.bool (decide (a ≥ b)))
    | _ => none
  else none

def sbinv (op : BinOp) (a b : ByteArray) : Option AV :=
  match op with
  | .add => if ((a.size + b.size : Nat) : Int) > IntKind.i64.max then none else some (.str (a ++ b))
  | .eql => some (.bool (decide (a = b)))
  | .neq => some (.bool !(decide (a = b)))
  | .lss => some (.bool (Op.bytesLess a.toList b.toList))
  | .leq => some (.bool (Op.bytesLess a.toList b.toList || a.toList == b.toList))
  | .gtr => some (.bool !(Op.bytesLess a.toList b.toList || a.toList == b.toList))
  | .geq => some (.bool !(Op.bytesLess a.toList b.toList))
  | _ => none

/-- '==' of two interface values: nil, or of one of the listed types of whole numbers -/
def eqIv (lit : Bool) (ts : List (Nat × IntKind)) : AV → AV → Option Bool
  | .nili, .nili => if lit then some true else none
  | .nili, .iface _ _ | .iface _ _, .nili => some false
  | .iface t (.int k a), .iface t' (.int k' b) => if t = t' then (if k = k' && ts.any (fun p => p.1 == t && p.2 == k) then some (a == b) else none) else some false
  | .iface t _, .iface t' _ => if t = t' then none else some false
  | _, _ => none

def eqPv : AV → AV → Option Bool
  | .nilp, .nilp => some true
  | .nilp, .ptr _ _ | .ptr _ _, .nilp => some false
  | .ptr n a, .ptr m b => if n = m then some (a == b) else none
  | _, _ => none

/-- '==' of two rows of numbers, bools and texts -/
def eqAv : List AV → List AV → Option Bool
  | [], [] => some true
  | .int k a :: x, .int k' b :: y => if k = k' then (eqAv x y).map fun r => a == b && r else none
  | .bool a :: x, .bool b :: y => (eqAv x y).map fun r => a == b && r
  | .str a :: x, .str b :: y => (eqAv x y).map fun r => decide (a = b) && r
  | _, _ => none

/-- '==' of two keys of a map -/
def keq : AV → AV → Option Bool
  | .int k a, .int k' b => if k = k' then some (a == b) else none
  | .str a, .str b => some (decide (a = b))
  | .agg a, .agg b => eqAv a b
  | _, _ => none

def ints : List AV → Bool
  | [] => true
  | .int _ _ :: r => ints r
  | _ => false

def kshape : Nat → AV → Bool
  | 0, .int _ _ => true
  | 1, .str _ => true
  | n + 2, .agg cs => cs.length == n && ints cs
  | _, _ => false

def mfind (k : AV) : List (AV × AV) → Option (Option AV)
  | [] => some none
  | e :: es => match keq k e.1 with
    | some true => some (some e.2)
    | some false => mfind k es
    | none => none

def mput (k v : AV) : List (AV × AV) → List (AV × AV)
  | [] => [(k, v)]
  | e :: es => match keq k e.1 with
    | some true => (k, v) :: es
    | _ => e :: mput k v es

def midx (k : AV) : List (AV × AV) → Nat
  | [] => 0
  | e :: es => match keq k e.1 with
    | some true => 0
    | _ => midx k es + 1

def mdel (k : AV) : List (AV × AV) → List (AV × AV)
  | [] => []
  | e :: es => match keq k e.1 with
    | some true => es
    | _ => e :: mdel k es

def idx (ρ : List AV) (d : Int) : Option X → Option Int
  | none => some d
  | some x => match ev ρ x with
    | .int _ n => some n
    | _ => none

def mn2 : AV → AV → Option AV
  | .int k x, .int _ y => some (.int k (if y < x then y else x))
  | _, _ => none

def mx2 : AV → AV → Option AV
  | .int k x, .int _ y => some (.int k (if y > x then y else x))
  | _, _ => none

def fillA (ρ : List AV) : List AV → List (Nat × Nat × X) → Option (List AV)
  | cs, [] => some cs
  | cs, (off, k, x) :: r =>
    if (ev ρ x).fits k ∧ off + k ≤ cs.length then fillA ρ (splice cs off (ev ρ x).cells) r else none

/-- what is appended -/
def srcOf (σ : St) (k : Nat) : AV → Option (List AV)
  | .sl ys _ => some (ys.map AV.er)
  | .str t => some (bytesAV t.data.toList)
  | .ref n off len => match σ.res n with
    | some (.obj cs) => if k = 1 ∧ off + len ≤ cs.length ∧ ((cs.drop off).take len).all AV.one = true then some (((cs.drop off).take len).map AV.er1) else none
    | _ => none
  | _ => none

/-- cells in pieces of k -/
def chunks (k : Nat) : Nat → List AV → List (List AV)
  | 0, _ => []
  | n + 1, cs => cs.take k :: chunks k n (cs.drop k)

/-- an owned row, or a part of it, of elements of k cells, read -/
def srcC (σ : St) (k : Nat) : AV → Option (List AV)
  | .ref n off len => match σ.res n with
    | some (.obj cs) => if off + len * k ≤ cs.length ∧ ((cs.drop off).take (len * k)).all AV.one = true then some ((chunks k len (((cs.drop off).take (len * k)).map AV.er1)).map AV.agg) else none
    | _ => none
  | .refr n k' len => match σ.res n with
    | some (.obj cs) => if k' = k ∧ len * k ≤ cs.length ∧ (cs.take (len * k)).all AV.one = true then some ((chunks k len ((cs.take (len * k)).map AV.er1)).map AV.agg) else none
    | _ => none
  | _ => none

def srcR (σ : St) (k : Nat) (x : AV) : Option (List AV) := match srcOf σ k x with
  | some ys => some ys
  | none => srcC σ k x

def Ver.noRoom : Ver → Bool
  | .nil | .zero => true
  | _ => false

def AV.isInt : AV → Bool
  | .int _ _ => true
  | _ => false

abbrev CallP := Nat → List AV → St → (AV → St → Prop) → Prop

def opt {α : Type} (K : α → Prop) : Option α → Prop
  | some v => K v
  | none => False

def held (k nm : Nat) (σ : St) (K : AV → St → Prop) (xs : List AV) : Hold → Prop
  | .val => K (.sl (xs.map AV.er) .none) σ
  | .tip => K (.sl (xs.map AV.er) (.tip nm)) (σ.set nm (.tip k))
  | .own => K (.ref nm 0 xs.length) (σ.set nm (.obj (xs.flatMap AV.cells)))
  | .zero => False
  | .room => K (.room nm xs.length) (σ.set nm (.tip k))
  | .grow => False

def astep (CP : CallP) (nm : Nat) (ρ : List AV) (σ : St) (K : AV → St → Prop) : I → Prop
  | .mv x => K (ev ρ x) σ
  | .pick c a b => match ev ρ c with
    | .bool t => K (if t then ev ρ a else ev ρ b) σ
    | _ => False
  | .box x => if (ev ρ x).isAny then False else K (.ptr nm 0) (σ.set nm (.obj (ev ρ x).cells))
  | .alloc z => K (.ptr nm 0) (σ.set nm (.obj z))
  | .build z parts => opt (fun v => K v σ) ((fillA ρ z parts).map .agg)
  | .bslice k h parts => match h with
    | .zero => if parts.isEmpty then K (.sl [] .zero) σ else False
    | h => if (parts.map (ev ρ)).all (AV.fits k) then held k nm σ K (parts.map (ev ρ)) h else False
  | .load k x => match ev ρ x with
    | .ptr n off => match σ.res n with
      | some (.obj cs) => opt (fun v => K v σ) (ldc cs off k)
      | _ => False
    | .eptr cs => opt (fun v => K v σ) (ldc cs 0 k)
    | _ => False
  | .store k a x => match ev ρ a with
    | .ptr n off => match σ.res n with
      | some (.obj cs) => if (ev ρ x).fits k && decide (off + k ≤ cs.length) then K (.tup []) (σ.set n (.obj (splice cs off (ev ρ x).cells))) else False
      | _ => False
    | _ => False
  | .nilCheck x => match ev ρ x with
    | .ptr n off => K (.ptr n off) σ
    | .eptr cs => K (.eptr cs) σ
    | _ => False
  | .bin op k x y => match ev ρ x, ev ρ y with
    | .int k1 a, .int k2 b => if k1 = k then opt (fun v => K v σ) (binv op k a k2 b) else False
    | _, _ => False
  | .sbin op x y => match ev ρ x, ev ρ y with
    | .str a, .str b => opt (fun v => K v σ) (sbinv op a b)
    | _, _ => False
  | .bbin neg x y => match ev ρ x, ev ρ y with
    | .bool a, .bool b => K (.bool ((a == b) != neg)) σ
    | _, _ => False
  | .eqI neg lit ts x y => match eqIv lit ts (ev ρ x) (ev ρ y) with
    | some b => K (.bool (b != neg)) σ
    | none => False
  | .eqP neg x y => match eqPv (ev ρ x) (ev ρ y) with
    | some b => K (.bool (b != neg)) σ
    | none => False
  | .eqA neg n x y => match ev ρ x, ev ρ y with
    | .agg a, .agg b => if a.length = n ∧ ints a = true then match eqAv a b with
        | some r => K (.bool (r != neg)) σ
        | none => False
      else False
    | _, _ => False
  | .not x => match ev ρ x with
    | .bool b => K (.bool !b) σ
    | _ => False
  | .un op k x => match ev ρ x with
    | .int k1 a => if k1 = k then match op with
        | .neg => K (.int k (k.wrap (0 - a))) σ
        | .xor => opt (fun v => K v σ) (binv .xor k (if k.signed then -1 else k.max) k a)
        | _ => False
      else False
    | _ => False
  | .conv k x => match ev ρ x with
    | .int _ n => K (.int k (k.wrap n)) σ
    | _ => False
  | .convBS x => match ev ρ x with
    | .sl xs _ => opt (fun bs => K (.str ⟨bs.toArray⟩) σ) (toBytes xs)
    | .ref n off len => match σ.res n with
      | some (.obj cs) => if off + len ≤ cs.length then opt (fun bs => K (.str ⟨bs.toArray⟩) σ) (toBytes ((cs.drop off).take len)) else False
      | _ => False
    | _ => False
  | .convSB h x => match ev ρ x with
    | .str s => held 1 nm σ K (bytesAV s.data.toList) h
    | _ => False
  | .mkI t x => K (.iface t (ev ρ x)) σ
  | .mkF f first captured => K (.func f (first.map (ev ρ)) (captured.map (ev ρ))) σ
  | .mkMap => K (.map nm) (σ.set nm (.map [] [] 0))
  | .mkS k bytes h z len cap => match ev ρ len, ev ρ cap with
    | .int _ l, .int _ c => if 0 ≤ l ∧ l ≤ c ∧ c * bytes ≤ 140737488355328 ∧ c ≤ 9223372036854775807 ∧ z.fits k = true ∧ c = l then held k nm σ K (List.replicate l.toNat z) h else False
    | _, _ => False
  | .slice k x lo hi => match ev ρ x with
    | .sl xs g => match idx ρ 0 lo, idx ρ xs.length hi with
      | some l, some h => if 0 ≤ l ∧ l ≤ h ∧ h ≤ xs.length ∧ xs.all (AV.fits k) = true then
          K (.sl ((xs.drop l.toNat).take (h - l).toNat) (if h = xs.length ∧ (l = 0 ∨ l < h) then g else .none)) σ else False
      | _, _ => False
    | .ref n off len => match idx ρ 0 lo, idx ρ len hi with
      | some l, some h => if 0 ≤ l ∧ l ≤ h ∧ h ≤ len then K (if l = h then .sl [] .none else .ref n (off + l.toNat * k) (h - l).toNat) σ else False
      | _, _ => False
    | .refr n k' len => match idx ρ 0 lo, idx ρ len hi with
      | some l, some h => if l = 0 ∧ 0 ≤ h ∧ h ≤ len then K (.refr n k' h.toNat) σ else if 0 ≤ l ∧ l ≤ h ∧ h ≤ len then K (if l = h then .sl [] .none else .ref n (l.toNat * k) (h - l).toNat) σ else False
      | _, _ => False
    | .room g n => match idx ρ 0 lo, idx ρ n hi with
      | some l, some h => if l = 0 ∧ h = 0 then K (.sl [] (.tip g)) σ else False
      | _, _ => False
    | _ => False
  | .sslice x lo hi => match ev ρ x with
    | .str s => match idx ρ 0 lo, idx ρ s.size hi with
      | some l, some h => if 0 ≤ l ∧ l ≤ h ∧ h ≤ s.size then K (.str (s.extract l.toNat h.toNat)) σ else False
      | _, _ => False
    | _ => False
  | .faddr off x => match ev ρ x with
    | .ptr n o => K (.ptr n (o + off)) σ
    | .eptr cs => K (.eptr (cs.drop off)) σ
    | _ => False
  | .fld off k x => match ev ρ x with
    | .agg cs => opt (fun v => K v σ) (ldc cs off k)
    | _ => False
  | .iaddr k x i => match ev ρ x, ev ρ i with
    | .sl xs _, .int _ n => if 0 ≤ n ∧ n < xs.length then match xs[n.toNat]? with
        | some y => if y.cells.length = k then K (.eptr y.cells) σ else False
        | none => False
      else False
    | .ref m off len, .int _ n => if 0 ≤ n ∧ n < len then K (.ptr m (off + n.toNat * k)) σ else False
    | .refr m _ len, .int _ n => if 0 ≤ n ∧ n < len then K (.ptr m (n.toNat * k)) σ else False
    | _, _ => False
  | .iaddrA len k x i => match ev ρ x, ev ρ i with
    | .ptr m off, .int _ n => if 0 ≤ n ∧ n < len then K (.ptr m (off + n.toNat * k)) σ else False
    | _, _ => False
  | .idxS x i => match ev ρ x, ev ρ i with
    | .str s, .int _ n => if 0 ≤ n ∧ n < s.size then match s.data.toList[n.toNat]? with
        | some b => K (.int .u8 b.toNat) σ
        | none => False
      else False
    | _, _ => False
  | .look kk z ok m k => match ev ρ m with
    | .nilm => if kshape kk (ev ρ k) then K (if ok then .tup [z, .bool false] else z) σ else False
    | .map n => match σ.res n with
      | some (.map es _ _) => if kshape kk (ev ρ k) then match mfind (ev ρ k) es with
        | some (some v) => K (if ok then .tup [v, .bool true] else v) σ
        | some none => K (if ok then .tup [z, .bool false] else z) σ
        | none => False
        else False
      | _ => False
    | _ => False
  | .mapUp kk m k v => match ev ρ m with
    | .map n => match σ.res n with
      | some (.map es ts clk) => if kshape kk (ev ρ k) then match mfind (ev ρ k) es with
        | some (some _) => K (.tup []) (σ.set n (.map (mput (ev ρ k) (ev ρ v) es) ts clk))
        | some none => K (.tup []) (σ.set n (.map (mput (ev ρ k) (ev ρ v) es) (ts ++ [clk]) (clk + 1)))
        | none => False
        else False
      | _ => False
    | _ => False
  | .ext x i => match ev ρ x with
    | .tup xs => opt (fun v => K v σ) (xs[i]?)
    | _ => False
  | .len x => match ev ρ x with
    | .sl xs _ => K (.int .i64 xs.length) σ
    | .ref _ _ n => K (.int .i64 n) σ
    | .refr _ _ n => K (.int .i64 n) σ
    | _ => False
  | .slen x => match ev ρ x with
    | .str s => K (.int .i64 s.size) σ
    | _ => False
  | .mlen x => match ev ρ x with
    | .nilm => K (.int .i64 0) σ
    | .map n => match σ.res n with
      | some (.map es _ _) => K (.int .i64 es.length) σ
      | _ => False
    | _ => False
  | .app k bytes hd s x => match ev ρ s with
    | .sl xs g =>
      match srcOf σ k (ev ρ x) with
      | some ys =>
        if (xs ++ ys).all (AV.fits k) && decide ((xs.length + ys.length) * bytes ≤ 70368744177664 ∧ xs.length + ys.length ≤ 4611686018427387904) then
          match g with
          | .nil => match hd with
            | .own => if ys.isEmpty then K (.sl [] .nil) σ else K (.ref nm 0 ys.length) (σ.set nm (.obj (ys.flatMap AV.cells)))
            | .room => if ys.isEmpty then K (.sl [] .nil) σ else K (.room nm ys.length) (σ.set nm (.tip k))
            | _ => K (.sl (xs ++ ys) (if ys.isEmpty then .nil else .tip nm)) (if ys.isEmpty then σ else σ.set nm (.tip k))
          | .zero => match hd with
            | .own => if ys.isEmpty then K (.sl [] .zero) σ else K (.ref nm 0 ys.length) (σ.set nm (.obj (ys.flatMap AV.cells)))
            | .room => if ys.isEmpty then K (.sl [] .zero) σ else K (.room nm ys.length) (σ.set nm (.tip k))
            | _ => K (.sl (xs ++ ys) (if ys.isEmpty then .zero else .tip nm)) (if ys.isEmpty then σ else σ.set nm (.tip k))
          | .tip h => match σ.res h with
            | some (.tip k') => if k' = k then K (.sl (xs ++ ys) (.tip nm)) ((σ.del h).set nm (.tip k)) else False
            | _ => False
          | .none => False
        else False
      | none => False
    | _ => False
  | .del kk m k => match ev ρ m with
    | .map n => match σ.res n with
      | some (.map es ts clk) => if kshape kk (ev ρ k) then match mfind (ev ρ k) es with
        | some (some _) => K (.tup []) (σ.set n (.map (mdel (ev ρ k) es) (ts.eraseIdx (midx (ev ρ k) es)) clk))
        | some none => K (.tup []) σ
        | none => False
        else False
      | _ => False
    | _ => False
  | .eqS neg x => match ev ρ x with
    | .sl xs .nil => K (.bool (true != neg)) σ
    | .sl xs _ => if xs.isEmpty then (∀ b, K (.bool b) σ) else K (.bool (false != neg)) σ
    | .ref _ _ _ => K (.bool (false != neg)) σ
    | .room _ _ => K (.bool (false != neg)) σ
    | .refr _ _ _ => K (.bool (false != neg)) σ
    | _ => False
  | .qload c k x => match ev ρ x with
    | .ptr n off => if n + c < nm then (match σ.res n with
      | some (.obj cs) => opt (fun v => K v σ) (ldc cs off k)
      | _ => False) else False
    | .eptr cs => opt (fun v => K v σ) (ldc cs 0 k)
    | _ => False
  | .appZ k bytes z s x => match ev ρ s, ev ρ x with
    | .sl [] g, .int _ n => if g.noRoom = true ∧ 0 < n ∧ n * bytes ≤ 70368744177664 ∧ n ≤ 4611686018427387904 ∧ z.fits k = true then K (.room nm n.toNat) (σ.set nm (.tip k)) else False
    | _, _ => False
  | .cvt x => match ev ρ x with
    | .ref n off len => match σ.res n with
      | some (.obj _) => K (.ref n off len) σ
      | _ => False
    | _ => False
  | .cap x => match ev ρ x with
    | .sl _ .nil => K (.int .i64 0) σ
    | .sl _ .zero => K (.int .i64 0) σ
    | _ => False
  | .panic => False
  | .lstore c k a x => match ev ρ a with
    | .ptr n off => if nm ≤ n + c then (match σ.res n with
      | some (.obj cs) => if (ev ρ x).fits k && decide (off + k ≤ cs.length) then K (.tup []) (σ.set n (.obj (splice cs off (ev ρ x).cells))) else False
      | _ => False) else False
    | _ => False
  | .lapp c k bytes s x => match ev ρ s with
    | .sl xs (.tip h) => if nm ≤ h + c then (match srcOf ⟨0, fun _ => none⟩ k (ev ρ x) with
      | some ys => if (xs ++ ys).all (AV.fits k) && decide ((xs.length + ys.length) * bytes ≤ 70368744177664 ∧ xs.length + ys.length ≤ 4611686018427387904) then
          (match σ.res h with
          | some (.tip k') => if k' = k then K (.sl (xs ++ ys) (.tip nm)) ((σ.del h).set nm (.tip k)) else False
          | _ => False) else False
      | none => False) else False
    | _ => False
  | .mapEnt kk z m k => match ev ρ m with
    | .map n => match σ.res n with
      | some (.map es ts clk) => if kshape kk (ev ρ k) then match mfind (ev ρ k) es with
        | some (some v) => K (.tup [v, .int .i64 (ts.getD (midx (ev ρ k) es) 0 : Nat)]) (σ.set n (.map (mput (ev ρ k) v es) ts clk))
        | some none => K (.tup [z, .int .i64 (clk : Nat)]) (σ.set n (.map (mput (ev ρ k) z es) (ts ++ [clk]) (clk + 1)))
        | none => False
        else False
      | _ => False
    | _ => False
  | .entSt m s x => match ev ρ m, ev ρ s with
    | .map n, .int _ st => match σ.res n with
      | some (.map es ts clk) => match ts.findIdx? (fun (t : Nat) => (t : Int) == st) with
        | some i => K (.tup []) (σ.set n (.map (es.modify i fun e => (e.1, ev ρ x)) ts clk))
        | none => False
      | _ => False
    | _, _ => False
  | .appR k bytes s x => match srcR σ k (ev ρ x) with
    | some ys => match ev ρ s with
      | .sl [] g => if g.noRoom = true ∧ ys.all (AV.fits k) = true ∧ ys.length * bytes ≤ 70368744177664 ∧ ys.length ≤ 4611686018427387904 then
          (if ys.isEmpty then K (.sl [] g) σ else K (.refr nm k ys.length) (σ.set nm (.obj (ys.flatMap AV.cells)))) else False
      | .refr n k' len => match σ.res n with
        | some (.obj cs) => if k' = k ∧ ys.all (AV.fits k) = true ∧ len * k ≤ cs.length ∧ (len + ys.length) * bytes ≤ 70368744177664 ∧ len + ys.length ≤ 4611686018427387904 then
            K (.refr nm k (len + ys.length)) ((σ.del n).set nm (.obj (cs.take (len * k) ++ ys.flatMap AV.cells))) else False
        | _ => False
      | _ => False
    | none => False
  | .clr k z x => match ev ρ x with
    | .sl [] _ => K (.tup []) σ
    | .ref n off len => match σ.res n with
      | some (.obj cs) => if z.fits k = true ∧ 0 < k ∧ off + len * k ≤ cs.length then K (.tup []) (σ.set n (.obj (splice cs off ((List.replicate len z).flatMap AV.cells)))) else False
      | _ => False
    | _ => False
  | .copy k d s => match ev ρ d with
    | .ref n off len => match σ.res n with
      | some (.obj cs) => match srcOf σ k (ev ρ s) with
        | some ys => if ys.all (AV.fits k) && decide (off + len * k ≤ cs.length) then
            K (.int .i64 (min ys.length len : Nat)) (σ.set n (.obj (splice cs off ((ys.take len).flatMap AV.cells)))) else False
        | none => False
      | _ => False
    | .sl xs _ => match srcOf σ k (ev ρ s) with
      | some ys => if xs.isEmpty && ys.all (AV.fits k) then K (.int .i64 0) σ else False
      | none => False
    | _ => False
  | .range x => match ev ρ x with
    | .nilm => K (.ptr nm 0) (σ.set nm (.iter none 0 [] 0))
    | .map n => match σ.res n with
      | some (.map _ _ clk) => K (.ptr nm 0) (σ.set nm (.iter (some n) clk [] clk))
      | _ => False
    | _ => False
  | .srange x => match ev ρ x with
    | .str s => K (.ptr nm 0) (σ.set nm (.siter s 0))
    | _ => False
  | .next x => match ev ρ x with
    | .ptr it 0 => match σ.res it with
      | some (.iter none _ _ _) => K (.tup [.bool false]) σ
      | some (.iter (some m) since seen last) => match σ.res m with
        | some (.map es ts clk) => if since = clk ∧ last = clk then
            (∀ (i : Nat) (p : AV × AV) (t : Nat), es[i]? = some p → ts[i]? = some t → t ∉ seen → K (.tup [.bool true, p.1, p.2]) (σ.set it (.iter (some m) since (seen ++ [t]) clk))) ∧
            ((∀ t ∈ ts, t ∈ seen) → K (.tup [.bool false]) σ) else False
        | _ => False
      | _ => False
    | _ => False
  | .snext x => match ev ρ x with
    | .ptr it 0 => match σ.res it with
      | some (.siter s pos) => if pos < s.size then K (.tup [.bool true, .int .i64 pos, .int .i32 (Utf8.decode s pos).1]) (σ.set it (.siter s (pos + (Utf8.decode s pos).2)))
          else K (.tup [.bool false]) σ
      | _ => False
    | _ => False
  | .entry x => match ev ρ x with
    | .ptr it 0 => match σ.res it with
      | some (.iter (some m) _ seen last) => match σ.res m with
        | some (.map es ts clk) => if last = clk then ∃ (i : Nat) (p : AV × AV) (t : Nat), seen.getLast? = some t ∧ ts[i]? = some t ∧ es[i]? = some p ∧ K (.tup [p.1, p.2]) σ else False
        | _ => False
      | _ => False
    | _ => False
  | .mn xs => match xs.map (ev ρ) with
    | [] => False
    | y :: r => opt (fun v => K v σ) (r.foldlM mn2 y)
  | .mx xs => match xs.map (ev ρ) with
    | [] => False
    | y :: r => opt (fun v => K v σ) (r.foldlM mx2 y)
  | .call f args => CP f (args.map (ev ρ)) σ K
  | .callv x args => match ev ρ x with
    | .func f first captured => CP f (first ++ args.map (ev ρ) ++ captured) σ K
    | _ => False
  | .qcall f args => ∃ v, CP f (args.map (ev ρ)) σ (fun v' σ' => v' = v ∧ σ' = σ) ∧ K v σ
  | .pcall f args => ∃ v, (∀ σ2, CP f (args.map (ev ρ)) σ2 (fun v' σ' => v' = v ∧ σ' = σ2)) ∧ K v σ
  | .mcall k f args => ∃ xs, (∀ σ2, CP f (args.map (ev ρ)) σ2 (fun v' σ' => ∃ h, σ2.next ≤ h ∧ h < σ'.next ∧ σ'.res = (σ2.set h (.tip k)).res ∧ v' = .sl xs (.tip h))) ∧ xs.all AV.isInt = true ∧ K (.sl xs (.tip nm)) (σ.set nm (.tip k))
  | .xidx s c => match ev ρ s, ev ρ c with
    | .str t, .int .u8 b => K (.int .i64 (Lib.indexByte t.data.toList b.toNat.toUInt8)) σ
    | _, _ => False
  | .xcnt s c => match ev ρ s, ev ρ c with
    | .str t, .int .u8 b => K (.int .i64 (Lib.countByte t.data.toList b.toNat.toUInt8 : Nat)) σ
    | _, _ => False
  | .gload g k => match σ.res g with
    | some (.gl b cs) => if b = g then opt (fun v => K v σ) (ldc cs 0 k) else False
    | _ => False
  | .gaddr g n k i => match σ.res g, ev ρ i with
    | some (.gl b cs), .int _ j => if b = g ∧ 0 ≤ j ∧ j < n ∧ j.toNat * k ≤ cs.length then K (.eptr (cs.drop (j.toNat * k))) σ else False
    | _, _ => False
  | .sliceA n k x lo hi => match ev ρ x with
    | .ptr m off => match idx ρ 0 lo, idx ρ n hi with
      | some l, some h => if 0 ≤ l ∧ l < h ∧ h ≤ n then K (.ref m (off + l.toNat * k) (h - l).toNat) σ else False
      | _, _ => False
    | _ => False
  | .qcallv x args => match ev ρ x with
    | .func f first captured => ∃ v, CP f (first ++ args.map (ev ρ) ++ captured) σ (fun v' σ' => v' = v ∧ σ' = σ) ∧ K v σ
    | _ => False

def setd (ρ : List AV) (v : AV) : Option Nat → List AV
  | some d => ρ.set d v
  | none => ρ

def aops (CP : CallP) (base : Nat) : Nat → List O → List AV → St → (List AV → St → Prop) → Prop
  | _, [], ρ, σ, K => K ρ σ
  | i, o :: r, ρ, σ, K =>
    match o.g with
    | none => astep CP (base + i) ρ σ (fun v σ' => aops CP base (i + 1) r (setd ρ v o.dst) σ' K) o.i
    | some (t, b) => match ρ.getD t .any with
      | .bool c => (c = b → astep CP (base + i) ρ σ (fun v σ' => aops CP base (i + 1) r (setd ρ v o.dst) σ' K) o.i) ∧
          (c = !b → aops CP base (i + 1) r (setd ρ (.tup []) o.dst) σ K)
      | .tup [] => aops CP base (i + 1) r (setd ρ (.tup []) o.dst) σ K
      | _ => False

def I.names : I → Bool
  | .box _ | .alloc _ | .mkMap | .app .. | .appR .. | .lapp .. | .appZ .. | .range _ | .srange _ | .mcall .. => true
  | .bslice _ h _ | .convSB h _ | .mkS _ _ h _ _ _ => match h with | .val | .zero => false | _ => true
  | _ => false

def namesOf (l : List O) : Nat := if l.any (fun o => o.i.names) then l.length else 0

inductive Ex where
  | normal
  | exit (id : Nat)
  | ret

end Go.VL

namespace Go.VL

/-- What the maker of a text says of a function: how a slice made at (region, operation) is kept; which types of whole numbers errors are of. -/
structure Ann where
  hold : List (Nat × Nat × Hold) := []
  errs : List (Nat × IntKind) := []
  chk : List (Nat × Nat) := []
  full : List (Nat × Nat) := []
  pure : List (Nat × Nat) := []
  loc : List (Nat × Nat) := []
  make : List (Nat × Nat × Nat) := []

/-- is an operation told to write only what its region made? -/
def Ann.isLoc (A : Ann) (r i : Nat) : Bool := A.loc.any (fun p => p.1 == r && p.2 == i)

/-- is a call told to be a quiet one? (in a region that draws its order, but where the maker says that it stands in order with all else) -/
def Ann.quiet (A : Ann) (q : Bool) (r i : Nat) : Bool := q && !A.full.any (fun p => p.1 == r && p.2 == i)

def constAV : Value → Option AV
  | .bool b => some (.bool b)
  | .int k n => some (.int k n)
  | .string s => some (.str s)
  | .pointer none => some .nilp
  | .map none => some .nilm
  | .nilFunc => some .nilf
  | .nilIface => some .nili
  | .slice none 0 0 => some (.sl [] .nil)
  | _ => none

def constCs : List Value → Option (List AV)
  | [] => some []
  | v :: r => match constAV v, constCs r with
    | some x, some y => some (x :: y)
    | _, _ => none

/-- a constant, a struct's too -/
def constV : Value → Option AV
  | .agg ⟨cs⟩ => (constCs cs).map .agg
  | v => constAV v

def opX : Operand → Option X
  | .tmp t => some (.t t)
  | .const v => (constV v).map .c
  | .func f => some (.c (.func f [] []))
  | .global _ => none

def opXs : List Operand → Option (List X)
  | [] => some []
  | o :: r => match opX o, opXs r with
    | some x, some y => some (x :: y)
    | _, _ => none

def opXo : Option Operand → Option (Option X)
  | none => some none
  | some o => (opX o).map some

/-- a package variable -/
def globOf : Operand → Option Nat
  | .global g => some g
  | _ => none

def isC : Operand → Bool
  | .const _ => true
  | _ => false

def nilC : Operand → Bool
  | .const (.slice none 0 0) => true
  | _ => false

/-- a type's cells, if it is a struct or an array -/
def kindOf (P : Program) (t : TypeId) : Option (Option Nat) :=
  match P.underlying t, P.info? t with
  | some (.struct _), some i => some (some i.size)
  | some (.array _ _), some i => some (some i.size)
  | some _, some i => if i.size = 1 then some none else none
  | _, _ => none

def sizeOf' (P : Program) (t : TypeId) : Option Nat := (P.info? t).map (·.size)

def zeroOf (P : Program) (t : TypeId) : Option AV := match P.info? t with
  | some i => match i.zero with
    | some z => constV z
    | none => none
  | none => none

def zlen (P : Program) (t : TypeId) : Option Nat := (zeroOf P t).map (·.cells.length)

def fieldOf (P : Program) (s : TypeId) (f : Nat) : Option Field := match P.underlying s with
  | some (.struct fs) => fs[f]?
  | _ => none

/-- where a struct's fields lie: (offset, cells) -/
def tabOf (P : Program) : List Field → Option (List (Nat × Nat))
  | [] => some []
  | f :: r => match sizeOf' P f.type, tabOf P r with
    | some k, some y => some ((f.offset, k) :: y)
    | _, _ => none

def placesOf (tab : List (Nat × Nat)) : List (Nat × Operand) → Option (List (Nat × Nat × X))
  | [] => some []
  | (i, o) :: r => match tab[i]?, opX o, placesOf tab r with
    | some f, some x, some y => some ((f.1, f.2, x) :: y)
    | _, _, _ => none

/-- the parts of a slice that is written out: all of them, in order -/
def partsOf : Nat → List (Nat × Operand) → Option (List X)
  | _, [] => some []
  | n, (i, o) :: r => if i = n then match opX o, partsOf (n + 1) r with
      | some x, some y => some (x :: y)
      | _, _ => none
    else none

def holdOf (A : Ann) (r i n : Nat) : Hold :=
  match A.hold.find? (fun p => p.1 == r && p.2.1 == i) with
  | some p => p.2.2
  | none => if n = 0 then .tip else .val

def holdMk (A : Ann) (r i : Nat) : Hold :=
  match A.hold.find? (fun p => p.1 == r && p.2.1 == i) with
  | some p => p.2.2
  | none => .own

def errsOk (P : Program) : List (Nat × IntKind) → Bool
  | [] => true
  | (t, k) :: r => (match P.underlying t, P.info? t with
    | some (.int k'), some i => k' == k && i.comparable
    | _, _ => false) && errsOk P r

def holdApp (A : Ann) (r i : Nat) : Hold :=
  match A.hold.find? (fun p => p.1 == r && p.2.1 == i) with
  | some p => p.2.2
  | none => .tip

def isGrow : Hold → Bool
  | .grow => true
  | _ => false

def isIntT (P : Program) (t : TypeId) : Bool := match P.underlying t with
  | some (.int _) => true
  | _ => false

/-- fields that are numbers, one behind the other: how many cells there are -/
def intFields (P : Program) (off : Nat) : List Field → Option Nat
  | [] => some off
  | f :: r => if f.name != "_" && f.offset == off && isIntT P f.type then intFields P (off + 1) r else none

def keyKind (P : Program) (t : TypeId) : Option Nat :=
  match P.underlying t with
  | some (.int _) => some 0
  | some .string => some 1
  | some (.struct fs) => if P.stoodInHeld t then none else (intFields P 0 fs.toList).map (· + 2)
  | _ => none

/-- a function whose work the model does itself: a byte looked for in a text, or counted -/
def externOf (P : Program) (f : Nat) : Option Bool := match P.funcs[f]? with
  | some fe => if fe.body.isNone then
      (if fe.name == "internal/bytealg.IndexByteString" && (Extern.findNext fe).isNone then some true
        else if fe.name == "internal/bytealg.CountString" && (Extern.findNext fe).isNone then some false else none) else none
  | none => none

def compileCall (P : Program) (A : Ann) (q : Bool) (r i : Nat) (c : Call) : Option I :=
  match c.callee with
  | .builtin .len => match c.args.toList, c.argTypes.toList with
    | [x], t :: _ => match opX x, P.underlying t with
      | some x, some (.slice _) => some (.len x)
      | some x, some .string => some (.slen x)
      | some x, some (.map _ _) => some (.mlen x)
      | _, _ => none
    | _, _ => none
  | .builtin .append => match c.args.toList, c.argTypes.toList with
    | [s, x], [t, u] => match opX s, opX x, P.underlying t, P.underlying u with
      | some s, some x, some (.slice e), some (.slice _) => match P.info? e with
        | some ti => if 0 < ti.size ∧ 0 < ti.bytes ∧ zlen P e = some ti.size then some (if isGrow (holdApp A r i) then .appR ti.size ti.bytes s x else if A.isLoc r i then .lapp i ti.size ti.bytes s x else .app ti.size ti.bytes (holdApp A r i) s x) else none
        | none => none
      | some s, some x, some (.slice e), some .string => match P.info? e with
        | some ti => if ti.size = 1 ∧ 0 < ti.bytes ∧ zlen P e = some ti.size then some (.app ti.size ti.bytes (holdApp A r i) s x) else none
        | none => none
      | some s, some x, some (.slice e), some (.int _) => match P.info? e, zeroOf P e with
        | some ti, some z => if 0 < ti.size ∧ 0 < ti.bytes ∧ z.cells.length = ti.size then some (.appZ ti.size ti.bytes z s x) else none
        | _, _ => none
      | _, _, _, _ => none
    | _, _ => none
  | .builtin .cap => match c.args.toList, c.argTypes.toList with
    | [x], t :: _ => match opX x, P.underlying t with
      | some x, some (.slice _) => some (.cap x)
      | _, _ => none
    | _, _ => none
  | .builtin .panic => some .panic
  | .builtin .clear => match c.args.toList, c.argTypes.toList with
    | [x], t :: _ => match opX x, P.underlying t with
      | some x, some (.slice e) => match zeroOf P e with
        | some z => some (.clr z.cells.length z x)
        | none => none
      | _, _ => none
    | _, _ => none
  | .builtin .copy => match c.args.toList, c.argTypes.toList with
    | [d, s], t :: _ => match opX d, opX s, P.underlying t with
      | some d, some s, some (.slice e) => (sizeOf' P e).map fun k => .copy k d s
      | _, _, _ => none
    | _, _ => none
  | .builtin .min => (opXs c.args.toList).map .mn
  | .builtin .max => (opXs c.args.toList).map .mx
  | .builtin .delete => match c.args.toList, c.argTypes.toList with
    | [m, k], t :: _ => match opX m, opX k, P.underlying t with
      | some m, some k, some (.map kt _) => (keyKind P kt).map fun kk => .del kk m k
      | _, _, _ => none
    | _, _ => none
  | .value (.func f) => match externOf P f with
    | some k => match c.args.toList with
      | [x, y] => match opX x, opX y with
        | some x, some y => some (if k then .xidx x y else .xcnt x y)
        | _, _ => none
      | _ => none
    | none => match opXs c.args.toList with
    | some xs => match A.make.find? (fun p => p.1 == r && p.2.1 == i) with
      | some p => some (.mcall p.2.2 f xs)
      | none => some (if A.pure.any (fun p => p.1 == r && p.2 == i) then .pcall f xs else if A.quiet q r i then .qcall f xs else .call f xs)
    | none => none
  | .value x => match opX x, opXs c.args.toList with
    | some x, some xs => some (if A.quiet q r i then .qcallv x xs else .callv x xs)
    | _, _ => none
  | _ => none

def compileOp (P : Program) (A : Ann) (q : Bool) (r i : Nat) (o : Oper) : Option I :=
  match o.op with
  | .move x | .assign x => (opX x).map .mv
  | .pick c a b => match opX c, opX a, opX b with
    | some c, some a, some b => some (.pick c a b)
    | _, _, _ => none
  | .box _ x => (opX x).map .box
  | .alloc t => (zeroOf P t).map fun z => .alloc z.cells
  | .build t parts => match zeroOf P t, P.underlying t with
    | some (.agg z), some (.struct fs) => match tabOf P fs.toList with
      | some tab => (placesOf tab parts.toList).map (.build z)
      | none => none
    | _, _ => none
  | .buildSlice t n parts => match P.underlying t with
    | some (.slice e) => match sizeOf' P e, zeroOf P e, partsOf 0 parts.toList with
      | some k, some _, some ps => if ps.length = n ∧ n * k ≤ 65536 then some (.bslice k (holdOf A r i n) ps) else none
      | _, _, _ => none
    | _ => none
  | .load t x => match globOf x with
    | some g => (kindOf P t).map (.gload g)
    | none => match kindOf P t, opX x with
    | some k, some x => some (if A.chk.any (fun p => p.1 == r && p.2 == i) then .qload i k x else .load k x)
    | _, _ => none
  | .store t a x => match sizeOf' P t, opX a, opX x with
    | some k, some a, some x => some (if A.isLoc r i then .lstore i k a x else .store k a x)
    | _, _, _ => none
  | .nilCheck x => (opX x).map .nilCheck
  | .binOp op t x y _ => match opX x, opX y with
    | some x', some y' => match P.underlying t with
      | some (.int k) => some (.bin op k x' y')
      | some .string => some (.sbin op x' y')
      | some .bool => match op with
        | .eql => some (.bbin false x' y')
        | .neq => some (.bbin true x' y')
        | _ => none
      | some (.interface _) => if errsOk P A.errs then match op with
          | .eql => some (.eqI false (isC x || isC y) A.errs x' y')
          | .neq => some (.eqI true (isC x || isC y) A.errs x' y')
          | _ => none
        else none
      | some (.pointer e) => match sizeOf' P e, op with
        | some (_ + 1), .eql => some (.eqP false x' y')
        | some (_ + 1), .neq => some (.eqP true x' y')
        | _, _ => none
      | some (.struct fs) => if P.stoodInHeld t || P.eqGuardType P.depth t then none else match intFields P 0 fs.toList, op with
        | some n, .eql => some (.eqA false n x' y')
        | some n, .neq => some (.eqA true n x' y')
        | _, _ => none
      | some (.slice _) => if q then none else match op, nilC y with
        | .eql, true => some (.eqS false x')
        | .neq, true => some (.eqS true x')
        | _, _ => none
      | _ => none
    | _, _ => none
  | .unOp op t x => match opX x, P.underlying t with
    | some x, some .bool => match op with
      | .not => some (.not x)
      | _ => none
    | some x, some (.int k) => match op with
      | .neg => some (.un .neg k x)
      | .xor => some (.un .xor k x)
      | _ => none
    | _, _ => none
  | .convert s d x => match opX x, P.underlying s, P.underlying d with
    | some x, some (.int _), some (.int k) => some (.conv k x)
    | some x, some (.slice e), some .string => match P.underlying e with
      | some (.int .u8) => some (.convBS x)
      | _ => none
    | some x, some (.slice _), some (.slice e) => match s == d, P.underlying e with
      | true, some (.int .u8) => some (.cvt x)
      | _, _ => none
    | some x, some .string, some (.slice e) => match P.underlying e with
      | some (.int .u8) => some (.convSB (holdOf A r i 0) x)
      | _ => none
    | _, _, _ => none
  | .makeInterface t x => match opX x, P.underlying t with
    | some _, some (.interface _) => none
    | some x, some _ => some (.mkI t x)
    | _, _ => none
  | .makeFunc (.func f) first captured => match opXs first.toList, opXs captured.toList with
    | some a, some b => some (.mkF f a b)
    | _, _ => none
  | .makeMap _ none => some .mkMap
  | .makeSlice t l c => match P.underlying t with
    | some (.slice e) => match P.info? e, zeroOf P e, opX l, opX c with
      | some ti, some z, some l, some c => if ti.size = z.cells.length ∧ 0 < ti.size then some (.mkS ti.size ti.bytes (holdMk A r i) z l c) else none
      | _, _, _, _ => none
    | _ => none
  | .slice t x lo hi none => match opX x, opXo lo, opXo hi with
    | some x, some lo, some hi => match P.underlying t with
      | some (.slice e) => (sizeOf' P e).map fun k => .slice k x lo hi
      | some .string => some (.sslice x lo hi)
      | some (.array n e) => (sizeOf' P e).map fun k => .sliceA n k x lo hi
      | _ => none
    | _, _, _ => none
  | .fieldAddr s x f => match fieldOf P s f, opX x with
    | some f, some x => match sizeOf' P f.type with
      | some (_ + 1) => some (.faddr f.offset x)
      | _ => none
    | _, _ => none
  | .field s x f => match fieldOf P s f, opX x with
    | some f, some x => match kindOf P f.type with
      | some k => some (.fld f.offset k x)
      | none => none
    | _, _ => none
  | .indexAddr t x j => match globOf x with
    | some g => match opX j, P.underlying t with
      | some j, some (.array n e) => (sizeOf' P e).map fun k => .gaddr g n k j
      | _, _ => none
    | none => match opX x, opX j, P.underlying t with
    | some x, some j, some (.slice e) => (sizeOf' P e).map fun k => .iaddr k x j
    | some x, some j, some (.array n e) => (sizeOf' P e).map fun k => .iaddrA n k x j
    | _, _, _ => none
  | .index t x j => match opX x, opX j, P.underlying t with
    | some x, some j, some .string => some (.idxS x j)
    | _, _, _ => none
  | .lookup t m k ok => match opX m, opX k, P.underlying t with
    | some m, some k, some (.map kt e) => match keyKind P kt, zeroOf P e with
      | some kk, some z => some (.look kk z ok m k)
      | _, _ => none
    | _, _, _ => none
  | .mapUpdate t m k v => match opX m, opX k, opX v, P.underlying t with
    | some m, some k, some v, some (.map kt _) => (keyKind P kt).map fun kk => .mapUp kk m k v
    | _, _, _, _ => none
  | .mapEntry t m k => match opX m, opX k, P.underlying t with
    | some m, some k, some (.map kt e) => match keyKind P kt, zeroOf P e with
      | some kk, some z => some (.mapEnt kk z m k)
      | _, _ => none
    | _, _, _ => none
  | .entryStore _ m s v => match opX m, opX s, opX v with
    | some m, some s, some v => some (.entSt m s v)
    | _, _, _ => none
  | .extract x j => (opX x).map fun x => .ext x j
  | .call c => compileCall P A q r i c
  | .panic _ => some .panic
  | .range t x => match opX x, P.underlying t with
    | some x, some (.map _ _) => some (.range x)
    | some x, some .string => some (.srange x)
    | _, _ => none
  | .next x st => match opX x with
    | some x => if q then none else some (if st then .snext x else .next x)
    | none => none
  | .entry x => match opX x with
    | some x => if q then none else some (.entry x)
    | none => none
  | _ => none

def compileOps (P : Program) (A : Ann) (q : Bool) (r : Nat) (all : Array Oper) : Nat → List Oper → Option (List O)
  | _, [] => some []
  | i, o :: rest =>
    match compileOp P A q r i o, compileOps P A q r all (i + 1) rest with
    | some x, some l => match o.guard with
      | none => some ({ dst := o.dst, i := x, g := none } :: l)
      | some (j, b) => match (all[j]?).bind (·.dst) with
        | some d => some ({ dst := o.dst, i := x, g := some (d, b) } :: l)
        | none => none
    | _, _ => none

/-! ### A region that draws its order -/

/-- 7: it writes only what its region made; 0: of its operands alone; 1: it reads what is owned; 2: it makes a name; 3: it writes; 4: a quiet call; 5: it reads what was owned ahead of the region; 6: it begins a walk. -/
def I.cat : I → Nat
  | .mv _ | .pick .. | .build .. | .nilCheck _ | .bin .. | .sbin .. | .bbin .. | .eqI .. | .eqP .. | .eqA .. | .not _ | .un .. | .conv .. | .mkI .. | .mkF ..
  | .slice .. | .sslice .. | .sliceA .. | .faddr .. | .fld .. | .len _ | .slen _ | .iaddr .. | .iaddrA .. | .idxS .. | .ext .. | .mn _ | .mx _ | .pcall .. | .xidx .. | .xcnt .. => 0
  | .bslice _ h _ => match h with | .val | .zero => 0 | _ => 2
  | .convSB h _ => match h with | .val => 0 | _ => 2
  | .mkS _ _ h _ _ _ => match h with | .val => 0 | _ => 2
  | .load .. | .look .. | .mlen _ | .convBS _ | .gload .. | .gaddr .. => 1
  | .cap _ => 0
  | .cvt _ => 3
  | .qload .. => 5
  | .range _ | .srange _ => 6
  | .box _ | .alloc _ | .mkMap | .mcall .. => 2
  | .store .. | .mapUp .. | .mapEnt .. | .entSt .. | .app .. | .appR .. | .appZ .. | .del .. | .call .. | .callv .. | .eqS .. | .panic | .copy .. | .clr .. | .next _ | .snext _ | .entry _ => 3
  | .qcall .. | .qcallv .. => 4
  | .lstore .. | .lapp .. => 7

def catOk (a b : Nat) : Bool := a == 0 || b == 0 || (a == 1 && b == 1) || (a == 1 && b == 4) || (a == 4 && b == 1) ||
  (a == 2 && b == 2) || (a == 5 && (b == 1 || b == 2 || b == 4 || b == 5)) || (b == 5 && (a == 1 || a == 2 || a == 4)) || (a == 5 && b == 7) || (a == 7 && b == 5)

/-- a checked load knows its place -/
def I.placed (i : Nat) : I → Bool
  | .qload c _ _ => c == i
  | .lstore c _ _ _ => c == i
  | .lapp c _ _ _ _ => c == i
  | _ => true

def X.tmps : X → List Nat
  | .t i => [i]
  | .c _ => []

def Xo.tmps : Option X → List Nat
  | some x => x.tmps
  | none => []

def I.uses : I → List Nat
  | .mv x | .box x | .clr _ _ x | .load _ x | .qload _ _ x | .cvt x | .nilCheck x | .not x | .un _ _ x | .conv _ x | .convBS x | .convSB _ x | .mkI _ x | .faddr _ x | .fld _ _ x | .ext x _ | .len x | .slen x | .mlen x | .eqS _ x | .cap x | .range x | .srange x | .next x | .snext x | .entry x => x.tmps
  | .pick a b c => a.tmps ++ b.tmps ++ c.tmps
  | .alloc _ | .mkMap | .panic | .gload .. => []
  | .gaddr _ _ _ x => x.tmps
  | .build _ ps => ps.flatMap fun p => p.2.2.tmps
  | .bslice _ _ xs | .mn xs | .mx xs | .call _ xs | .qcall _ xs | .pcall _ xs | .mcall _ _ xs => xs.flatMap X.tmps
  | .store _ a x | .bin _ _ a x | .sbin _ a x | .bbin _ a x | .eqI _ _ _ a x | .eqP _ a x | .eqA _ _ a x | .iaddr _ a x | .iaddrA _ _ a x | .xidx a x | .xcnt a x | .idxS a x | .look _ _ _ a x | .app _ _ _ a x | .appR _ _ a x | .lstore _ _ a x | .lapp _ _ _ a x | .mapEnt _ _ a x | .appZ _ _ _ a x | .copy _ a x | .del _ a x => a.tmps ++ x.tmps
  | .mkF _ a b => a.flatMap X.tmps ++ b.flatMap X.tmps
  | .mkS _ _ _ _ a b => a.tmps ++ b.tmps
  | .slice _ x lo hi | .sslice x lo hi | .sliceA _ _ x lo hi => x.tmps ++ Xo.tmps lo ++ Xo.tmps hi
  | .mapUp _ a b c | .entSt a b c => a.tmps ++ b.tmps ++ c.tmps
  | .callv x xs | .qcallv x xs => x.tmps ++ xs.flatMap X.tmps

def O.looks (o : O) : List Nat := o.i.uses ++ (match o.g with | some (t, _) => [t] | none => [])

def I.isCall : I → Bool
  | .call .. | .callv .. | .eqS .. | .next _ | .entry _ => true
  | _ => false

/-- neither sees the other -/
def indep (a b : O) : Bool :=
  !a.i.isCall && !b.i.isCall && catOk a.i.cat b.i.cat &&
  (match a.dst with | some d => !b.looks.contains d | none => true) && (match b.dst with | some d => !a.looks.contains d | none => true) &&
  (match a.dst, b.dst with | some d, some e => d != e | _, _ => true)

/-- which operations each one waits for, as bits -/
def masks : List Oper → List Nat → List Nat
  | [], acc => acc
  | o :: r, acc => masks r (acc ++ [o.after.toList.foldl (fun m e => if Region.binds .any e then m ||| (2 ^ e.on ||| acc.getD e.on 0) else m) 0])

def commOk (ops : Array Oper) (l : List O) : Bool :=
  (List.range ops.size).all fun i => (List.range i).all fun j => ((masks ops.toList []).getD i 0).testBit j || (match l[j]?, l[i]? with
    | some a, some b => indep a b && a.i.placed j && b.i.placed i
    | _, _ => false)

def backOk (ops : Array Oper) : Bool := (List.range ops.size).all fun i => match ops[i]? with
  | some o => o.after.all fun e => !Region.binds .any e || decide (e.on < i)
  | none => true

def compileC (P : Program) (A : Ann) : Code → Option C
  | .skip => some .skip
  | .region id ops draw => match compileOps P A draw id ops 0 ops.toList with
    | some l => if draw then (if commOk ops l && backOk ops then some (.reg l) else none) else some (.reg l)
    | none => none
  | .seq a b => match compileC P A a, compileC P A b with
    | some x, some y => some (.seq x y)
    | _, _ => none
  | .cond c a b => match opX c, compileC P A a, compileC P A b with
    | some x, some y, some z => some (.cond x y z)
    | _, _, _ => none
  | .block id c => (compileC P A c).map (.block id)
  | .loop c => (compileC P A c).map .loop
  | .exit id => some (.exit id)
  | .ret => some .ret
  | _ => none

end Go.VL

namespace Go.VL

def fzOk (n : Nat) (fz : Nat × Nat) : Prop := fz.1 = fz.2 ∨ n ≤ fz.1

/-- entries of a map -/
inductive Vm (κ : Kx) (w : World) : List MapEntry → List (AV × AV) → Prop where
  | nil : Vm κ w [] []
  | cons (e : MapEntry) (p : AV × AV) (es : List MapEntry) (ps : List (AV × AV)) (hk : V κ w e.key p.1) (hv : V κ w e.val p.2) (t : Vm κ w es ps) : Vm κ w (e :: es) (p :: ps)

theorem Vm.mono {κ κ' : Kx} {w w' : World} (e : Ext κ w κ' w') : ∀ {es : List MapEntry} {ps : List (AV × AV)}, Vm κ w es ps → Vm κ' w' es ps
  | _, _, .nil => .nil
  | _, _, .cons a p es ps hk hv t => .cons a p es ps (hk.mono e) (hv.mono e) (t.mono e)

def Owns (κ : Kx) (w : World) (n : Nat) : Res → Prop
  | .obj cs => ∃ us rest t fz, w.heap[κ.φ n]? = some (.cells ⟨us ++ rest⟩ t fz) ∧ fzOk us.length fz ∧ Vl κ w us cs ∧ (∀ o, ¬ κ.I (κ.φ n) o) ∧ κ.χ n ≤ us.length + rest.length ∧ fzOk (κ.χ n) fz
  | .tip k => κ.ξ n = k ∧ ∃ us t fz, w.heap[κ.φ n]? = some (.cells ⟨us⟩ t fz) ∧ fzOk us.length fz ∧ κ.χ n ≤ us.length ∧ ∀ o, κ.ψ n ≤ o → ¬ κ.I (κ.φ n) o
  | .map es ts clk => ∃ ents, w.heap[κ.φ n]? = some (.map ⟨ents⟩ clk) ∧ Vm κ w ents es ∧ (∀ o, ¬ κ.I (κ.φ n) o) ∧ ents.map (·.born) = ts ∧ ts.Nodup ∧ ∀ t ∈ ts, t < clk
  | .iter m since seen last => w.heap[κ.φ n]? = some (.mapIter (m.map κ.φ) since ⟨seen⟩ last) ∧ (∀ m', m = some m' → κ.dom m') ∧ ∀ o, ¬ κ.I (κ.φ n) o
  | .siter s pos => w.heap[κ.φ n]? = some (.stringIter s pos) ∧ ∀ o, ¬ κ.I (κ.φ n) o
  | .glob b v => κ.φ n = b ∧ κ.I b 0 ∧ w.cell? ⟨b, 0, none⟩ = some v
  | .gl b cs => κ.φ n = b ∧ κ.I b 0 ∧ Vs κ w b 0 cs

structure R (B : Nat) (F : Nat → Prop) (κ : Kx) (w : World) (σ : St) : Prop where
  dom : ∀ n, κ.dom n → n < σ.next
  own : ∀ n r, σ.res n = some r → κ.dom n ∧ Owns κ w n r
  apart : ∀ n m r s, σ.res n = some r → σ.res m = some s → κ.φ n = κ.φ m → n = m
  imm : ∀ b o, κ.I b o → b < w.heap.size
  foot : ∀ n r, σ.res n = some r → r.real = true → F (κ.φ n) ∨ B ≤ κ.φ n

/-- the world outside is as it was; nothing that was drawn is drawn anew -/
structure OsD (w0 w : World) : Prop where
  os : w.os = w0.os
  dr : w0.drawn ≤ w.drawn

theorem OsD.trans {a b c : World} (k : OsD b c) (h : OsD a b) : OsD a c := ⟨k.os.trans h.os, Nat.le_trans h.dr k.dr⟩

theorem OsD.rfl {w : World} : OsD w w := ⟨Eq.refl _, Nat.le_refl _⟩

/-- all but the blocks of F is as it was -/
structure Fr (F : Nat → Prop) (w0 w : World) : Prop where
  os : OsD w0 w
  tape : w.tape = w0.tape
  output : w.output = w0.output
  size : w0.heap.size ≤ w.heap.size
  block : ∀ b, b < w0.heap.size → ¬ F b → w.heap[b]? = w0.heap[b]?

theorem Fr.refl (F : Nat → Prop) (w : World) : Fr F w w := ⟨.rfl, rfl, rfl, Nat.le_refl _, fun _ _ _ => rfl⟩

theorem cell_of {w : World} {b : Nat} {us : List Value} {t : TypeId} {fz : Nat × Nat} (h : w.heap[b]? = some (.cells ⟨us⟩ t fz)) (o : Nat) : w.cell? ⟨b, o, none⟩ = us[o]? := by
  simp [World.cell?, h]

theorem frozen_of {w : World} {b n : Nat} {us : List Value} {t : TypeId} {fz : Nat × Nat} (h : w.heap[b]? = some (.cells ⟨us⟩ t fz)) (hf : fzOk n fz) {o : Nat} (ho : o < n) : w.frozen? ⟨b, o, none⟩ = false := by
  simp only [World.frozen?, h, Bool.and_eq_false_iff, decide_eq_false_iff_not]
  obtain ⟨lo, hi⟩ := fz
  rcases hf with hf | hf
  · simp only at hf; subst hf
    rcases Nat.lt_or_ge o lo with hx | hx
    · exact .inl (by simp only; omega)
    · exact .inr (by simp only; omega)
  · simp only at hf; exact .inl (by simp only; omega)

theorem cell_same {w w' : World} {b : Nat} (h : w'.heap[b]? = w.heap[b]?) (o : Nat) : w'.cell? ⟨b, o, none⟩ = w.cell? ⟨b, o, none⟩ := by
  simp [World.cell?, h]

theorem Owns.keep {κ κ' : Kx} {w w' : World} {n : Nat} {r : Res} (h : Owns κ w n r) (e : Ext κ w κ' w') (hd : κ.dom n) (hb : w'.heap[κ.φ n]? = w.heap[κ.φ n]?)
    (hI : ∀ o, κ'.I (κ.φ n) o → κ.I (κ.φ n) o) : Owns κ' w' n r := by
  cases r with
  | obj cs =>
    obtain ⟨us, rest, t, fz, h1, h2, h3, h4, h5⟩ := h
    exact ⟨us, rest, t, fz, by rw [e.φ n hd, hb, h1], h2, h3.mono e, fun o ho => h4 o (hI o (by rwa [e.φ n hd] at ho)), by rw [e.χ n hd]; exact h5⟩
  | tip k =>
    obtain ⟨h0, us, t, fz, h1, h2, h3, h4⟩ := h
    exact ⟨by rw [e.ξ n hd, h0], us, t, fz, by rw [e.φ n hd, hb, h1], h2, by rw [e.χ n hd]; exact h3, fun o hp ho => h4 o (by rwa [e.ψ n hd] at hp) (hI o (by rwa [e.φ n hd] at ho))⟩
  | map es ts clk =>
    obtain ⟨ents, h1, h2, h4, h5⟩ := h
    exact ⟨ents, by rw [e.φ n hd, hb, h1], h2.mono e, fun o ho => h4 o (hI o (by rwa [e.φ n hd] at ho)), h5⟩
  | iter m since seen last =>
    obtain ⟨h1, h2, h3⟩ := h
    refine ⟨?_, fun m' hm => e.dom m' (h2 m' hm), fun o ho => h3 o (hI o (by rwa [e.φ n hd] at ho))⟩
    rw [e.φ n hd, hb, h1]
    cases m with
    | none => rfl
    | some m' => simp only [Option.map_some, e.φ m' (h2 m' rfl)]
  | siter s pos =>
    exact ⟨by rw [e.φ n hd, hb, h.1], fun o ho => h.2 o (hI o (by rwa [e.φ n hd] at ho))⟩
  | glob b v =>
    obtain ⟨h1, h2, h3⟩ := h
    exact ⟨by rw [e.φ n hd, h1], e.I _ _ h2, by rw [e.cell _ _ h2, h3]⟩
  | gl b cs =>
    obtain ⟨h1, h2, h3⟩ := h
    exact ⟨by rw [e.φ n hd, h1], e.I _ _ h2, h3.mono e⟩

/-- a step: each name owns what it owned, its block untouched, or it is told anew -/
theorem R.step {B : Nat} {F : Nat → Prop} {κ κ' : Kx} {w w' : World} {σ σ' : St} (h : R B F κ w σ) (e : Ext κ w κ' w')
    (hdom : ∀ n, κ'.dom n → n < σ'.next) (himm : ∀ b o, κ'.I b o → b < w'.heap.size)
    (hown : ∀ n r, σ'.res n = some r → (σ.res n = some r ∧ w'.heap[κ.φ n]? = w.heap[κ.φ n]? ∧ ∀ o, κ'.I (κ.φ n) o → κ.I (κ.φ n) o) ∨
      (κ'.dom n ∧ Owns κ' w' n r ∧ (F (κ'.φ n) ∨ B ≤ κ'.φ n) ∧ ∀ m s, σ'.res m = some s → κ'.φ n = κ'.φ m → n = m)) : R B F κ' w' σ' where
  dom := hdom
  own := fun n r hr => by
    rcases hown n r hr with ⟨h1, h2, h3⟩ | ⟨h1, h2, _⟩
    · have := h.own n r h1
      exact ⟨e.dom n this.1, this.2.keep e this.1 h2 h3⟩
    · exact ⟨h1, h2⟩
  apart := fun n m r s hn hm hx => by
    rcases hown n r hn with ⟨h1, _⟩ | ⟨_, _, _, h4⟩
    · rcases hown m s hm with ⟨k1, _⟩ | ⟨_, _, _, k4⟩
      · exact h.apart n m r s h1 k1 (by rw [← e.φ n (h.own n r h1).1, ← e.φ m (h.own m s k1).1]; exact hx)
      · exact (k4 n r hn hx.symm).symm
    · exact h4 m s hm hx
  imm := himm
  foot := fun n r hr hrl => by
    rcases hown n r hr with ⟨h1, _⟩ | ⟨_, _, h3, _⟩
    · rw [e.φ n (h.own n r h1).1]; exact h.foot n r h1 hrl
    · exact h3

theorem R.lt {B : Nat} {F : Nat → Prop} {κ : Kx} {w : World} {σ : St} (h : R B F κ w σ) {n : Nat} {r : Res} (hr : σ.res n = some r) : κ.φ n < w.heap.size := by
  have := (h.own n r hr).2
  cases r with
  | obj cs => obtain ⟨us, rest, t, fz, h1, _⟩ := this; exact (Array.getElem?_eq_some_iff.1 h1).1
  | tip k => obtain ⟨_, us, t, fz, h1, _⟩ := this; exact (Array.getElem?_eq_some_iff.1 h1).1
  | map es ts clk => obtain ⟨ents, h1, _⟩ := this; exact (Array.getElem?_eq_some_iff.1 h1).1
  | iter m since seen last => exact (Array.getElem?_eq_some_iff.1 this.1).1
  | siter s pos => exact (Array.getElem?_eq_some_iff.1 this.1).1
  | glob b v => obtain ⟨h1, h2, _⟩ := this; rw [h1]; exact h.imm _ _ h2
  | gl b cs => obtain ⟨h1, h2, _⟩ := this; rw [h1]; exact h.imm _ _ h2

/-! ### New blocks -/

def Kx.name (κ : Kx) (nm b : Nat) : Kx := { κ with dom := fun n => κ.dom n ∨ n = nm, φ := fun n => if n = nm then b else κ.φ n, χ := fun n => if n = nm then 0 else κ.χ n }

def Kx.imms (κ : Kx) (b n : Nat) : Kx := { κ with I := fun b' o => κ.I b' o ∨ (b' = b ∧ o < n) }

def Kx.mark (κ : Kx) (nm b e r k : Nat) : Kx :=
  { κ with dom := fun n => κ.dom n ∨ n = nm, φ := fun n => if n = nm then b else κ.φ n, ψ := fun n => if n = nm then e else κ.ψ n,
           χ := fun n => if n = nm then r else κ.χ n, ξ := fun n => if n = nm then k else κ.ξ n }

theorem heap_alloc (w : World) (o : Obj) (b : Nat) (hb : b < w.heap.size) : (w.alloc o).heap[b]? = w.heap[b]? := by
  have e : (w.alloc o).heap = w.heap.push o := rfl
  rw [e, Array.getElem?_push, if_neg (by omega)]

theorem heap_alloc_new (w : World) (o : Obj) : (w.alloc o).heap[w.heap.size]? = some o := by
  have e : (w.alloc o).heap = w.heap.push o := rfl
  rw [e, Array.getElem?_push, if_pos rfl]

theorem size_alloc (w : World) (o : Obj) : (w.alloc o).heap.size = w.heap.size + 1 := by
  have e : (w.alloc o).heap = w.heap.push o := rfl
  rw [e, Array.size_push]

theorem Ext.name {κ : Kx} {w w' : World} {nm b : Nat} (hn : ¬ κ.dom nm) (hc : ∀ b o, κ.I b o → w'.cell? ⟨b, o, none⟩ = w.cell? ⟨b, o, none⟩) : Ext κ w (κ.name nm b) w' where
  I := fun _ _ h => h
  φ := fun n h => by have : n ≠ nm := fun e => hn (e ▸ h); simp [Kx.name, this]
  ψ := fun _ _ => rfl
  χ := fun n h => by have : n ≠ nm := fun e => hn (e ▸ h); simp [Kx.name, this]
  ξ := fun _ _ => rfl
  dom := fun _ h => .inl h
  cell := hc

theorem Ext.mark {κ : Kx} {w w' : World} {nm b e r k : Nat} (hn : ¬ κ.dom nm) (hc : ∀ b o, κ.I b o → w'.cell? ⟨b, o, none⟩ = w.cell? ⟨b, o, none⟩) : Ext κ w (κ.mark nm b e r k) w' where
  I := fun _ _ h => h
  φ := fun n h => by have : n ≠ nm := fun e => hn (e ▸ h); simp [Kx.mark, this]
  ψ := fun n h => by have : n ≠ nm := fun e => hn (e ▸ h); simp [Kx.mark, this]
  χ := fun n h => by have : n ≠ nm := fun e => hn (e ▸ h); simp [Kx.mark, this]
  ξ := fun n h => by have : n ≠ nm := fun e => hn (e ▸ h); simp [Kx.mark, this]
  dom := fun _ h => .inl h
  cell := hc

theorem Ext.imms {κ : Kx} {w w' : World} {b n : Nat} (hc : ∀ b o, κ.I b o → w'.cell? ⟨b, o, none⟩ = w.cell? ⟨b, o, none⟩) : Ext κ w (κ.imms b n) w' where
  I := fun _ _ h => .inl h
  φ := fun _ _ => rfl
  ψ := fun _ _ => rfl
  χ := fun _ _ => rfl
  ξ := fun _ _ => rfl
  dom := fun _ h => h
  cell := hc

section

variable {B : Nat} {F : Nat → Prop} {κ : Kx} {w : World} {σ : St}

theorem R.cells_alloc (h : R B F κ w σ) (o : Obj) : ∀ b i, κ.I b i → (w.alloc o).cell? ⟨b, i, none⟩ = w.cell? ⟨b, i, none⟩ :=
  fun b i hi => cell_same (heap_alloc w o b (h.imm b i hi)) i

/-- a new row that is owned -/
theorem R.new_obj (h : R B F κ w σ) (hB : B ≤ w.heap.size) {nm : Nat} (hn : ¬ κ.dom nm) (hlt : nm < σ.next) {us : List Value} {cs : List AV} (t : TypeId) (rest : List Value) (fz : Nat × Nat) (hf : fzOk us.length fz) (hv : Vl κ w us cs) :
    Ext κ w (κ.name nm w.heap.size) (w.alloc (.cells ⟨us ++ rest⟩ t fz)) ∧ R B F (κ.name nm w.heap.size) (w.alloc (.cells ⟨us ++ rest⟩ t fz)) (σ.set nm (.obj cs)) := by
  have e : Ext κ w (κ.name nm w.heap.size) (w.alloc (.cells ⟨us ++ rest⟩ t fz)) := .name hn (h.cells_alloc _)
  refine ⟨e, h.step e (fun n hd => ?_) (fun b o hi => ?_) (fun n r hr => ?_)⟩
  · rcases hd with hd | rfl
    · exact h.dom n hd
    · exact hlt
  · rw [size_alloc]; exact Nat.lt_succ_of_lt (h.imm b o hi)
  · by_cases hx : n = nm
    · subst hx
      simp only [St.set_same, Option.some.injEq] at hr
      subst hr
      refine .inr ⟨.inr rfl, ⟨us, rest, t, fz, ?_, hf, hv.mono e, fun o ho => ?_, by simp [Kx.name], .inr (by simp [Kx.name])⟩, .inr ?_, fun m s hs hm => ?_⟩
      · simp only [Kx.name, if_true]; exact heap_alloc_new _ _
      · simp only [Kx.name, if_true] at ho; exact absurd (h.imm _ _ ho) (Nat.lt_irrefl _)
      · simp only [Kx.name, if_true]; exact hB
      · by_cases hx : m = n
        · exact hx.symm
        · rw [St.set_other _ _ hx] at hs
          have := h.lt hs
          simp only [Kx.name, if_true, hx, if_false] at hm
          omega
    · rw [St.set_other _ _ hx] at hr
      exact .inl ⟨hr, heap_alloc _ _ _ (h.lt hr), fun o ho => ho⟩

/-- a new row that is owned, and the room behind it -/
theorem R.new_objr (h : R B F κ w σ) (hB : B ≤ w.heap.size) {nm : Nat} (hn : ¬ κ.dom nm) (hlt : nm < σ.next) {us : List Value} {cs : List AV} (t : TypeId) (rest : List Value) (fz : Nat × Nat) (hf : fzOk us.length fz) (hv : Vl κ w us cs)
    (x : Nat) (hx : x ≤ us.length + rest.length) (hfx : fzOk x fz) :
    Ext κ w (κ.mark nm w.heap.size 0 x 0) (w.alloc (.cells ⟨us ++ rest⟩ t fz)) ∧ R B F (κ.mark nm w.heap.size 0 x 0) (w.alloc (.cells ⟨us ++ rest⟩ t fz)) (σ.set nm (.obj cs)) := by
  have e : Ext κ w (κ.mark nm w.heap.size 0 x 0) (w.alloc (.cells ⟨us ++ rest⟩ t fz)) := .mark hn (h.cells_alloc _)
  refine ⟨e, h.step e (fun n hd => ?_) (fun b o hi => ?_) (fun n r hr => ?_)⟩
  · rcases hd with hd | rfl
    · exact h.dom n hd
    · exact hlt
  · rw [size_alloc]; exact Nat.lt_succ_of_lt (h.imm b o hi)
  · by_cases hx0 : n = nm
    · subst hx0
      simp only [St.set_same, Option.some.injEq] at hr
      subst hr
      refine .inr ⟨.inr rfl, ⟨us, rest, t, fz, ?_, hf, hv.mono e, fun o ho => ?_, by simpa [Kx.mark] using hx, by simpa [Kx.mark] using hfx⟩, .inr ?_, fun m s hs hm => ?_⟩
      · simp only [Kx.mark, if_true]; exact heap_alloc_new _ _
      · simp only [Kx.mark, if_true] at ho; exact absurd (h.imm _ _ ho) (Nat.lt_irrefl _)
      · simp only [Kx.mark, if_true]; exact hB
      · by_cases hx : m = n
        · exact hx.symm
        · rw [St.set_other _ _ hx] at hs
          have := h.lt hs
          simp only [Kx.mark, if_true, hx, if_false] at hm
          omega
    · rw [St.set_other _ _ hx0] at hr
      exact .inl ⟨hr, heap_alloc _ _ _ (h.lt hr), fun o ho => ho⟩

/-- a new block of another kind -/
theorem R.new_other (h : R B F κ w σ) (hB : B ≤ w.heap.size) {nm : Nat} (hn : ¬ κ.dom nm) (hlt : nm < σ.next) (ob : Obj) (r : Res)
    (ho : ∀ κ' w', κ'.φ nm = w.heap.size → Ext κ w κ' w' → w'.heap[w.heap.size]? = some ob → (∀ o, ¬ κ'.I w.heap.size o) → Owns κ' w' nm r) :
    Ext κ w (κ.name nm w.heap.size) (w.alloc ob) ∧ R B F (κ.name nm w.heap.size) (w.alloc ob) (σ.set nm r) := by
  have e : Ext κ w (κ.name nm w.heap.size) (w.alloc ob) := .name hn (h.cells_alloc _)
  refine ⟨e, h.step e (fun n hd => ?_) (fun b o hi => ?_) (fun n r' hr => ?_)⟩
  · rcases hd with hd | rfl
    · exact h.dom n hd
    · exact hlt
  · rw [size_alloc]; exact Nat.lt_succ_of_lt (h.imm b o hi)
  · by_cases hx : n = nm
    · subst hx
      simp only [St.set_same, Option.some.injEq] at hr
      subst hr
      refine .inr ⟨.inr rfl, ?_, .inr ?_, fun m s hs hm => ?_⟩
      · refine ho _ _ (by simp [Kx.name]) e (heap_alloc_new _ _) (fun o ho => ?_)
        exact absurd (h.imm _ _ ho) (Nat.lt_irrefl _)
      · simp only [Kx.name, if_true]; exact hB
      · by_cases hx : m = n
        · exact hx.symm
        · rw [St.set_other _ _ hx] at hs
          have := h.lt hs
          simp only [Kx.name, if_true, hx, if_false] at hm
          omega
    · rw [St.set_other _ _ hx] at hr
      exact .inl ⟨hr, heap_alloc _ _ _ (h.lt hr), fun o ho => ho⟩

/-- a new map -/
theorem R.new_map (h : R B F κ w σ) (hB : B ≤ w.heap.size) {nm : Nat} (hn : ¬ κ.dom nm) (hlt : nm < σ.next) :
    Ext κ w (κ.name nm w.heap.size) (w.alloc (.map #[] 0)) ∧ R B F (κ.name nm w.heap.size) (w.alloc (.map #[] 0)) (σ.set nm (.map [] [] 0)) :=
  h.new_other hB hn hlt _ _ fun κ' w' hφ _ hw hI => ⟨[], by rw [hφ, hw], .nil, by rw [hφ]; exact hI, rfl, .nil, fun t ht => by cases ht⟩

/-- a new row that never changes: all of its first n cells -/
theorem R.new_imm (h : R B F κ w σ) (us : List Value) (t : TypeId) (fz : Nat × Nat) (n : Nat) :
    Ext κ w (κ.imms w.heap.size n) (w.alloc (.cells ⟨us⟩ t fz)) ∧ R B F (κ.imms w.heap.size n) (w.alloc (.cells ⟨us⟩ t fz)) σ := by
  have e : Ext κ w (κ.imms w.heap.size n) (w.alloc (.cells ⟨us⟩ t fz)) := .imms (h.cells_alloc _)
  refine ⟨e, h.step e (fun n hd => h.dom n hd) (fun b o hi => ?_) (fun n r hr => .inl ⟨hr, heap_alloc _ _ _ (h.lt hr), fun o ho => ?_⟩)⟩
  · rw [size_alloc]
    rcases hi with hi | ⟨rfl, _⟩
    · exact Nat.lt_succ_of_lt (h.imm b o hi)
    · exact Nat.lt_succ_self _
  · rcases ho with ho | ⟨hx, _⟩
    · exact ho
    · exact absurd (h.lt hr) (by rw [hx]; exact Nat.lt_irrefl _)

/-- a new row, its first n cells never changing, its room behind them owned -/
theorem R.new_tip (h : R B F κ w σ) (hB : B ≤ w.heap.size) {nm : Nat} (hn : ¬ κ.dom nm) (hlt : nm < σ.next) (us : List Value) (t : TypeId) (fz : Nat × Nat) (hf : fzOk us.length fz) (n r k : Nat) (hr : r ≤ us.length) :
    Ext κ w ((κ.imms w.heap.size n).mark nm w.heap.size n r k) (w.alloc (.cells ⟨us⟩ t fz)) ∧ R B F ((κ.imms w.heap.size n).mark nm w.heap.size n r k) (w.alloc (.cells ⟨us⟩ t fz)) (σ.set nm (.tip k)) := by
  have e : Ext κ w ((κ.imms w.heap.size n).mark nm w.heap.size n r k) (w.alloc (.cells ⟨us⟩ t fz)) := by
    have e1 : Ext κ w (κ.imms w.heap.size n) (w.alloc (.cells ⟨us⟩ t fz)) := .imms (h.cells_alloc _)
    exact e1.trans (.mark (κ := κ.imms w.heap.size n) hn (fun _ _ _ => rfl))
  refine ⟨e, h.step e (fun n hd => ?_) (fun b o hi => ?_) (fun m s hs => ?_)⟩
  · rcases hd with hd | rfl
    · exact h.dom n hd
    · exact hlt
  · rw [size_alloc]
    rcases hi with hi | ⟨rfl, _⟩
    · exact Nat.lt_succ_of_lt (h.imm b o hi)
    · exact Nat.lt_succ_self _
  · by_cases hx : m = nm
    · subst hx
      simp only [St.set_same, Option.some.injEq] at hs
      subst hs
      refine .inr ⟨.inr rfl, ⟨by simp [Kx.mark], us, t, fz, ?_, hf, by simpa [Kx.mark] using hr, fun o hp ho => ?_⟩, .inr ?_, fun j s hj hm => ?_⟩
      · simp only [Kx.mark, if_true]; exact heap_alloc_new _ _
      · simp only [Kx.mark, if_true, Kx.imms] at ho hp
        rcases ho with ho | ⟨_, ho⟩
        · exact absurd (h.imm _ _ ho) (Nat.lt_irrefl _)
        · omega
      · simp only [Kx.mark, if_true]; exact hB
      · by_cases hx : j = m
        · exact hx.symm
        · rw [St.set_other _ _ hx] at hj
          have := h.lt hj
          simp only [Kx.mark, if_true, hx, if_false, Kx.imms] at hm
          omega
    · rw [St.set_other _ _ hx] at hs
      refine .inl ⟨hs, heap_alloc _ _ _ (h.lt hs), fun o ho => ?_⟩
      simp only [Kx.mark, Kx.imms] at ho
      rcases ho with ho | ⟨hy, _⟩
      · exact ho
      · exact absurd (h.lt hs) (by rw [hy]; exact Nat.lt_irrefl _)

/-- an owned row is told anew: its block holds other cells -/
theorem R.set_obj (h : R B F κ w σ) {n : Nat} {cs cs' : List AV} (hr : σ.res n = some (.obj cs)) {w' : World} {us rest : List Value} {t : TypeId} {fz : Nat × Nat}
    (hb : w'.heap[κ.φ n]? = some (.cells ⟨us ++ rest⟩ t fz)) (hf : fzOk us.length fz) (ho : ∀ b, b ≠ κ.φ n → w'.heap[b]? = w.heap[b]?) (hs : w'.heap.size = w.heap.size)
    (hv : Vl κ w us cs') (hx : κ.χ n ≤ us.length + rest.length ∧ fzOk (κ.χ n) fz) : Ext κ w κ w' ∧ R B F κ w' (σ.set n (.obj cs')) := by
  obtain ⟨hd, us0, rest0, t0, fz0, h1, h2, h3, h4, _⟩ := h.own n _ hr
  have e : Ext κ w κ w' := ⟨fun _ _ x => x, fun _ _ => rfl, fun _ _ => rfl, fun _ _ => rfl, fun _ _ => rfl, fun _ x => x, fun b o hi => cell_same (ho b (fun hx => h4 o (hx ▸ hi))) o⟩
  refine ⟨e, h.step e h.dom (fun b o hi => by rw [hs]; exact h.imm b o hi) (fun m r hm => ?_)⟩
  by_cases hx : m = n
  · subst hx
    simp only [St.set_same, Option.some.injEq] at hm
    subst hm
    refine .inr ⟨hd, ⟨us, rest, t, fz, hb, hf, hv.mono e, h4, hx⟩, h.foot _ _ hr rfl, fun j s hj hm => ?_⟩
    by_cases hy : j = m
    · exact hy.symm
    · rw [St.set_other _ _ hy] at hj
      exact h.apart _ _ _ _ hr hj hm
  · rw [St.set_other _ _ hx] at hm
    exact .inl ⟨hm, ho _ (fun hy => hx (h.apart _ _ _ _ hm hr hy)), fun o x => x⟩

/-- an owned thing is told anew -/
theorem R.set_res (h : R B F κ w σ) {n : Nat} {r r' : Res} (hr : σ.res n = some r) (hI : ∀ o, ¬ κ.I (κ.φ n) o) {w' : World}
    (ho : ∀ b, b ≠ κ.φ n → w'.heap[b]? = w.heap[b]?) (hs : w'.heap.size = w.heap.size)
    (hv : Ext κ w κ w' → Owns κ w' n r') : Ext κ w κ w' ∧ R B F κ w' (σ.set n r') := by
  obtain ⟨hd, hown⟩ := h.own n _ hr
  have hrl : r.real = true := by
    cases r with
    | glob b v => obtain ⟨g1, g2, _⟩ := hown; rw [← g1] at g2; exact absurd g2 (hI 0)
    | gl b cs => obtain ⟨g1, g2, _⟩ := hown; rw [← g1] at g2; exact absurd g2 (hI 0)
    | _ => rfl
  have e : Ext κ w κ w' := ⟨fun _ _ x => x, fun _ _ => rfl, fun _ _ => rfl, fun _ _ => rfl, fun _ _ => rfl, fun _ x => x, fun b o hi => cell_same (ho b (fun hx => hI o (hx ▸ hi))) o⟩
  refine ⟨e, h.step e h.dom (fun b o hi => by rw [hs]; exact h.imm b o hi) (fun m r hm => ?_)⟩
  by_cases hx : m = n
  · subst hx
    simp only [St.set_same, Option.some.injEq] at hm
    subst hm
    refine .inr ⟨hd, hv e, h.foot _ _ hr hrl, fun j s hj hm => ?_⟩
    by_cases hy : j = m
    · exact hy.symm
    · rw [St.set_other _ _ hy] at hj
      exact h.apart _ _ _ _ hr hj hm
  · rw [St.set_other _ _ hx] at hm
    exact .inl ⟨hm, ho _ (fun hy => hx (h.apart _ _ _ _ hm hr hy)), fun o x => x⟩

theorem R.set_map (h : R B F κ w σ) {n : Nat} {es es' : List (AV × AV)} {ts ts' : List Nat} {clk clk' : Nat} (hr : σ.res n = some (.map es ts clk)) {w' : World} {ents : List MapEntry}
    (hb : w'.heap[κ.φ n]? = some (.map ⟨ents⟩ clk')) (ho : ∀ b, b ≠ κ.φ n → w'.heap[b]? = w.heap[b]?) (hs : w'.heap.size = w.heap.size)
    (hv : Vm κ w ents es') (ht : ents.map (·.born) = ts') (hnd : ts'.Nodup) (hlt : ∀ t ∈ ts', t < clk') : Ext κ w κ w' ∧ R B F κ w' (σ.set n (.map es' ts' clk')) := by
  obtain ⟨hd, e0, h1, h2, h4, h5⟩ := h.own n _ hr
  exact h.set_res hr h4 ho hs fun e => ⟨ents, hb, hv.mono e, h4, ht, hnd, hlt⟩

end

end Go.VL

namespace Go.VL

def ownd (κ : Kx) (σ : St) (b : Nat) : Prop := ∃ n r, σ.res n = some r ∧ r.real = true ∧ κ.φ n = b

/-- a function with a body of its own -/
def Enters (P : Program) (f : Nat) : Prop := ∃ fn, P.funcs[f]? = some fn ∧ fn.body.isNone = false ∧ (fn.name == "runtime.NumGoroutine") = false

/-- WHAT A CALL COMES TO, over values: from whatever memory that the owned things fit, it returns what K tells. -/
def ACalls (P : Program) (f : Nat) (args : List AV) (σ : St) (K : AV → St → Prop) : Prop :=
  Enters P f ∧ ∀ (κ : Kx) (w : World) (vs : List Value) (B : Nat) (F : Nat → Prop), R B F κ w σ → Vl κ w vs args →
    Calls P f ⟨vs⟩ w fun e w' => ∃ v x κ' σ', e = .returned v ∧ Ext κ w κ' w' ∧ (∀ n, κ'.dom n → κ.dom n ∨ σ.next ≤ n) ∧ R w.heap.size (ownd κ σ) κ' w' σ' ∧ Fr (ownd κ σ) w w' ∧
      σ.next ≤ σ'.next ∧ V κ' w' v x ∧ K x σ'

theorem ACalls.mono {P : Program} {f : Nat} {args : List AV} {σ : St} {K K' : AV → St → Prop} (h : ACalls P f args σ K) (hk : ∀ x σ', K x σ' → K' x σ') : ACalls P f args σ K' :=
  ⟨h.1, fun κ w vs B F hr hv => (h.2 κ w vs B F hr hv).mono fun _ _ ⟨v, x, κ', σ', h1, h2, h3, h4, h5, h6, h7, h8⟩ => ⟨v, x, κ', σ', h1, h2, h3, h4, h5, h6, h7, hk _ _ h8⟩⟩

structure Post (w0 : World) (F : Nat → Prop) (κ : Kx) (w : World) (σ : St) (nm : Nat) (κ' : Kx) (w' : World) (σ' : St) : Prop where
  ext : Ext κ w κ' w'
  dom : ∀ n, κ'.dom n → κ.dom n ∨ n = nm ∨ σ.next ≤ n
  r : R w0.heap.size F κ' w' σ'
  fr : Fr F w0 w'
  next : σ.next ≤ σ'.next

structure Inv (w0 : World) (F : Nat → Prop) (κ : Kx) (a : Act) (w : World) (ρ : List AV) (σ : St) : Prop where
  r : R w0.heap.size F κ w σ
  fr : Fr F w0 w
  env : Vl κ w a.tmps.toList ρ
  defers : a.defers = []

theorem R.widen {B : Nat} {F : Nat → Prop} {κ κ' : Kx} {w w' : World} {σ σ' : St} (h : R B F κ w σ) (hB : B ≤ w.heap.size) (h' : R w.heap.size (ownd κ σ) κ' w' σ') : R B F κ' w' σ' where
  dom := h'.dom
  own := h'.own
  apart := h'.apart
  imm := h'.imm
  foot := fun n r hr hrl => by
    rcases h'.foot n r hr hrl with ⟨m, s, hs, hsr, hm⟩ | hx
    · rw [← hm]; exact h.foot m s hs hsr
    · exact .inr (Nat.le_trans hB hx)

theorem Fr.widen {B : Nat} {F : Nat → Prop} {κ : Kx} {w0 w w' : World} {σ : St} (h : Fr F w0 w) (hr : R B F κ w σ) (hB : B = w0.heap.size) (h' : Fr (ownd κ σ) w w') : Fr F w0 w' where
  os := h'.os.trans h.os
  tape := h'.tape.trans h.tape
  output := h'.output.trans h.output
  size := Nat.le_trans h.size h'.size
  block := fun b hb hF => by
    rw [h'.block b (Nat.lt_of_lt_of_le hb h.size) ?_, h.block b hb hF]
    rintro ⟨n, r, hn, hrl, rfl⟩
    rcases hr.foot n r hn hrl with hx | hx
    · exact hF hx
    · omega

/-! ### What a value of a shape is -/

section

variable {κ : Kx} {w : World} {v : Value}

theorem V.ptr_inv {n off : Nat} (h : V κ w v (.ptr n off)) : v = .pointer (some ⟨κ.φ n, off, none⟩) ∧ κ.dom n := by cases h; exact ⟨rfl, by assumption⟩

theorem V.eptr_inv {cs : List AV} (h : V κ w v (.eptr cs)) : ∃ b i, v = .pointer (some ⟨b, i, none⟩) ∧ Vs κ w b i cs := by cases h; exact ⟨_, _, rfl, by assumption⟩

theorem V.int_inv {k : IntKind} {n : Int} (h : V κ w v (.int k n)) : v = .int k n := by cases h; rfl

theorem V.bool_inv {b : Bool} (h : V κ w v (.bool b)) : v = .bool b := by cases h; rfl

theorem V.str_inv {s : ByteArray} (h : V κ w v (.str s)) : v = .string s := by cases h; rfl

theorem V.nilp_inv (h : V κ w v .nilp) : v = .pointer none := by cases h; rfl

theorem V.nilm_inv (h : V κ w v .nilm) : v = .map none := by cases h; rfl

theorem V.nili_inv (h : V κ w v .nili) : v = .nilIface := by cases h; rfl

theorem V.room_inv {g n : Nat} (h : V κ w v (.room g n)) : ∃ o cap, v = .slice (some ⟨κ.φ g, o, none⟩) n cap ∧ κ.dom g ∧ n ≤ cap ∧ κ.ψ g = o ∧ κ.χ g = o + cap * κ.ξ g := by cases h; exact ⟨_, _, rfl, by assumption, by assumption, by assumption, by assumption⟩

theorem V.refr_inv {n k len : Nat} (h : V κ w v (.refr n k len)) : ∃ cap, v = .slice (some ⟨κ.φ n, 0, none⟩) len cap ∧ len ≤ cap ∧ κ.dom n ∧ κ.χ n = cap * k := by cases h; exact ⟨_, rfl, by assumption, by assumption, by assumption⟩

theorem V.map_inv {n : Nat} (h : V κ w v (.map n)) : v = .map (some (κ.φ n)) ∧ κ.dom n := by cases h; exact ⟨rfl, by assumption⟩

theorem V.agg_inv {x : List AV} (h : V κ w v (.agg x)) : ∃ u, v = .agg ⟨u⟩ ∧ Vl κ w u x := by cases h; exact ⟨_, rfl, by assumption⟩

theorem V.tup_inv {x : List AV} (h : V κ w v (.tup x)) : ∃ u, v = .tuple ⟨u⟩ ∧ Vl κ w u x := by cases h; exact ⟨_, rfl, by assumption⟩

theorem V.iface_inv {t : Nat} {x : AV} (h : V κ w v (.iface t x)) : ∃ u, v = .iface t u ∧ V κ w u x := by cases h; exact ⟨_, rfl, by assumption⟩

theorem V.func_inv {f : Nat} {x y : List AV} (h : V κ w v (.func f x y)) : ∃ p q, v = .func (.func f) ⟨p⟩ ⟨q⟩ ∧ Vl κ w p x ∧ Vl κ w q y := by cases h; exact ⟨_, _, rfl, by assumption, by assumption⟩

theorem V.ref_inv {n off len : Nat} (h : V κ w v (.ref n off len)) : ∃ cap, v = .slice (some ⟨κ.φ n, off, none⟩) len cap ∧ len ≤ cap ∧ κ.dom n := by cases h; exact ⟨_, rfl, by assumption, by assumption⟩

theorem V.sl_inv {xs : List AV} {g : Ver} (h : V κ w v (.sl xs g)) : (∃ base, v = .slice base 0 0 ∧ xs = []) ∨
    ∃ b i cap k, v = .slice (some ⟨b, i, none⟩) xs.length cap ∧ (∀ x ∈ xs, x.cells.length = k) ∧ xs.length ≤ cap ∧ Vs κ w b i (xs.flatMap AV.cells) := by
  cases h with
  | slnil g hg => exact .inl ⟨_, rfl, rfl⟩
  | slz a g hg => exact .inl ⟨_, rfl, rfl⟩
  | sl b o cap k xs hk hc h => exact .inr ⟨b, o, cap, k, rfl, hk, hc, h⟩
  | tip o cap g xs hk hc hg he hr h => exact .inr ⟨_, o, cap, _, rfl, hk, hc, h⟩

end

theorem ba_beq (a b : ByteArray) : (a == b) = decide (a = b) := by
  obtain ⟨x⟩ := a
  obtain ⟨y⟩ := b
  by_cases h : x = y
  · subst h
    simp
    show (x == x) = true
    simp
  · have h1 : ¬ (ByteArray.mk x = ByteArray.mk y) := fun e => h (by injection e)
    rw [decide_eq_false h1]
    show (x == y) = false
    simpa using h

theorem bl_beq (a b : ByteArray) : (a.toList == b.toList) = decide (a = b) := by
  rw [ByteArray.toList_eq, ByteArray.toList_eq]
  by_cases h : a = b
  · subst h; simp
  · rw [decide_eq_false h]
    simp only [beq_eq_false_iff_ne, ne_eq]
    exact fun e => h (ByteArray.ext (Array.toList_inj.mp e))

/-- The operation o, at this frame and in this memory, does what K tells. -/
def Good (P : Program) (w0 : World) (F : Nat → Prop) (o : Oper) (a : Act) (w : World) (κ : Kx) (σ : St) (nm : Nat) (K : AV → St → Prop) : Prop :=
  ∀ (next : Act → World → Prop) (Q : Exit → Act → World → Prop), (∀ v w' κ' x σ', Post w0 F κ w σ nm κ' w' σ' → V κ' w' v x → K x σ' → next (a.put o.dst v) w') → o.wp P a w next Q

section

variable {P : Program} {w0 : World} {F : Nat → Prop} {o : Oper} {a : Act} {w : World} {κ : Kx} {ρ : List AV} {σ : St} {nm : Nat} {K : AV → St → Prop}

theorem Inv.refl (h : Inv w0 F κ a w ρ σ) : Post w0 F κ w σ nm κ w σ := ⟨.refl _ _, fun _ h => .inl h, h.r, h.fr, Nat.le_refl _⟩

theorem Inv.hB (h : Inv w0 F κ a w ρ σ) : w0.heap.size ≤ w.heap.size := h.fr.size

theorem Good.value {v : Value} {x : AV} (hI : Inv w0 F κ a w ρ σ) (he : (execOp a.eval o).run P w = .ok (.value v) w) (hv : V κ w v x) (hk : K x σ) : Good P w0 F o a w κ σ nm K := by
  intro next Q hn
  unfold Oper.wp
  rw [he]
  exact hn v w κ x σ hI.refl hv hk

theorem Good.value' {v : Value} {x : AV} {w' : World} {κ' : Kx} {σ' : St} (hp : Post w0 F κ w σ nm κ' w' σ') (he : (execOp a.eval o).run P w = .ok (.value v) w') (hv : V κ' w' v x) (hk : K x σ') : Good P w0 F o a w κ σ nm K := by
  intro next Q hn
  unfold Oper.wp
  rw [he]
  exact hn v w' κ' x σ' hp hv hk

theorem Good.skip' {w' : World} {κ' : Kx} {σ' : St} (hp : Post w0 F κ w σ nm κ' w' σ') (he : (execOp a.eval o).run P w = .ok .skip w') (hk : K (.tup []) σ') : Good P w0 F o a w κ σ nm K := by
  intro next Q hn
  unfold Oper.wp
  rw [he]
  exact hn undef w' κ' (.tup []) σ' hp (.tup [] [] .nil) hk

theorem Fr.drawn (h : Fr F w0 w) (n : Nat) (hn : w.drawn ≤ n) : Fr F w0 { w with drawn := n } := ⟨⟨h.os.os, Nat.le_trans h.os.dr hn⟩, h.tape, h.output, h.size, h.block⟩

theorem Fr.alloc (h : Fr F w0 w) (ob : Obj) : Fr F w0 (w.alloc ob) :=
  ⟨⟨h.os.os, h.os.dr⟩, h.tape, h.output, by rw [size_alloc]; exact Nat.le_succ_of_le h.size, fun b hb hF => by rw [heap_alloc _ _ _ (Nat.lt_of_lt_of_le hb h.size)]; exact h.block b hb hF⟩

theorem Fr.owned {B : Nat} (h : Fr F w0 w) (hr : R B F κ w σ) (hB : B = w0.heap.size) {n : Nat} {r : Res} (hn : σ.res n = some r) {w' : World} (h1 : OsD w w') (h2 : w'.tape = w.tape) (h3 : w'.output = w.output)
    (h4 : w'.heap.size = w.heap.size) (h5 : ∀ b, b ≠ κ.φ n → w'.heap[b]? = w.heap[b]?) (hrl : r.real = true := by rfl) : Fr F w0 w' :=
  ⟨h1.trans h.os, h2.trans h.tape, h3.trans h.output, by rw [h4]; exact h.size, fun b hb hF => by
    rw [h5 b ?_]; exact h.block b hb hF
    rintro rfl
    rcases hr.foot n r hn hrl with hx | hx
    · exact hF hx
    · omega⟩

/-! ### Operands -/

theorem constCs_ok : ∀ {vs : List Value} {xs : List AV}, constCs vs = some xs → Vl κ w vs xs
  | [], xs, h => by simp [constCs] at h; subst h; exact .nil
  | v :: r, xs, h => by
    unfold constCs at h
    split at h
    · rename_i x y hx hy
      simp only [Option.some.injEq] at h
      subst h
      refine .cons _ _ _ _ ?_ (constCs_ok hy)
      unfold constAV at hx
      split at hx <;> simp only [Option.some.injEq, reduceCtorEq] at hx <;> subst hx <;> first | (constructor; done) | exact .slnil _ (.inl rfl)
    · cases h

theorem constAV_ok {v : Value} {x : AV} (h : constAV v = some x) : V κ w v x := by
  have : constCs [v] = some [x] := by simp [constCs, h]
  cases constCs_ok (κ := κ) (w := w) this with
  | cons _ _ _ _ h _ => exact h

theorem constV_ok {v : Value} {x : AV} (h : constV v = some x) : V κ w v x := by
  unfold constV at h
  split at h
  · rename_i cs
    rw [Option.map_eq_some_iff] at h
    obtain ⟨ys, hy, rfl⟩ := h
    exact .agg _ _ (constCs_ok hy)
  · exact constAV_ok h

theorem Inv.opX (h : Inv w0 F κ a w ρ σ) {y : Operand} {x : X} (hx : opX y = some x) : V κ w (a.eval y) (ev ρ x) := by
  cases y with
  | tmp t =>
    simp only [VL.opX, Option.some.injEq] at hx
    subst hx
    have := h.env.get t
    simpa [Act.eval, ev] using this
  | const v =>
    simp only [VL.opX, Option.map_eq_some_iff] at hx
    obtain ⟨z, hz, rfl⟩ := hx
    exact constV_ok hz
  | global g => simp [VL.opX] at hx
  | func f =>
    simp only [VL.opX, Option.some.injEq] at hx
    subst hx
    exact .func f [] [] [] [] .nil .nil

theorem Inv.opXs (h : Inv w0 F κ a w ρ σ) : ∀ {ys : List Operand} {xs : List X}, opXs ys = some xs → Vl κ w (ys.map a.eval) (xs.map (ev ρ))
  | [], xs, hx => by simp only [VL.opXs, Option.some.injEq] at hx; subst hx; exact .nil
  | y :: r, xs, hx => by
    unfold VL.opXs at hx
    split at hx
    · rename_i x z h1 h2
      simp only [Option.some.injEq] at hx
      subst hx
      exact .cons _ _ _ _ (h.opX h1) (h.opXs h2)
    · cases hx

/-! ### A row of cells that can be read -/

def Row (κ : Kx) (w : World) (b o : Nat) (cs : List AV) : Prop := ∃ us, Vl κ w us cs ∧ ∀ i u, us[i]? = some u → w.cell? ⟨b, o + i, none⟩ = some u

theorem Row.of_vs {b i : Nat} {cs : List AV} (h : Vs κ w b i cs) : Row κ w b i cs := by
  obtain ⟨us, h1, _, h3⟩ := h.row
  exact ⟨us, h1, h3⟩

theorem Row.drop {b i : Nat} {cs : List AV} (h : Row κ w b i cs) (j : Nat) : Row κ w b (i + j) (cs.drop j) := by
  obtain ⟨us, h1, h3⟩ := h
  exact ⟨us.drop j, h1.drop j, fun k u hk => by rw [Nat.add_assoc]; exact h3 _ u (by simpa using hk)⟩

theorem Row.of_own {n : Nat} {cs : List AV} (h : Owns κ w n (.obj cs)) : Row κ w (κ.φ n) 0 cs := by
  obtain ⟨us, rest, t, fz, h1, _, h3, _⟩ := h
  exact ⟨us, h3, fun i u hu => by
    have hi : i < us.length := (List.getElem?_eq_some_iff.1 hu).1
    rw [cell_of h1, Nat.zero_add, List.getElem?_append_left hi]; exact hu⟩

theorem add_spot (b i j : Nat) : (⟨b, i, none⟩ : Addr).add j = ⟨b, i + j, none⟩ := by
  unfold Addr.add; split
  · simp_all
  · rfl

theorem run_isAgg {t : TypeId} {k : Option Nat} (h : kindOf P t = some k) : (isAgg t).run P w = .ok k.isSome w ∧ (∀ n, k = some n → (sizeOf t).run P w = .ok n w) := by
  unfold kindOf at h
  split at h
  · rename_i h1 h2
    simp only [Option.some.injEq] at h; subst h
    exact ⟨by simp [isAgg, underlying, h1], fun n hn => by simp [sizeOf, typeInfo, h2] at hn ⊢; exact hn⟩
  · rename_i h1 h2
    simp only [Option.some.injEq] at h; subst h
    exact ⟨by simp [isAgg, underlying, h1], fun n hn => by simp [sizeOf, typeInfo, h2] at hn ⊢; exact hn⟩
  · rename_i d i h1 h2 hs ha
    split at h
    · simp only [Option.some.injEq] at h; subst h
      refine ⟨?_, fun n hn => by cases hn⟩
      simp only [isAgg, underlying, Sem.run_bind, run_program, Result.andThen_ok, hs]
      cases d <;> first | rfl | (exact (h1 _ rfl).elim) | (exact (h2 _ _ rfl).elim)
    · cases h
  · cases h

theorem run_loadVar {t : TypeId} {k : Option Nat} (hk : kindOf P t = some k) {b i : Nat} {cs : List AV} (h : Row κ w b i cs) {x : AV} (hx : ldc cs 0 k = some x) :
    ∃ u, (loadVar t ⟨b, i, none⟩).run P w = .ok u w ∧ V κ w u x := by
  obtain ⟨us, h1, h3⟩ := h
  obtain ⟨e1, e2⟩ := run_isAgg (w := w) hk
  cases k with
  | none =>
    obtain ⟨u, hu, hv⟩ := h1.get? 0 x (by simpa [ldc] using hx)
    refine ⟨u, ?_, hv⟩
    have := h3 0 u hu
    simp only [Nat.add_zero] at this
    simp [loadVar, e1, this]
  | some n =>
    simp only [ldc, Nat.zero_add] at hx
    split at hx
    · rename_i hn
      simp only [List.drop_zero, Option.some.injEq] at hx
      subst hx
      refine ⟨.agg ⟨us.take n⟩, ?_, .agg _ _ (h1.take n)⟩
      have hl := h1.length
      have hr := run_loadCells_list (P := P) (w := w) ⟨b, i, none⟩ (us.take n) (fun j v hj => by
        rw [add_spot]; exact h3 j v (by rw [List.getElem?_take] at hj; split at hj <;> simp_all))
      rw [List.length_take, Nat.min_eq_left (by omega)] at hr
      simp [loadVar, e1, e2 n rfl, hr]
    · cases hx

end

end Go.VL

namespace Go.VL

section

variable {P : Program} {w0 : World} {F : Nat → Prop} {o : Oper} {a : Act} {w : World} {κ : Kx} {ρ : List AV} {σ : St} {nm : Nat} {K : AV → St → Prop}

theorem opt_some {α : Type} {K : α → Prop} {z : Option α} (h : opt K z) : ∃ v, z = some v ∧ K v := by
  cases z with
  | none => exact h.elim
  | some v => exact ⟨v, rfl, h⟩

theorem ok_mv (hI : Inv w0 F κ a w ρ σ) {y : Operand} {x : X} (hop : o.op = .move y ∨ o.op = .assign y) (hx : opX y = some x) (h : K (ev ρ x) σ) : Good P w0 F o a w κ σ nm K :=
  .value hI (by rcases hop with hop | hop <;> simp [execOp, hop]) (hI.opX hx) h

theorem ok_pick (hI : Inv w0 F κ a w ρ σ) {c y z : Operand} {c' y' z' : X} (hop : o.op = .pick c y z) (hc : opX c = some c') (hy : opX y = some y') (hz : opX z = some z')
    (h : astep (ACalls P) nm ρ σ K (.pick c' y' z')) : Good P w0 F o a w κ σ nm K := by
  have vc := hI.opX hc
  simp only [astep] at h
  split at h
  · rename_i t ht
    rw [ht] at vc
    cases hv : a.eval c <;> rw [hv] at vc <;> cases vc
    refine .value hI (v := if t then a.eval y else a.eval z) (by cases t <;> simp [execOp, hop, hv, asBool]) ?_ h
    cases t
    · exact hI.opX hz
    · exact hI.opX hy
  · exact h.elim

theorem ldc_drop {cs : List AV} {off : Nat} {k : Option Nat} {v : AV} (h : ldc cs off k = some v) : ldc (cs.drop off) 0 k = some v := by
  cases k with
  | none => simpa [ldc] using h
  | some n =>
    simp only [ldc] at h ⊢
    split at h
    · rename_i hn
      rw [if_pos (by simp only [List.length_drop]; omega)]
      simpa using h
    · cases h

theorem ok_load (hI : Inv w0 F κ a w ρ σ) {t : TypeId} {y : Operand} {x : X} {k : Option Nat} (hop : o.op = .load t y) (hk : kindOf P t = some k) (hx : opX y = some x)
    (h : astep (ACalls P) nm ρ σ K (.load k x)) : Good P w0 F o a w κ σ nm K := by
  have vx := hI.opX hx
  simp only [astep] at h
  split at h
  · rename_i n off hn
    rw [hn] at vx
    obtain ⟨hy, hd⟩ := vx.ptr_inv
    split at h
    · rename_i cs hr
      obtain ⟨v, hv, hK⟩ := opt_some h
      have hrow := (Row.of_own (hI.r.own n _ hr).2).drop off
      rw [Nat.zero_add] at hrow
      obtain ⟨u, hu, hV⟩ := run_loadVar (P := P) (w := w) hk hrow (ldc_drop hv)
      exact .value hI (by simp [execOp, hop, hy, Instr.loadAt, Instr.sureAddr, hu]) hV hK
    · exact h.elim
  · rename_i cs hn
    rw [hn] at vx
    obtain ⟨v, hv, hK⟩ := opt_some h
    obtain ⟨b, i, hy, hh⟩ := vx.eptr_inv
    obtain ⟨u, hu, hV⟩ := run_loadVar (P := P) (w := w) hk (Row.of_vs hh) hv
    exact .value hI (by simp [execOp, hop, hy, Instr.loadAt, Instr.sureAddr, hu]) hV hK
  · exact h.elim

theorem ok_nilCheck (hI : Inv w0 F κ a w ρ σ) {y : Operand} {x : X} (hop : o.op = .nilCheck y) (hx : opX y = some x)
    (h : astep (ACalls P) nm ρ σ K (.nilCheck x)) : Good P w0 F o a w κ σ nm K := by
  have vx := hI.opX hx
  simp only [astep] at h
  split at h
  · rename_i n off hn
    have vx' := vx
    rw [hn] at vx
    obtain ⟨hy, hd⟩ := vx.ptr_inv
    exact .value hI (by simp [execOp, hop, hy]) vx (by rw [hy] at *; exact h)
  · rename_i cs hn
    rw [hn] at vx
    obtain ⟨b, i, hy, hh⟩ := vx.eptr_inv
    exact .value hI (by simp [execOp, hop, hy]) vx (by rw [hy] at *; exact h)
  · exact h.elim

theorem run_eqGuard_int (op : BinOp) (t : TypeId) (x y : Operand) (k k' : IntKind) (m n : Int) : (eqGuard op t x y (.int k m) (.int k' n)).run P w = .ok () w := by
  unfold eqGuard; split <;> rfl

theorem run_eqGuard_str (op : BinOp) (t : TypeId) (x y : Operand) (m n : ByteArray) : (eqGuard op t x y (.string m) (.string n)).run P w = .ok () w := by
  unfold eqGuard; split <;> rfl

theorem run_eqGuard_bool (op : BinOp) (t : TypeId) (x y : Operand) (m n : Bool) : (eqGuard op t x y (.bool m) (.bool n)).run P w = .ok () w := by
  unfold eqGuard; split <;> rfl

def scal : AV → Value
  | .int k n => .int k n
  | .bool b => .bool b
  | .str s => .string s
  | _ => undef

theorem binv_ok {op : BinOp} {t : TypeId} {k k' : IntKind} {m n : Int} {z : AV} (h : binv op k m k' n = some z) : (binOp op t (.int k m) (.int k' n)).run P w = .ok (scal z) w ∧ V κ w (scal z) z := by
  unfold binv at h
  split at h
  · split at h
    · cases h
    · rename_i h0
      simp only [Option.some.injEq] at h; subst h
      exact ⟨by simp [binOp, Op.shift, h0, scal], .int _ _⟩
  · split at h
    · cases h
    · rename_i h0
      simp only [Option.some.injEq] at h; subst h
      exact ⟨by simp [binOp, Op.shift, h0, scal], .int _ _⟩
  · rename_i e1 e2
    split at h
    · rename_i hk
      subst hk
      split at h <;> (try split at h) <;> first
        | (cases h; done)
        | (simp only [Option.some.injEq] at h; subst h; exact ⟨by simp_all [binOp, Op.intArith, Op.intDiv, Op.intBits, Op.intCmp, scal], by constructor⟩)
    · cases h

theorem sbinv_ok {op : BinOp} {t : TypeId} {m n : ByteArray} {z : AV} (h : sbinv op m n = some z) : (binOp op t (.string m) (.string n)).run P w = .ok (scal z) w ∧ V κ w (scal z) z := by
  unfold sbinv at h
  split at h
  · split at h
    · cases h
    · rename_i h0
      simp only [Option.some.injEq] at h; subst h
      exact ⟨by simp only [binOp, Op.stringOp, if_neg h0]; rfl, .str _⟩
  all_goals first
    | (cases h; done)
    | (simp only [Option.some.injEq] at h; subst h; exact ⟨by simp [binOp, Op.stringOp, scal, bl_beq], by constructor⟩)

theorem ok_bin (hI : Inv w0 F κ a w ρ σ) {op : BinOp} {t t' : TypeId} {y z : Operand} {x x' : X} {k : IntKind} (hop : o.op = .binOp op t y z t') (hx : opX y = some x) (hx' : opX z = some x')
    (h : astep (ACalls P) nm ρ σ K (.bin op k x x')) : Good P w0 F o a w κ σ nm K := by
  have v1 := hI.opX hx
  have v2 := hI.opX hx'
  simp only [astep] at h
  split at h
  · rename_i k1 m k2 n h1 h2
    rw [h1] at v1; rw [h2] at v2
    have e1 := v1.int_inv
    have e2 := v2.int_inv
    split at h
    · rename_i hk
      subst hk
      obtain ⟨v, hv, hK⟩ := opt_some h
      obtain ⟨hu, hV⟩ := binv_ok (P := P) (w := w) (κ := κ) (t := t) hv
      exact .value hI (by simp [execOp, hop, e1, e2, run_eqGuard_int, hu]) hV hK
    · exact h.elim
  · exact h.elim

theorem ok_sbin (hI : Inv w0 F κ a w ρ σ) {op : BinOp} {t t' : TypeId} {y z : Operand} {x x' : X} (hop : o.op = .binOp op t y z t') (hx : opX y = some x) (hx' : opX z = some x')
    (h : astep (ACalls P) nm ρ σ K (.sbin op x x')) : Good P w0 F o a w κ σ nm K := by
  have v1 := hI.opX hx
  have v2 := hI.opX hx'
  simp only [astep] at h
  split at h
  · rename_i m n h1 h2
    rw [h1] at v1; rw [h2] at v2
    have e1 := v1.str_inv
    have e2 := v2.str_inv
    obtain ⟨v, hv, hK⟩ := opt_some h
    obtain ⟨hu, hV⟩ := sbinv_ok (P := P) (w := w) (κ := κ) (t := t) hv
    exact .value hI (by simp [execOp, hop, e1, e2, run_eqGuard_str, hu]) hV hK
  · exact h.elim

theorem run_equalIn_bool (d : Nat) {t : TypeId} (ht : P.underlying t = some .bool) (m n : Bool) : (Op.equalIn (d + 1) t (.bool m) (.bool n)).run P w = .ok (m == n) w := by
  simp [Op.equalIn, underlying, ht]

theorem run_equal_bool {t : TypeId} (ht : P.underlying t = some .bool) (m n : Bool) : (Op.equal t (.bool m) (.bool n)).run P w = .ok (m == n) w := run_equalIn_bool 9999 ht m n

theorem ok_bbin (hI : Inv w0 F κ a w ρ σ) {neg : Bool} {t t' : TypeId} {y z : Operand} {x x' : X} (hop : o.op = .binOp (if neg then .neq else .eql) t y z t') (ht : P.underlying t = some .bool) (hx : opX y = some x) (hx' : opX z = some x')
    (h : astep (ACalls P) nm ρ σ K (.bbin neg x x')) : Good P w0 F o a w κ σ nm K := by
  have v1 := hI.opX hx
  have v2 := hI.opX hx'
  simp only [astep] at h
  split at h
  · rename_i m n h1 h2
    rw [h1] at v1; rw [h2] at v2
    have e1 := v1.bool_inv
    have e2 := v2.bool_inv
    refine .value hI (v := .bool ((m == n) != neg)) ?_ (.bool _) h
    cases neg <;> simp [execOp, hop, e1, e2, run_eqGuard_bool, binOp, run_equal_bool ht]
  · exact h.elim

theorem ok_not (hI : Inv w0 F κ a w ρ σ) {t : TypeId} {y : Operand} {x : X} (hop : o.op = .unOp .not t y) (hx : opX y = some x)
    (h : astep (ACalls P) nm ρ σ K (.not x)) : Good P w0 F o a w κ σ nm K := by
  have v1 := hI.opX hx
  simp only [astep] at h
  split at h
  · rename_i b hb
    rw [hb] at v1
    exact .value hI (by simp [execOp, hop, v1.bool_inv, Op.unary]) (.bool _) h
  · exact h.elim

theorem ok_un (hI : Inv w0 F κ a w ρ σ) {op : UnOp} {t : TypeId} {y : Operand} {x : X} {k : IntKind} (hop : o.op = .unOp op t y) (hx : opX y = some x)
    (h : astep (ACalls P) nm ρ σ K (.un op k x)) : Good P w0 F o a w κ σ nm K := by
  have v1 := hI.opX hx
  simp only [astep] at h
  split at h
  · rename_i k1 m hb
    rw [hb] at v1
    have e1 := v1.int_inv
    split at h
    · rename_i hk
      subst hk
      split at h
      · exact .value hI (v := .int k1 (k1.wrap (0 - m))) (by simp [execOp, hop, e1, Op.unary, Op.intArith]) (.int _ _) h
      · obtain ⟨v, hv, hK⟩ := opt_some h
        obtain ⟨hu, hV⟩ := binv_ok (P := P) (w := w) (κ := κ) (t := 0) hv
        refine .value hI (v := scal v) ?_ hV hK
        simp only [binOp, if_neg (by simp : ¬ (k1 ≠ k1))] at hu
        simp [execOp, hop, e1, Op.unary, hu]
      · exact h.elim
    · exact h.elim
  · exact h.elim

theorem ok_conv (hI : Inv w0 F κ a w ρ σ) {s d : TypeId} {y : Operand} {x : X} {k k' : IntKind} (hop : o.op = .convert s d y) (hs : P.underlying s = some (.int k')) (hd : P.underlying d = some (.int k)) (hx : opX y = some x)
    (h : astep (ACalls P) nm ρ σ K (.conv k x)) : Good P w0 F o a w κ σ nm K := by
  have v1 := hI.opX hx
  simp only [astep] at h
  split at h
  · rename_i k1 m hb
    rw [hb] at v1
    exact .value hI (by simp [execOp, hop, v1.int_inv, convert, underlying, hs, hd, Conv.intToInt]) (.int _ _) h
  · exact h.elim

theorem ok_mkI (hI : Inv w0 F κ a w ρ σ) {t : TypeId} {y : Operand} {x : X} {d : TypeDesc} (hop : o.op = .makeInterface t y) (ht : P.underlying t = some d) (hd : ∀ ms, d ≠ .interface ms) (hx : opX y = some x)
    (h : astep (ACalls P) nm ρ σ K (.mkI t x)) : Good P w0 F o a w κ σ nm K := by
  refine .value hI (v := .iface t (a.eval y)) ?_ (.iface _ _ _ (hI.opX hx)) h
  cases d <;> first | (exact absurd rfl (hd _)) | simp [execOp, hop, Instr.makeInterface, underlying, ht]

theorem ok_mkF (hI : Inv w0 F κ a w ρ σ) {f : Nat} {p q : Array Operand} {x y : List X} (hop : o.op = .makeFunc (.func f) p q) (hx : opXs p.toList = some x) (hy : opXs q.toList = some y)
    (h : astep (ACalls P) nm ρ σ K (.mkF f x y)) : Good P w0 F o a w κ σ nm K := by
  have v1 := hI.opXs hx
  have v2 := hI.opXs hy
  refine .value hI (v := .func (.func f) ⟨p.toList.map a.eval⟩ ⟨q.toList.map a.eval⟩) ?_ (.func _ _ _ _ _ v1 v2) h
  obtain ⟨p⟩ := p
  obtain ⟨q⟩ := q
  simp [execOp, hop, Instr.makeFunc]

theorem ok_ext (hI : Inv w0 F κ a w ρ σ) {y : Operand} {x : X} {i : Nat} (hop : o.op = .extract y i) (hx : opX y = some x)
    (h : astep (ACalls P) nm ρ σ K (.ext x i)) : Good P w0 F o a w κ σ nm K := by
  have v1 := hI.opX hx
  simp only [astep] at h
  split at h
  · rename_i xs hb
    rw [hb] at v1
    obtain ⟨us, e1, hl⟩ := v1.tup_inv
    obtain ⟨v, hv, hK⟩ := opt_some h
    obtain ⟨u, hu, hV⟩ := hl.get? i v hv
    exact .value hI (v := u) (by simp [execOp, hop, e1, Instr.extract, hu]) hV hK
  · exact h.elim

theorem fieldOf_ok {s : TypeId} {f : Nat} {fd : Field} (h : fieldOf P s f = some fd) : ∃ fs, P.underlying s = some (.struct fs) ∧ fs[f]? = some fd := by
  unfold fieldOf at h
  split at h
  · rename_i fs hs; exact ⟨fs, hs, h⟩
  · cases h

theorem run_sizeOf {t : TypeId} {k : Nat} (h : sizeOf' P t = some k) : (sizeOf t).run P w = .ok k w := by
  unfold sizeOf' at h
  rw [Option.map_eq_some_iff] at h
  obtain ⟨i, hi, rfl⟩ := h
  simp [sizeOf, typeInfo, hi]

theorem ok_faddr (hI : Inv w0 F κ a w ρ σ) {s : TypeId} {y : Operand} {x : X} {f k : Nat} {fd : Field} (hop : o.op = .fieldAddr s y f) (hf : fieldOf P s f = some fd) (hk : sizeOf' P fd.type = some (k + 1)) (hx : opX y = some x)
    (h : astep (ACalls P) nm ρ σ K (.faddr fd.offset x)) : Good P w0 F o a w κ σ nm K := by
  have v1 := hI.opX hx
  obtain ⟨fs, hs, hfs⟩ := fieldOf_ok hf
  simp only [astep] at h
  split at h
  · rename_i n off hn
    rw [hn] at v1
    obtain ⟨e1, hd⟩ := v1.ptr_inv
    refine .value hI (v := .pointer (some ⟨κ.φ n, off + fd.offset, none⟩)) ?_ (.ptr _ _ hd) h
    simp [execOp, hop, e1, Instr.fieldAt, underlying, hs, hfs, Instr.sureAddr, fieldPlace, run_sizeOf hk, add_spot]
  · rename_i cs hn
    rw [hn] at v1
    obtain ⟨b, i, e1, hv⟩ := v1.eptr_inv
    by_cases hle : fd.offset ≤ cs.length
    · refine .value hI (v := .pointer (some ⟨b, i + fd.offset, none⟩)) ?_ (.eptr _ _ _ (hv.drop _ hle)) h
      simp [execOp, hop, e1, Instr.fieldAt, underlying, hs, hfs, Instr.sureAddr, fieldPlace, run_sizeOf hk, add_spot]
    · refine .value hI (v := .pointer (some ⟨b, i + fd.offset, none⟩)) ?_ (.eptr _ _ _ (by rw [List.drop_eq_nil_of_le (by omega)]; exact .nil _ _)) h
      simp [execOp, hop, e1, Instr.fieldAt, underlying, hs, hfs, Instr.sureAddr, fieldPlace, run_sizeOf hk, add_spot]
  · exact h.elim

/-- a part of an aggregate -/
theorem run_part {t : TypeId} {k : Option Nat} (hk : kindOf P t = some k) {us : List Value} {cs : List AV} (hl : Vl κ w us cs) {off : Nat} {x : AV} (hx : ldc cs off k = some x) :
    ∃ u, (part t ⟨us⟩ off).run P w = .ok u w ∧ V κ w u x := by
  obtain ⟨e1, e2⟩ := run_isAgg (w := w) hk
  cases k with
  | none =>
    obtain ⟨u, hu, hv⟩ := hl.get? off x (by simpa [ldc] using hx)
    exact ⟨u, by simp [part, e1, hu], hv⟩
  | some n =>
    simp only [ldc] at hx
    split at hx
    · simp only [Option.some.injEq] at hx
      subst hx
      refine ⟨.agg ⟨(us.drop off).take n⟩, ?_, .agg _ _ ((hl.drop off).take n)⟩
      simp [part, e1, e2 n rfl]
    · cases hx

theorem ok_fld (hI : Inv w0 F κ a w ρ σ) {s : TypeId} {y : Operand} {x : X} {f : Nat} {k : Option Nat} {fd : Field} (hop : o.op = .field s y f) (hf : fieldOf P s f = some fd) (hk : kindOf P fd.type = some k) (hx : opX y = some x)
    (h : astep (ACalls P) nm ρ σ K (.fld fd.offset k x)) : Good P w0 F o a w κ σ nm K := by
  have v1 := hI.opX hx
  obtain ⟨fs, hs, hfs⟩ := fieldOf_ok hf
  simp only [astep] at h
  split at h
  · rename_i cs hn
    rw [hn] at v1
    obtain ⟨us, e1, hl⟩ := v1.agg_inv
    obtain ⟨v, hv, hK⟩ := opt_some h
    obtain ⟨u, hu, hV⟩ := run_part (P := P) hk hl hv
    exact .value hI (v := u) (by simp [execOp, hop, e1, Instr.field, underlying, hs, hfs, asAgg, hu]) hV hK
  · exact h.elim

end

end Go.VL

namespace Go.VL

section

variable {P : Program} {w0 : World} {F : Nat → Prop} {o : Oper} {a : Act} {w : World} {κ : Kx} {ρ : List AV} {σ : St} {nm : Nat} {K : AV → St → Prop}

theorem V.one {v : Value} {x : AV} (h : V κ w v x) (hx : x.one = true) : v.oneCell' = true := by
  cases h <;> first | rfl | (simp [AV.one] at hx)

theorem Vl.ones : ∀ {vs : List Value} {xs : List AV}, Vl κ w vs xs → xs.all AV.one = true → ∀ u ∈ vs, u.oneCell' = true
  | _, _, .nil, _, u, hu => by simp at hu
  | _, _, .cons v x vs xs h t, ha, u, hu => by
    simp only [List.all_cons, Bool.and_eq_true] at ha
    rcases List.mem_cons.1 hu with rfl | hu
    · exact h.one ha.1
    · exact Vl.ones t ha.2 u hu

theorem fits_iff {k : Nat} {x : AV} (h : x.fits k = true) : x ≠ .any ∧ x.cells.length = k ∧ x.cells.all AV.one = true := by
  simp only [AV.fits, Bool.and_eq_true, beq_iff_eq] at h
  refine ⟨?_, h.1.2, h.2⟩
  rintro rfl
  simp [AV.isAny] at h

structure Same (w w' : World) (b : Nat) : Prop where
  os : OsD w w'
  tape : w'.tape = w.tape
  output : w'.output = w.output
  size : w'.heap.size = w.heap.size
  block : ∀ b', b' ≠ b → w'.heap[b']? = w.heap[b']?

theorem Same.trans {w w1 w2 : World} {b : Nat} (h : Same w w1 b) (k : Same w1 w2 b) : Same w w2 b :=
  ⟨k.os.trans h.os, k.tape.trans h.tape, k.output.trans h.output, k.size.trans h.size, fun b' hb => (k.block b' hb).trans (h.block b' hb)⟩

theorem heap_setCell {b i : Nat} {vs : List Value} {t : TypeId} {fz : Nat × Nat} (h : w.heap[b]? = some (.cells ⟨vs⟩ t fz)) (u : Value) :
    (w.setCell ⟨b, i, none⟩ u).heap[b]? = some (.cells ⟨vs.set i u⟩ t fz) ∧ Same w (w.setCell ⟨b, i, none⟩ u) b := by
  have hlt := (Array.getElem?_eq_some_iff.1 h).1
  refine ⟨?_, ⟨rfl, Nat.le_refl _⟩, rfl, rfl, ?_, fun b' hb => ?_⟩
  · simp [World.setCell, Array.getElem?_modify, h]
  · simp [World.setCell]
  · have : ¬ b = b' := fun e => hb e.symm
    simp [World.setCell, Array.getElem?_modify, this]

theorem run_storeCells {b : Nat} {t : TypeId} {fz : Nat × Nat} {N : Nat} : ∀ (us : List Value) (off : Nat) (w : World) (vs : List Value), w.heap[b]? = some (.cells ⟨vs⟩ t fz) → fzOk N fz →
    off + us.length ≤ N → N ≤ vs.length → (∀ u ∈ us, u.oneCell' = true) → ∀ base j, base + j = off →
    ∃ w', (storeCells ⟨b, base, none⟩ us j).run P w = .ok () w' ∧ w'.heap[b]? = some (.cells ⟨vs.take off ++ us ++ vs.drop (off + us.length)⟩ t fz) ∧ Same w w' b
  | [], off, w, vs, hb, hf, hle, hN, ho, base, j, hj => ⟨w, by simp [storeCells], by simpa using hb, ⟨rfl, Nat.le_refl _⟩, rfl, rfl, rfl, fun _ _ => rfl⟩
  | u :: us, off, w, vs, hb, hf, hle, hN, ho, base, j, hj => by
    simp only [List.length_cons] at hle
    have hlt : off < vs.length := by omega
    have hc : w.cell? ⟨b, off, none⟩ = some vs[off] := by rw [cell_of hb]; simp [hlt]
    have hfz := frozen_of hb hf (show off < N by omega)
    obtain ⟨h1, h2⟩ := heap_setCell (i := off) hb u
    obtain ⟨w', e1, e2, e3⟩ := run_storeCells us (off + 1) (w.setCell ⟨b, off, none⟩ u) (vs.set off u) h1 hf (by omega) (by simpa using hN) (fun x hx => ho x (List.mem_cons_of_mem _ hx)) base (j + 1) (by omega)
    refine ⟨w', ?_, ?_, h2.trans e3⟩
    · have : (⟨b, base, none⟩ : Addr).add j = ⟨b, off, none⟩ := by rw [add_spot, hj]
      simp only [storeCells, Sem.run_bind, this, run_store P w _ _ _ (ho u (List.mem_cons_self ..)), hc, hfz]
      simpa using e1
    · rw [e2]
      congr 2
      have e : (vs.set off u).take (off + 1) = vs.take off ++ [u] := by
        rw [List.take_add_one, List.take_set_of_le (Nat.le_refl _)]
        simp [hlt]
      have e' : (vs.set off u).drop (off + 1 + us.length) = vs.drop (off + (us.length + 1)) := by
        rw [List.drop_set_of_lt (by omega)]
        congr 1
        omega
      rw [e, e']
      simp

theorem Post.own {κ' : Kx} {w' : World} {σ' : St} (e : Ext κ w κ' w') (hd : κ'.dom = κ.dom) (hr : R w0.heap.size F κ' w' σ') (hf : Fr F w0 w') (hn : σ'.next = σ.next) : Post w0 F κ w σ nm κ' w' σ' :=
  ⟨e, fun n h => .inl (by rwa [hd] at h), hr, hf, by rw [hn]; exact Nat.le_refl _⟩

theorem ok_box (hI : Inv w0 F κ a w ρ σ) (hn : ¬ κ.dom nm) (hlt : nm < σ.next) {t : TypeId} {y : Operand} {x : X} (hop : o.op = .box t y) (hx : opX y = some x)
    (h : astep (ACalls P) nm ρ σ K (.box x)) : Good P w0 F o a w κ σ nm K := by
  have v1 := hI.opX hx
  simp only [astep] at h
  split at h
  · exact h.elim
  · rename_i ha
    have hv := v1.cells (by intro e; rw [e] at ha; exact ha rfl)
    obtain ⟨e, hr⟩ := hI.r.new_obj hI.hB hn hlt t [] (0, 0) (.inl rfl) hv
    simp only [List.append_nil] at e hr
    refine .value' (κ' := κ.name nm w.heap.size) ⟨e, fun n hd => hd.imp id .inl, hr, hI.fr.alloc _, Nat.le_refl _⟩ (v := .pointer (some ⟨w.heap.size, 0, none⟩)) ?_ ?_ h
    · have : (⟨(a.eval y).cells.toList⟩ : Array Value) = (a.eval y).cells := by simp
      simp [execOp, hop, Instr.box, newVar, newRow]
    · have := V.ptr (κ := κ.name nm w.heap.size) (w := w.alloc (.cells ⟨(a.eval y).cells.toList⟩ t)) nm 0 (.inr rfl)
      simpa [Kx.name] using this

theorem zeroOf_ok {t : TypeId} {z : AV} (h : zeroOf P t = some z) : ∃ i v, P.info? t = some i ∧ i.zero = some v ∧ constV v = some z := by
  unfold zeroOf at h
  split at h
  · rename_i i hi
    split at h
    · rename_i v hv; exact ⟨i, v, hi, hv, h⟩
    · cases h
  · cases h

theorem constAV_ne {v : Value} {z : AV} (h : constAV v = some z) : z ≠ .any := by
  unfold constAV at h
  split at h <;> simp only [Option.some.injEq, reduceCtorEq] at h <;> subst h <;> simp

theorem constV_ne {v : Value} {z : AV} (h : constV v = some z) : z ≠ .any := by
  unfold constV at h
  split at h
  · rw [Option.map_eq_some_iff] at h
    obtain ⟨ys, _, rfl⟩ := h
    simp
  · exact constAV_ne h

theorem ok_alloc (hI : Inv w0 F κ a w ρ σ) (hn : ¬ κ.dom nm) (hlt : nm < σ.next) {t : TypeId} {z : AV} (hop : o.op = .alloc t) (hz : zeroOf P t = some z)
    (h : astep (ACalls P) nm ρ σ K (.alloc z.cells)) : Good P w0 F o a w κ σ nm K := by
  obtain ⟨i, v, h1, h2, h3⟩ := zeroOf_ok hz
  simp only [astep] at h
  have hv := (constV_ok (κ := κ) (w := w) h3).cells (constV_ne h3)
  obtain ⟨e, hr⟩ := hI.r.new_obj hI.hB hn hlt t [] (0, 0) (.inl rfl) hv
  simp only [List.append_nil] at e hr
  refine .value' (κ' := κ.name nm w.heap.size) ⟨e, fun n hd => hd.imp id .inl, hr, hI.fr.alloc _, Nat.le_refl _⟩ (v := .pointer (some ⟨w.heap.size, 0, none⟩)) ?_ ?_ h
  · simp [execOp, hop, Instr.alloc, zeroValue, typeInfo, h1, h2, newVar, newRow]
  · have := V.ptr (κ := κ.name nm w.heap.size) (w := w.alloc (.cells ⟨v.cells.toList⟩ t)) nm 0 (.inr rfl)
    simpa [Kx.name] using this

theorem ok_store (hI : Inv w0 F κ a w ρ σ) {t : TypeId} {y z : Operand} {x x' : X} {k : Nat} (hop : o.op = .store t y z) (hk : sizeOf' P t = some k) (hx : opX y = some x) (hx' : opX z = some x')
    (h : astep (ACalls P) nm ρ σ K (.store k x x')) : Good P w0 F o a w κ σ nm K := by
  have v1 := hI.opX hx
  have v2 := hI.opX hx'
  simp only [astep] at h
  split at h
  · rename_i n off hn
    rw [hn] at v1
    obtain ⟨e1, hd⟩ := v1.ptr_inv
    split at h
    · rename_i cs hr
      split at h
      · rename_i hc
        simp only [Bool.and_eq_true, decide_eq_true_eq] at hc
        obtain ⟨hfit, hle⟩ := hc
        obtain ⟨f1, f2, f3⟩ := fits_iff hfit
        have hv := v2.cells f1
        obtain ⟨hdom, us, rest, tt, fz, g1, g2, g3, g4, g5⟩ := hI.r.own n _ hr
        have hl := g3.length
        have hl2 := hv.length
        obtain ⟨w', r1, r2, r3⟩ := run_storeCells (P := P) (N := us.length) (a.eval z).cells.toList off w (us ++ rest) g1 g2 (by omega) (by simp) (hv.ones f3) off 0 rfl
        have hsp : (us ++ rest).take off ++ (a.eval z).cells.toList ++ (us ++ rest).drop (off + (a.eval z).cells.toList.length) = (us.take off ++ (a.eval z).cells.toList ++ us.drop (off + (a.eval z).cells.toList.length)) ++ rest := by
          rw [List.take_append_of_le_length (by omega), List.drop_append_of_le_length (by omega), List.append_assoc _ _ rest]
        rw [hsp] at r2
        obtain ⟨e, hr'⟩ := hI.r.set_obj (cs' := splice cs off (ev ρ x').cells) hr r2 (by
            refine g2.imp id (fun hx => Nat.le_trans ?_ hx)
            simp only [List.length_append, List.length_take, List.length_drop]
            omega) r3.block r3.size
          (((g3.take off).append hv).append (by have := g3.drop (off + (ev ρ x').cells.length); rwa [← hl2] at this ⊢)) ⟨by have := g5.1; simp only [List.length_append, List.length_take, List.length_drop]; omega, g5.2⟩
        refine .skip' (.own e rfl hr' (hI.fr.owned hI.r rfl hr r3.os r3.tape r3.output r3.size r3.block) rfl) ?_ h
        have hsz : (a.eval z).cells.size = k := by rw [← f2, ← hl2]; simp
        simp only [execOp, hop, e1, Instr.storeAt, Instr.sureAddr, storeVar, Sem.run_bind, Sem.run_pure, Result.andThen_ok, run_sizeOf hk, hsz]
        simp [r1]
      · exact h.elim
    · exact h.elim
  · exact h.elim

/-- a store that knows that its region made the place -/
theorem lstore_le {CP : CallP} {c k : Nat} {x x' : X} (h : astep CP nm ρ σ K (.lstore c k x x')) : astep CP nm ρ σ K (.store k x x') := by
  simp only [astep] at h ⊢
  split at h
  · split at h
    · exact h
    · exact h.elim
  · exact h.elim

theorem ok_mkMap (hI : Inv w0 F κ a w ρ σ) (hn : ¬ κ.dom nm) (hlt : nm < σ.next) {t : TypeId} (hop : o.op = .makeMap t none)
    (h : astep (ACalls P) nm ρ σ K .mkMap) : Good P w0 F o a w κ σ nm K := by
  simp only [astep] at h
  obtain ⟨e, hr⟩ := hI.r.new_map hI.hB hn hlt
  refine .value' (κ' := κ.name nm w.heap.size) ⟨e, fun n hd => hd.imp id .inl, hr, hI.fr.alloc _, Nat.le_refl _⟩ (v := .map (some w.heap.size)) ?_ ?_ h
  · simp [execOp, hop, Instr.makeMap]
  · have := V.map (κ := κ.name nm w.heap.size) (w := w.alloc (.map #[] 0)) nm (.inr rfl)
    simpa [Kx.name] using this

end

end Go.VL

namespace Go.VL

section

variable {P : Program} {w0 : World} {F : Nat → Prop} {o : Oper} {a : Act} {w : World} {κ : Kx} {ρ : List AV} {σ : St} {nm : Nat} {K : AV → St → Prop}

theorem foldl_set : ∀ (us : List Value) (k off : Nat) (cs : List Value), off + k + us.length ≤ cs.length →
    ((us.zipIdx k).foldl (fun (cs : Array Value) (p : Value × Nat) => cs.setIfInBounds (off + p.2) p.1) ⟨cs⟩) = ⟨cs.take (off + k) ++ us ++ cs.drop (off + k + us.length)⟩
  | [], k, off, cs, _ => by simp
  | u :: us, k, off, cs, h => by
    simp only [List.length_cons] at h
    simp only [List.zipIdx_cons, List.foldl_cons]
    have e0 : (⟨cs⟩ : Array Value).setIfInBounds (off + k) u = ⟨cs.set (off + k) u⟩ := by simp
    rw [e0, foldl_set us (k + 1) off (cs.set (off + k) u) (by simp; omega)]
    have e : (cs.set (off + k) u).take (off + (k + 1)) = cs.take (off + k) ++ [u] := by
      rw [show off + (k + 1) = off + k + 1 by omega, List.take_add_one, List.take_set_of_le (Nat.le_refl _)]
      have : off + k < cs.length := by omega
      simp [this]
    have e' : (cs.set (off + k) u).drop (off + (k + 1) + us.length) = cs.drop (off + k + (us.length + 1)) := by
      rw [List.drop_set_of_lt (by omega)]
      congr 1
      omega
    rw [e, e']
    simp

theorem fill_cons {place : Nat → Option (Nat × Nat)} {cs : List Value} {i off size : Nat} {v : Value} {r : List (Nat × Value)} (hp : place i = some (off, size)) (hs : v.cells.size = size) (hl : off + size ≤ cs.length) :
    Instr.fill place ⟨cs⟩ ((i, v) :: r) = Instr.fill place ⟨cs.take off ++ v.cells.toList ++ cs.drop (off + size)⟩ r := by
  have e := foldl_set v.cells.toList 0 off cs (by simp only [Array.length_toList]; omega)
  have e2 : v.cells.zipIdx.foldl (fun (cs : Array Value) (p : Value × Nat) => cs.setIfInBounds (off + p.2) p.1) ⟨cs⟩ = ⟨cs.take off ++ v.cells.toList ++ cs.drop (off + size)⟩ := by
    rw [← Array.foldl_toList, Array.toList_zipIdx, e]
    simp only [Array.length_toList, hs, Nat.add_zero]
  simp only [Instr.fill, hp]
  have h1 : ¬ (v.cells.size ≠ size) := by simp [hs]
  have h2 : ¬ (off + v.cells.size > cs.length) := by omega
  have hs' : (⟨cs⟩ : Array Value).size = cs.length := by simp
  rw [if_neg (by simp [hs]; omega)]
  exact congrArg (fun z => Instr.fill place z r) e2

theorem tabOf_get : ∀ {fs : List Field} {tab : List (Nat × Nat)}, tabOf P fs = some tab → (List.mapM (m := Sem) (fun f => do pure (f.offset, ← sizeOf f.type)) fs).run P w = .ok tab w
  | [], tab, h => by simp only [tabOf, Option.some.injEq] at h; subst h; simp
  | f :: r, tab, h => by
    simp only [tabOf] at h
    split at h
    · rename_i k y h1 h2
      simp only [Option.some.injEq] at h; subst h
      have := tabOf_get h2
      simp only [List.mapM_cons, Sem.run_bind, run_sizeOf h1, Result.andThen_ok, Sem.run_pure] at this ⊢
      rw [this]
      simp
    · cases h

theorem run_mapM_arr {α β : Type} (f : α → Sem β) (xs : Array α) (ys : List β) (h : (List.mapM (m := Sem) f xs.toList).run P w = .ok ys w) : (xs.mapM f).run P w = .ok ⟨ys⟩ w := by
  rw [Array.mapM_eq_mapM_toList]
  simp [h]

theorem fillA_ok (hI : Inv w0 F κ a w ρ σ) {tab : List (Nat × Nat)} : ∀ {parts : List (Nat × Operand)} {ps : List (Nat × Nat × X)} {us : List Value} {cs zs : List AV}, placesOf tab parts = some ps → Vl κ w us cs →
    fillA ρ cs ps = some zs → ∃ us', Instr.fill ((⟨tab⟩ : Array (Nat × Nat))[·]?) ⟨us⟩ (parts.map fun (i, x) => (i, a.eval x)) = some ⟨us'⟩ ∧ Vl κ w us' zs
  | [], ps, us, cs, zs, h, hv, hf => by
    simp only [placesOf, Option.some.injEq] at h; subst h
    simp only [fillA, Option.some.injEq] at hf; subst hf
    exact ⟨us, by simp [Instr.fill], hv⟩
  | (i, y) :: r, ps, us, cs, zs, h, hv, hf => by
    simp only [placesOf] at h
    split at h
    · rename_i f x z h1 h2 h3
      simp only [Option.some.injEq] at h; subst h
      simp only [fillA] at hf
      split at hf
      · rename_i hc
        obtain ⟨f1, f2, f3⟩ := fits_iff hc.1
        have vx := (hI.opX h2).cells f1
        have hl := vx.length
        have hl2 := hv.length
        have hsz : (a.eval y).cells.size = f.2 := by rw [← f2, ← hl]; simp
        obtain ⟨us', e1, e2⟩ := fillA_ok hI (us := us.take f.1 ++ (a.eval y).cells.toList ++ us.drop (f.1 + f.2)) h3
          (by unfold splice; rw [f2]; exact ((hv.take _).append vx).append (hv.drop _)) hf
        refine ⟨us', ?_, e2⟩
        rw [← e1, List.map_cons]
        exact fill_cons (off := f.1) (size := f.2) (by simpa using h1) hsz (by omega)
      · cases hf
    · cases h

theorem ok_build (hI : Inv w0 F κ a w ρ σ) {t : TypeId} {parts : Array (Nat × Operand)} {z : List AV} {fs : Array Field} {tab : List (Nat × Nat)} {ps : List (Nat × Nat × X)} (hop : o.op = .build t parts) (hz : zeroOf P t = some (.agg z)) (hu : P.underlying t = some (.struct fs))
    (ht : tabOf P fs.toList = some tab) (hp : placesOf tab parts.toList = some ps) (h : astep (ACalls P) nm ρ σ K (.build z ps)) : Good P w0 F o a w κ σ nm K := by
  obtain ⟨i, v, h1, h2, h3⟩ := zeroOf_ok hz
  obtain ⟨us, rfl, hl⟩ := (constV_ok (κ := κ) (w := w) h3).agg_inv
  simp only [astep] at h
  obtain ⟨x, hx, hK⟩ := opt_some h
  rw [Option.map_eq_some_iff] at hx
  obtain ⟨zs, hf, rfl⟩ := hx
  obtain ⟨us', e1, e2⟩ := fillA_ok hI hp hl hf
  refine .value hI (v := .agg ⟨us'⟩) ?_ (.agg _ _ e2) hK
  have hm := run_mapM_arr (P := P) (w := w) (fun f : Field => do pure (f.offset, ← sizeOf f.type)) fs tab (tabOf_get ht)
  obtain ⟨pl⟩ := parts
  have e1' : Instr.fill (fun x => tab[x]?) ⟨us⟩ (List.map (fun x => (x.fst, a.eval x.snd)) pl) = some ⟨us'⟩ := by simpa using e1
  simp only [bind_pure_comp] at hm
  simp [execOp, hop, Instr.build, zeroValue, typeInfo, h1, h2, underlying, hu, Value.cells]
  rw [hm]
  simp [e1']

/-! ### A slice that is made -/

theorem V.er1 {v : Value} {x : AV} (h : V κ w v x) : V κ w v x.er1 := by
  cases x <;> first | exact h | exact h.weak

theorem Vl.er1 : ∀ {vs : List Value} {xs : List AV}, Vl κ w vs xs → Vl κ w vs (xs.map AV.er1)
  | _, _, .nil => .nil
  | _, _, .cons _ _ _ _ h t => .cons _ _ _ _ h.er1 (Vl.er1 t)

theorem er_cells {k : Nat} {x : AV} (h : x.fits k = true) : x.er.cells = x.cells.map AV.er1 := by
  obtain ⟨_, _, h3⟩ := fits_iff h
  cases x <;> first | rfl | (simp [AV.cells, AV.one] at h3)

theorem er_len {k : Nat} {x : AV} (h : x.fits k = true) : x.er.cells.length = k := by
  rw [er_cells h, List.length_map]; exact (fits_iff h).2.1

theorem flat_er {k : Nat} : ∀ {xs : List AV}, xs.all (AV.fits k) = true → (xs.map AV.er).flatMap AV.cells = (xs.flatMap AV.cells).map AV.er1
  | [], _ => rfl
  | x :: xs, h => by
    simp only [List.all_cons, Bool.and_eq_true] at h
    simp only [List.map_cons, List.flatMap_cons, List.map_append, er_cells h.1, flat_er h.2]

theorem flat_len {k : Nat} : ∀ {xs : List AV}, xs.all (AV.fits k) = true → (xs.flatMap AV.cells).length = xs.length * k
  | [], _ => by simp
  | x :: xs, h => by
    simp only [List.all_cons, Bool.and_eq_true] at h
    simp only [List.flatMap_cons, List.length_append, flat_len h.2, (fits_iff h.1).2.1, List.length_cons, Nat.add_mul]
    omega

theorem all_len {k : Nat} {xs : List AV} (h : xs.all (AV.fits k) = true) : ∀ x ∈ xs.map AV.er, x.cells.length = k := by
  intro x hx
  obtain ⟨y, hy, rfl⟩ := List.mem_map.1 hx
  exact er_len (List.all_eq_true.1 h y hy)

/-- what a new row is told to be -/
theorem held_ok (hI : Inv w0 F κ a w ρ σ)  {k : Nat} {xs : List AV} {hd : Hold} (hn : hd ≠ .val → hd ≠ .zero → ¬ κ.dom nm ∧ nm < σ.next) (hk : xs.all (AV.fits k) = true) {us rest : List Value} {t : TypeId} {fz : Nat × Nat} {cap : Nat} {n : Nat}
    (hv : Vl κ w us (xs.flatMap AV.cells)) (hcap : cap * k ≤ us.length + rest.length) (hle : xs.length ≤ cap) (hf : hd ≠ .own → fzOk (us ++ rest).length fz) (hf' : fzOk us.length fz) (hn' : n = xs.length)
    (h : held k nm σ K xs hd)
    (he : ∃ w1 : World, w1.heap = w.heap ∧ OsD w w1 ∧ w1.tape = w.tape ∧ w1.output = w.output ∧ (execOp a.eval o).run P w = .ok (.value (.slice (some ⟨w.heap.size, 0, none⟩) n cap)) (w1.alloc (.cells ⟨us ++ rest⟩ t fz))) :
    Good P w0 F o a w κ σ nm K := by
  subst hn'
  obtain ⟨w1, q1, q2, q3, q4, hrun⟩ := he
  have ewc : ∀ b i, w1.cell? ⟨b, i, none⟩ = w.cell? ⟨b, i, none⟩ := fun b i => cell_same (by rw [q1]) i
  have e1 : Ext κ w κ w1 := ⟨fun _ _ x => x, fun _ _ => rfl, fun _ _ => rfl, fun _ _ => rfl, fun _ _ => rfl, fun _ x => x, fun b i _ => ewc b i⟩
  have hr1 : R w0.heap.size F κ w1 σ := hI.r.step e1 hI.r.dom (fun b i hi => by rw [q1]; exact hI.r.imm b i hi) (fun n r hr => .inl ⟨hr, by rw [q1], fun _ x => x⟩)
  have hf1 : Fr F w0 w1 := ⟨q2.trans hI.fr.os, q3.trans hI.fr.tape, q4.trans hI.fr.output, by rw [q1]; exact hI.fr.size, fun b hb hF => by rw [q1]; exact hI.fr.block b hb hF⟩
  have hv1 : Vl κ w1 us (xs.flatMap AV.cells) := hv.mono e1
  have hs : w1.heap.size = w.heap.size := by rw [q1]
  have hlen : us.length = xs.length * k := by rw [hv.length]; exact flat_len hk
  have hcs : ∀ (fz' : Nat × Nat) i u, us[i]? = some u → (w1.alloc (.cells ⟨us ++ rest⟩ t fz')).cell? ⟨w1.heap.size, 0 + i, none⟩ = some u := by
    intro fz' i u hu
    have hi : i < us.length := (List.getElem?_eq_some_iff.1 hu).1
    rw [cell_of (heap_alloc_new _ _), Nat.zero_add, List.getElem?_append_left hi]
    exact hu
  cases hd with
  | val =>
    simp only [held] at h
    obtain ⟨e, hr⟩ := hr1.new_imm (us ++ rest) t fz us.length
    refine .value' (κ' := κ.imms w1.heap.size us.length) ⟨e1.trans e, fun n hd => .inl hd, hr, hf1.alloc _, Nat.le_refl _⟩ hrun ?_ h
    have := V.sl (κ := κ.imms w1.heap.size us.length) (w := w1.alloc (.cells ⟨us ++ rest⟩ t fz)) w1.heap.size 0 cap k (xs.map AV.er) (all_len hk) (by simpa using hle)
      (by rw [flat_er hk]; exact Vs.mk ((hv1.mono e).er1) (fun i u hu => ⟨.inr ⟨rfl, by simpa using (List.getElem?_eq_some_iff.1 hu).1⟩, hcs fz i u hu⟩))
    rw [hs] at this ⊢
    simpa using this
  | tip =>
    simp only [held] at h
    obtain ⟨e, hr⟩ := hr1.new_tip hf1.size (hn (by simp) (by simp)).1 (hn (by simp) (by simp)).2 (us ++ rest) t fz (hf (by simp)) us.length (cap * k) k (by simpa using hcap)
    refine .value' (κ' := (κ.imms w1.heap.size us.length).mark nm w1.heap.size us.length (cap * k) k) ⟨e1.trans e, fun n hd => hd.imp id .inl, hr, hf1.alloc _, Nat.le_refl _⟩ hrun ?_ h
    have := V.tip (κ := (κ.imms w1.heap.size us.length).mark nm w1.heap.size us.length (cap * k) k) (w := w1.alloc (.cells ⟨us ++ rest⟩ t fz)) 0 cap nm (xs.map AV.er) (by simpa [Kx.mark] using all_len hk)
      (by simpa using hle) (.inr rfl) (by simp [Kx.mark, hlen]) (by simp [Kx.mark])
      (by rw [flat_er hk]; exact Vs.mk ((hv1.mono e).er1) (fun i u hu => ⟨.inr ⟨by simp [Kx.mark], by simpa using (List.getElem?_eq_some_iff.1 hu).1⟩, by simpa [Kx.mark] using hcs fz i u hu⟩))
    simp only [Kx.mark, if_true, List.length_map] at this
    rw [hs] at this ⊢
    exact this
  | own =>
    simp only [held] at h
    obtain ⟨e, hr⟩ := hr1.new_obj hf1.size (hn (by simp) (by simp)).1 (hn (by simp) (by simp)).2 t rest fz hf' hv1
    refine .value' (κ' := κ.name nm w1.heap.size) ⟨e1.trans e, fun n hd => hd.imp id .inl, hr, hf1.alloc _, Nat.le_refl _⟩ hrun ?_ h
    have := V.ref (κ := κ.name nm w1.heap.size) (w := w1.alloc (.cells ⟨us ++ rest⟩ t fz)) nm 0 xs.length cap (.inr rfl) hle
    simp only [Kx.name, if_true] at this
    rw [hs] at this ⊢
    exact this
  | zero => exact h.elim
  | grow => exact h.elim
  | room =>
    simp only [held] at h
    obtain ⟨e, hr⟩ := hr1.new_tip hf1.size (hn (by simp) (by simp)).1 (hn (by simp) (by simp)).2 (us ++ rest) t fz (hf (by simp)) 0 (cap * k) k (by simpa using hcap)
    refine .value' (κ' := (κ.imms w1.heap.size 0).mark nm w1.heap.size 0 (cap * k) k) ⟨e1.trans e, fun n hd => hd.imp id .inl, hr, hf1.alloc _, Nat.le_refl _⟩ hrun ?_ h
    have := V.room (κ := (κ.imms w1.heap.size 0).mark nm w1.heap.size 0 (cap * k) k) (w := w1.alloc (.cells ⟨us ++ rest⟩ t fz)) 0 cap nm xs.length (.inr rfl) hle (by simp [Kx.mark]) (by simp [Kx.mark])
    simp only [Kx.mark, if_true] at this
    rw [hs] at this ⊢
    exact this

theorem fill_parts (hI : Inv w0 F κ a w ρ σ) {size : Nat} : ∀ {parts : List (Nat × Operand)} {xs : List X} (i : Nat) (cs : List Value), partsOf i parts = some xs → (xs.map (ev ρ)).all (AV.fits size) = true →
    (i + parts.length) * size ≤ cs.length → ∃ us, Instr.fill (fun i => some (i * size, size)) ⟨cs⟩ (parts.map fun (i, x) => (i, a.eval x)) = some ⟨cs.take (i * size) ++ us ++ cs.drop ((i + parts.length) * size)⟩ ∧
      Vl κ w us ((xs.map (ev ρ)).flatMap AV.cells)
  | [], xs, i, cs, h, _, _ => by
    simp only [partsOf, Option.some.injEq] at h; subst h
    exact ⟨[], by simp [Instr.fill], .nil⟩
  | (j, y) :: r, xs, i, cs, h, hf, hl => by
    simp only [partsOf] at h
    split at h
    · rename_i hj
      subst hj
      split at h
      · rename_i x z h1 h2
        simp only [Option.some.injEq] at h; subst h
        simp only [List.map_cons, List.all_cons, Bool.and_eq_true] at hf
        obtain ⟨f1, f2, f3⟩ := fits_iff hf.1
        have vx := (hI.opX h1).cells f1
        have hlx := vx.length
        have hsz : (a.eval y).cells.toList.length = size := by rw [hlx, f2]
        have hm : (j + ((j, y) :: r).length) * size = j * size + size + r.length * size := by simp only [List.length_cons, Nat.add_mul, Nat.one_mul]; omega
        rw [hm] at hl
        have hm1 : (j + 1) * size = j * size + size := by simp [Nat.add_mul]
        have hm2 : (j + 1 + r.length) * size = j * size + size + r.length * size := by simp [Nat.add_mul]
        have hlen : (cs.take (j * size) ++ (a.eval y).cells.toList ++ cs.drop (j * size + size)).length = cs.length := by
          simp only [List.length_append, List.length_take, List.length_drop, hsz]; omega
        obtain ⟨us, e1, e2⟩ := fill_parts hI (j + 1) (cs.take (j * size) ++ (a.eval y).cells.toList ++ cs.drop (j * size + size)) h2 hf.2 (by rw [hlen, hm2]; omega)
        refine ⟨(a.eval y).cells.toList ++ us, ?_, by simpa using vx.append e2⟩
        rw [List.map_cons, fill_cons (off := j * size) (size := size) rfl (by simpa using hsz) (by omega), e1, hm1, hm2, hm]
        congr 2
        have ht : (cs.take (j * size) ++ (a.eval y).cells.toList).length = j * size + size := by
          simp only [List.length_append, List.length_take, hsz]; omega
        rw [List.take_append_of_le_length (by rw [ht]; exact Nat.le_refl _), List.take_of_length_le (by rw [ht]; exact Nat.le_refl _)]
        rw [List.drop_append, ht, List.drop_eq_nil_of_le (by rw [ht]; omega), List.drop_drop]
        simp only [List.nil_append, List.append_assoc]
        congr 4
        omega
      · cases h
    · cases h

theorem ok_bslice (hI : Inv w0 F κ a w ρ σ)  {t e : TypeId} {n k : Nat} {parts : Array (Nat × Operand)} {xs : List X} {z : AV} {hd : Hold} (hn : hd ≠ .val → hd ≠ .zero → ¬ κ.dom nm ∧ nm < σ.next) (hop : o.op = .buildSlice t n parts) (hu : P.underlying t = some (.slice e))
    (hk : sizeOf' P e = some k) (hz : zeroOf P e = some z) (hp : partsOf 0 parts.toList = some xs) (hl : xs.length = n) (hsm : n * k ≤ 65536) (h : astep (ACalls P) nm ρ σ K (.bslice k hd xs)) : Good P w0 F o a w κ σ nm K := by
  obtain ⟨i, v, h1, h2, h3⟩ := zeroOf_ok hz
  have hrun : ∀ {us : List Value}, xs.length = parts.toList.length → Instr.fill (fun i => some (i * k, k)) ⟨((Array.range (n * k)).map ((if n * k = 0 then #[] else v.cells)[· % (if n * k = 0 then #[] else v.cells).size]!)).toList⟩ (parts.toList.map fun (i, x) => (i, a.eval x)) = some ⟨us⟩ →
      (execOp a.eval o).run P w = .ok (.value (.slice (some ⟨w.heap.size, 0, none⟩) n n)) (w.alloc (.cells ⟨us⟩ e (0, 0))) := by
    intro us hlen e1
    obtain ⟨pl⟩ := parts
    have hno : ¬ (n * k > 2 ^ 24) := by omega
    have e1' : Instr.fill (fun i => some (i * k, k)) ((Array.range (n * k)).map ((if n * k = 0 then #[] else v.cells)[· % (if n * k = 0 then #[] else v.cells).size]!)) (Array.map (fun x : Nat × Operand => (x.fst, a.eval x.snd)) ⟨pl⟩).toList = some ⟨us⟩ := by
      rw [Array.toList_map]; exact e1
    simp only [execOp, hop, Instr.buildSlice, Sem.run_bind, underlying, run_program, Result.andThen_ok, hu, Sem.run_pure, run_sizeOf hk, if_neg hno, Sem.run_ite]
    by_cases h0 : n * k = 0
    · simp only [h0, if_true, Sem.run_bind, Sem.run_pure, Result.andThen_ok] at e1' ⊢
      rw [e1']
      simp [newRow]
    · simp only [h0, if_false, Sem.run_bind, zeroValue, typeInfo, run_program, Sem.run_pure, Result.andThen_ok, h1, h2] at e1' ⊢
      rw [e1']
      simp [newRow]
  simp only [astep] at h
  split at h
  · -- no room at all
    split at h
    · rename_i hemp
      have hx : xs = [] := List.isEmpty_iff.1 hemp
      subst hx
      have hpn : parts.toList = [] := by
        cases hpp : parts.toList with
        | nil => rfl
        | cons p r =>
          rw [hpp] at hp
          simp only [partsOf] at hp
          split at hp
          · split at hp <;> simp at hp
          · cases hp
      have hn0 : n = 0 := by simpa using hl.symm
      subst hn0
      obtain ⟨e', hr⟩ := hI.r.new_imm [] e (0, 0) 0
      refine .value' (κ' := κ.imms w.heap.size 0) ⟨e', fun n hd => .inl hd, hr, hI.fr.alloc _, Nat.le_refl _⟩ (hrun (us := []) (by rw [hpn]; rfl) ?_) (.slz _ _ (.inr rfl)) h
      rw [hpn]
      simp [Instr.fill]
    · exact h.elim
  split at h
  · rename_i hf
    have hpl : ∀ {l : List (Nat × Operand)} {i : Nat} {xs : List X}, partsOf i l = some xs → l.length = xs.length := by
      intro l
      induction l with
      | nil => intro i xs h; simp only [partsOf, Option.some.injEq] at h; subst h; rfl
      | cons p r ih =>
        intro i xs h
        simp only [partsOf] at h
        split at h
        · split at h
          · rename_i h1 h2; simp only [Option.some.injEq] at h; subst h; simp [ih h2]
          · cases h
        · cases h
    have hlen := hpl hp
    let zs : Array Value := (if n * k = 0 then #[] else v.cells)
    let base : List Value := ((Array.range (n * k)).map (zs[· % zs.size]!)).toList
    have hb : base.length = n * k := by simp [base]
    obtain ⟨us, e1, e2⟩ := fill_parts hI (size := k) 0 base hp hf (by rw [hb, Nat.zero_add, hlen, hl]; exact Nat.le_refl _)
    rw [Nat.zero_add, Nat.zero_mul, List.take_zero, List.nil_append, List.drop_eq_nil_of_le (by rw [hb, hlen, hl]; exact Nat.le_refl _), List.append_nil] at e1
    refine held_ok (us := us) (rest := []) (t := e) (fz := (0, 0)) (cap := n) (n := n) hI hn hf e2 ?_ ?_ (fun _ => ?_) ?_ ?_ h ⟨w, rfl, .rfl, rfl, rfl, ?_⟩
    · rw [e2.length, flat_len hf]; simp [hl]
    · simp [hl]
    · exact .inl rfl
    · exact .inl rfl
    · simp [hl]
    · rw [List.append_nil]
      exact hrun hlen.symm e1
  · exact h.elim

theorem ok_iaddr (hI : Inv w0 F κ a w ρ σ) {t e : TypeId} {k : Nat} {y z : Operand} {x x' : X} (hop : o.op = .indexAddr t y z) (hu : P.underlying t = some (.slice e)) (hk : sizeOf' P e = some k) (hx : opX y = some x) (hx' : opX z = some x')
    (h : astep (ACalls P) nm ρ σ K (.iaddr k x x')) : Good P w0 F o a w κ σ nm K := by
  have v1 := hI.opX hx
  have v2 := hI.opX hx'
  simp only [astep] at h
  split at h
  · rename_i xs g kk n h1 h2
    rw [h1] at v1; rw [h2] at v2
    have e2 := v2.int_inv
    split at h
    · rename_i hb
      split at h
      · rename_i y' hy
        split at h
        · rename_i hc
          rcases v1.sl_inv with ⟨_, _, rfl⟩ | ⟨b, i, cap, kq, e1, g1, g2, g3⟩
          · simp at hy
          · have hkq : kq = k := by rw [← hc]; exact (g1 y' (List.mem_of_getElem? hy)).symm
            subst hkq
            have hlt : n.toNat < xs.length := (List.getElem?_eq_some_iff.1 hy).1
            have hyq : xs[n.toNat] = y' := (List.getElem?_eq_some_iff.1 hy).2
            have hsp : xs = xs.take n.toNat ++ y' :: xs.drop (n.toNat + 1) := by rw [← hyq]; simp
            have hft : (xs.take n.toNat).flatMap AV.cells = (xs.flatMap AV.cells).take (n.toNat * kq) ∧ ((xs.take n.toNat).flatMap AV.cells).length = n.toNat * kq := by
              have hall : ∀ (l : List AV), (∀ x ∈ l, x.cells.length = kq) → (l.flatMap AV.cells).length = l.length * kq := by
                intro l
                induction l with
                | nil => intro _; simp
                | cons p r ih => intro hh; simp only [List.flatMap_cons, List.length_append, List.length_cons, Nat.add_mul, ih (fun x hx => hh x (List.mem_cons_of_mem _ hx)), hh p (List.mem_cons_self ..)]; omega
              have hl : ((xs.take n.toNat).flatMap AV.cells).length = n.toNat * kq := by
                rw [hall _ (fun x hx => g1 x (List.mem_of_mem_take hx)), List.length_take, Nat.min_eq_left (Nat.le_of_lt hlt)]
              refine ⟨?_, hl⟩
              conv => rhs; rw [hsp, List.flatMap_append]
              rw [← hl, List.take_left]
            rw [hsp, List.flatMap_append, List.flatMap_cons] at g3
            have g4 := (g3.right _).left
            rw [hft.2] at g4
            refine .value hI (v := .pointer (some ⟨b, i + n.toNat * kq, none⟩)) ?_ (.eptr _ _ _ g4) h
            simp [execOp, hop, e1, e2, Instr.indexAt, asIntOf, underlying, hu, hb, run_sizeOf hk, add_spot]
        · exact h.elim
      · exact h.elim
    · exact h.elim
  · rename_i m off len kk n h1 h2
    rw [h1] at v1; rw [h2] at v2
    have e2 := v2.int_inv
    obtain ⟨cap, e1, hcap, hd⟩ := v1.ref_inv
    split at h
    · rename_i hb
      refine .value hI (v := .pointer (some ⟨κ.φ m, off + n.toNat * k, none⟩)) ?_ (.ptr _ _ hd) h
      simp [execOp, hop, e1, e2, Instr.indexAt, asIntOf, underlying, hu, hb, run_sizeOf hk, add_spot]
    · exact h.elim
  · rename_i m k' len kk n h1 h2
    rw [h1] at v1; rw [h2] at v2
    have e2 := v2.int_inv
    obtain ⟨cap, e1, hcap, hd, _⟩ := v1.refr_inv
    split at h
    · rename_i hb
      refine .value hI (v := .pointer (some ⟨κ.φ m, n.toNat * k, none⟩)) ?_ (.ptr _ _ hd) h
      simp [execOp, hop, e1, e2, Instr.indexAt, asIntOf, underlying, hu, hb, run_sizeOf hk, add_spot]
    · exact h.elim
  · exact h.elim

theorem ok_iaddrA (hI : Inv w0 F κ a w ρ σ) {t e : TypeId} {k len : Nat} {y z : Operand} {x x' : X} (hop : o.op = .indexAddr t y z) (hu : P.underlying t = some (.array len e)) (hk : sizeOf' P e = some k) (hx : opX y = some x) (hx' : opX z = some x')
    (h : astep (ACalls P) nm ρ σ K (.iaddrA len k x x')) : Good P w0 F o a w κ σ nm K := by
  have v1 := hI.opX hx
  have v2 := hI.opX hx'
  simp only [astep] at h
  split at h
  · rename_i m off kk n h1 h2
    rw [h1] at v1; rw [h2] at v2
    have e2 := v2.int_inv
    obtain ⟨e1, hd⟩ := v1.ptr_inv
    split at h
    · rename_i hb
      refine .value hI (v := .pointer (some ⟨κ.φ m, off + n.toNat * k, none⟩)) ?_ (.ptr _ _ hd) h
      simp [execOp, hop, e1, e2, Instr.indexAt, Instr.sureAddr, asIntOf, underlying, hu, hb, run_sizeOf hk, add_spot]
    · exact h.elim
  · exact h.elim

theorem call_builtin {b : Builtin} {c : Call} {y : List Operand} {ts : List TypeId} (hop : o.op = .call c) (hc : c.callee = .builtin b) (ha : c.args.toList = y) (ht : c.argTypes.toList = ts) {v : Value} {w' : World}
    (h : ∀ cs, (builtin b ⟨ts⟩ o.type cs ⟨y.map a.eval⟩).run P w = .ok (.value v) w') : (execOp a.eval o).run P w = .ok (.value v) w' := by
  obtain ⟨callee, ⟨al⟩, ⟨tl⟩⟩ := c
  simp only at hc ha ht
  subst hc ha ht
  have := h (Array.map (fun x => match x with | .const _ => true | _ => false) ⟨al⟩)
  simp only [execOp, hop, resolve, Sem.run_bind, Sem.run_pure, Result.andThen_ok, invoke, List.map_toArray] at this ⊢
  exact this

theorem ok_len (hI : Inv w0 F κ a w ρ σ) {c : Call} {y : Operand} {x : X} {t e : TypeId} {ts : List TypeId} (hop : o.op = .call c) (hc : c.callee = .builtin .len) (ha : c.args.toList = [y]) (ht : c.argTypes.toList = t :: ts)
    (hu : P.underlying t = some (.slice e)) (hx : opX y = some x) (h : astep (ACalls P) nm ρ σ K (.len x)) : Good P w0 F o a w κ σ nm K := by
  have v1 := hI.opX hx
  simp only [astep] at h
  split at h
  · rename_i xs g hn
    rw [hn] at v1
    have hu' : ∃ n c, a.eval y = .slice n xs.length c := by
      rcases v1.sl_inv with ⟨_, e1, rfl⟩ | ⟨b, i, cap, kq, e1, _⟩
      · exact ⟨_, _, e1⟩
      · exact ⟨_, _, e1⟩
    obtain ⟨q1, q2, e1⟩ := hu'
    exact .value hI (call_builtin hop hc ha ht (fun cs => by simp [builtin, Builtin.len_, e1, underlying, hu, goInt])) (.int _ _) h
  · rename_i n off len hn
    rw [hn] at v1
    obtain ⟨cap, e1, _, _⟩ := v1.ref_inv
    exact .value hI (call_builtin hop hc ha ht (fun cs => by simp [builtin, Builtin.len_, e1, underlying, hu, goInt])) (.int _ _) h
  · rename_i n k' len hn
    rw [hn] at v1
    obtain ⟨cap, e1, _, _⟩ := v1.refr_inv
    exact .value hI (call_builtin hop hc ha ht (fun cs => by simp [builtin, Builtin.len_, e1, underlying, hu, goInt])) (.int _ _) h
  · exact h.elim

theorem ok_slen (hI : Inv w0 F κ a w ρ σ) {c : Call} {y : Operand} {x : X} {t : TypeId} {ts : List TypeId} (hop : o.op = .call c) (hc : c.callee = .builtin .len) (ha : c.args.toList = [y]) (ht : c.argTypes.toList = t :: ts)
    (hu : P.underlying t = some .string) (hx : opX y = some x) (h : astep (ACalls P) nm ρ σ K (.slen x)) : Good P w0 F o a w κ σ nm K := by
  have v1 := hI.opX hx
  simp only [astep] at h
  split at h
  · rename_i s hn
    rw [hn] at v1
    exact .value hI (call_builtin hop hc ha ht (fun cs => by simp [builtin, Builtin.len_, v1.str_inv, underlying, hu, goInt])) (.int _ _) h
  · exact h.elim

theorem Vm.length : ∀ {es : List MapEntry} {ps : List (AV × AV)}, Vm κ w es ps → es.length = ps.length
  | _, _, .nil => rfl
  | _, _, .cons _ _ _ _ _ _ t => by simp [t.length]

theorem ok_mlen (hI : Inv w0 F κ a w ρ σ) {c : Call} {y : Operand} {x : X} {t k e : TypeId} {ts : List TypeId} (hop : o.op = .call c) (hc : c.callee = .builtin .len) (ha : c.args.toList = [y]) (ht : c.argTypes.toList = t :: ts)
    (hu : P.underlying t = some (.map k e)) (hx : opX y = some x) (h : astep (ACalls P) nm ρ σ K (.mlen x)) : Good P w0 F o a w κ σ nm K := by
  have v1 := hI.opX hx
  simp only [astep] at h
  split at h
  · rename_i hn
    rw [hn] at v1
    exact .value hI (v := .int .i64 0) (call_builtin hop hc ha ht (fun cs => by simp [builtin, Builtin.len_, v1.nilm_inv, underlying, hu, goInt])) (.int _ _) h
  · rename_i n hn
    rw [hn] at v1
    obtain ⟨e1, hd⟩ := v1.map_inv
    split at h
    · rename_i es ts cl hr
      obtain ⟨_, ents, g1, g2, _⟩ := hI.r.own n _ hr
      have hl := g2.length
      refine .value hI (v := .int .i64 es.length) (call_builtin hop hc ha ht (fun cs => ?_)) (.int _ _) h
      have hg : (getObj (κ.φ n)).run P w = .ok (.map ⟨ents⟩ cl) w := by simp [getObj, Sem.run, g1]
      simp [builtin, Builtin.len_, e1, underlying, hu, goInt, hg, hl]
    · exact h.elim
  · exact h.elim

/-! ### Cutting -/

theorem run_bound {y : Operand} {d : Int} {x : X} {l : Int} (hI : Inv w0 F κ a w ρ σ) (hx : opX y = some x) (hl : idx ρ d (some x) = some l) (m : Nat) (code : BoundsCode) (h0 : 0 ≤ l) (h1 : l ≤ m) :
    (Instr.sliceBound (a.eval y) m code).run P w = .ok l.toNat w := by
  have v := hI.opX hx
  simp only [idx] at hl
  split at hl
  · rename_i k n hn
    rw [hn] at v
    simp only [Option.some.injEq] at hl; subst hl
    have hc : 0 ≤ n ∧ n ≤ (m : Int) := ⟨h0, h1⟩
    simp [Instr.sliceBound, v.int_inv, asIntOf, hc]
  · cases hl

theorem opXo_cases {y : Option Operand} {x : Option X} (h : opXo y = some x) : (y = none ∧ x = none) ∨ ∃ y' x', y = some y' ∧ x = some x' ∧ opX y' = some x' := by
  cases y with
  | none => simp only [opXo, Option.some.injEq] at h; exact .inl ⟨rfl, h.symm⟩
  | some y' =>
    simp only [opXo, Option.map_eq_some_iff] at h
    obtain ⟨x', h1, rfl⟩ := h
    exact .inr ⟨y', x', rfl, rfl, h1⟩

theorem run_bounds (hI : Inv w0 F κ a w ρ σ) {lo hi : Option Operand} {lo' hi' : Option X} (hlo : opXo lo = some lo') (hhi : opXo hi = some hi') {len cap : Nat} {l h : Int} (isS : Bool)
    (h1 : idx ρ 0 lo' = some l) (h2 : idx ρ len hi' = some h) (h0 : 0 ≤ l) (hlh : l ≤ h) (hc : h ≤ cap) :
    (Instr.sliceBounds isS len cap (lo.map a.eval) (hi.map a.eval) none).run P w = .ok (l.toNat, h.toNat, cap) w := by
  have hle : l ≤ (h.toNat : Int) := by omega
  rcases opXo_cases hhi with ⟨rfl, rfl⟩ | ⟨y, x, rfl, rfl, hx⟩
  · simp only [idx, Option.some.injEq] at h2; subst h2
    rcases opXo_cases hlo with ⟨rfl, rfl⟩ | ⟨y', x', rfl, rfl, hx'⟩
    · simp only [idx, Option.some.injEq] at h1; subst h1
      simp [Instr.sliceBounds]
    · have := run_bound (P := P) hI hx' h1 len .sliceB h0 (by omega)
      simp [Instr.sliceBounds, this]
  · have hq := run_bound (P := P) hI hx h2 cap (if isS = true then .sliceAcap else .sliceAlen) (by omega) hc
    rcases opXo_cases hlo with ⟨rfl, rfl⟩ | ⟨y', x', rfl, rfl, hx'⟩
    · simp only [idx, Option.some.injEq] at h1; subst h1
      simp [Instr.sliceBounds, hq]
    · have := run_bound (P := P) hI hx' h1 h.toNat .sliceB h0 hle
      simp [Instr.sliceBounds, hq, this]

end

end Go.VL

namespace Go.VL

section

variable {P : Program} {w0 : World} {F : Nat → Prop} {o : Oper} {a : Act} {w : World} {κ : Kx} {ρ : List AV} {σ : St} {nm : Nat} {K : AV → St → Prop}

theorem flat_take {k : Nat} : ∀ {xs : List AV} (n : Nat), xs.all (AV.fits k) = true → (xs.take n).flatMap AV.cells = (xs.flatMap AV.cells).take (n * k)
  | [], n, _ => by simp
  | x :: xs, 0, _ => by simp
  | x :: xs, n + 1, h => by
    simp only [List.all_cons, Bool.and_eq_true] at h
    simp only [List.take_succ_cons, List.flatMap_cons, flat_take n h.2]
    have e : (n + 1) * k = x.cells.length + n * k := by rw [(fits_iff h.1).2.1, Nat.add_mul]; omega
    rw [e, List.take_length_add_append]

theorem flat_drop {k : Nat} : ∀ {xs : List AV} (n : Nat), xs.all (AV.fits k) = true → (xs.drop n).flatMap AV.cells = (xs.flatMap AV.cells).drop (n * k)
  | [], n, _ => by simp
  | x :: xs, 0, _ => by simp
  | x :: xs, n + 1, h => by
    simp only [List.all_cons, Bool.and_eq_true] at h
    simp only [List.drop_succ_cons, List.flatMap_cons, flat_drop n h.2]
    have e : (n + 1) * k = x.cells.length + n * k := by rw [(fits_iff h.1).2.1, Nat.add_mul]; omega
    rw [e, List.drop_length_add_append]

theorem all_take {k : Nat} {xs : List AV} (n : Nat) (h : xs.all (AV.fits k) = true) : (xs.take n).all (AV.fits k) = true :=
  List.all_eq_true.2 fun x hx => List.all_eq_true.1 h x (List.mem_of_mem_take hx)

theorem all_drop {k : Nat} {xs : List AV} (n : Nat) (h : xs.all (AV.fits k) = true) : (xs.drop n).all (AV.fits k) = true :=
  List.all_eq_true.2 fun x hx => List.all_eq_true.1 h x (List.mem_of_mem_drop hx)

theorem all_cl {k : Nat} {xs : List AV} (h : xs.all (AV.fits k) = true) : ∀ x ∈ xs, x.cells.length = k := fun x hx => (fits_iff (List.all_eq_true.1 h x hx)).2.1

theorem Vs.take {b i : Nat} {cs : List AV} (h : Vs κ w b i cs) (n : Nat) : Vs κ w b i (cs.take n) := by
  have : Vs κ w b i (cs.take n ++ cs.drop n) := by rwa [List.take_append_drop]
  exact this.left _

theorem ok_slice (hI : Inv w0 F κ a w ρ σ) {t e : TypeId} {y : Operand} {lo hi : Option Operand} {x : X} {lo' hi' : Option X} {k : Nat} (hop : o.op = .slice t y lo hi none) (hu : P.underlying t = some (.slice e)) (hk : sizeOf' P e = some k)
    (hx : opX y = some x) (hlo : opXo lo = some lo') (hhi : opXo hi = some hi') (h : astep (ACalls P) nm ρ σ K (.slice k x lo' hi')) : Good P w0 F o a w κ σ nm K := by
  have v1 := hI.opX hx
  have hrun : ∀ (A : Option Addr) (n c : Nat) (l hh : Int), a.eval y = .slice A n c → idx ρ 0 lo' = some l → idx ρ n hi' = some hh → 0 ≤ l → l ≤ hh → hh ≤ c →
      (execOp a.eval o).run P w = .ok (.value (.slice (if c = l.toNat then A else A.map (·.add (l.toNat * k))) (hh.toNat - l.toNat) (c - l.toNat))) w := by
    intro A n c l hh e1 h1 h2 h3 h4 h5
    have hb := run_bounds (P := P) hI hlo hhi true (len := n) (cap := c) h1 h2 h3 h4 h5
    have hm : (none : Option Operand).map a.eval = none := rfl
    simp [execOp, hop, e1, Instr.sliceAt, Instr.slice, underlying, hu, hb, run_sizeOf hk]
  simp only [astep] at h
  split at h
  · rename_i xs g hn
    rw [hn] at v1
    split at h
    · rename_i l hh h1 h2
      split at h
      · rename_i hc
        obtain ⟨c0, c1, c2, c3⟩ := hc
        have hlenT : ((xs.drop l.toNat).take (hh - l).toNat).length = hh.toNat - l.toNat := by
          rw [List.length_take, List.length_drop]; omega
        generalize hy : a.eval y = vy at v1
        cases v1 with
        | slnil g hg =>
          have hh0 : hh = 0 := by simp only [List.length_nil] at c2; omega
          have hl0 : l = 0 := by omega
          subst hh0; subst hl0
          refine .value hI (hrun none 0 0 0 0 hy h1 h2 (Int.le_refl _) (Int.le_refl _) (Int.le_refl _)) ?_ h
          rcases hg with rfl | rfl | rfl <;> simp <;> exact .slnil _ (by simp)
        | slz A gz hgz =>
          have hh0 : hh = 0 := by simp only [List.length_nil] at c2; omega
          have hl0 : l = 0 := by omega
          subst hh0; subst hl0
          refine .value hI (hrun (some A) 0 0 0 0 hy h1 h2 (Int.le_refl _) (Int.le_refl _) (Int.le_refl _)) ?_ h
          rcases hgz with rfl | rfl <;> simp <;> exact .slz A _ (by simp)
        | sl b i cap kq xs' hkq hcap hvs =>
          refine .value hI (hrun _ _ _ l hh hy h1 h2 c0 c1 (by omega)) ?_ h
          have hg : (if hh = (xs.length : Int) ∧ (l = 0 ∨ l < hh) then Ver.none else .none) = Ver.none := by split <;> rfl
          rw [hg]
          by_cases hcl : cap = l.toNat
          · have he : (xs.drop l.toNat).take (hh - l).toNat = [] := by
              apply List.eq_nil_of_length_eq_zero; rw [hlenT]; omega
            rw [he, if_pos hcl, show hh.toNat - l.toNat = ([] : List AV).length by simp; omega]
            exact .sl b i _ k [] (by simp) (by simp) (.nil _ _)
          · rw [if_neg hcl, Option.map_some, add_spot, ← hlenT]
            refine .sl b _ _ k _ (fun x hx => all_cl c3 x (List.mem_of_mem_drop (List.mem_of_mem_take hx))) (by rw [hlenT]; omega) ?_
            rw [flat_take _ (all_drop _ c3), flat_drop _ c3]
            refine Vs.take (hvs.drop _ ?_) _
            rw [flat_len c3]; exact Nat.mul_le_mul_right _ (by omega)
        | tip i cap gg xs' hkq hcap hgd he1 he2 hvs =>
          refine .value hI (hrun _ _ _ l hh hy h1 h2 c0 c1 (by omega)) ?_ h
          by_cases hg : hh = (xs.length : Int) ∧ (l = 0 ∨ l < hh)
          · rw [if_pos hg]
            have hkk : l.toNat * k = l.toNat * κ.ξ gg := by
              rcases hg.2 with hz | hz
              · subst hz; simp
              · congr 1
                have : 0 < xs.length := by omega
                obtain ⟨x0, hx0⟩ : ∃ x0, x0 ∈ xs := ⟨xs[0], List.getElem_mem _⟩
                rw [← all_cl c3 x0 hx0, hkq x0 hx0]
            have haddr : (if cap = l.toNat then some (⟨κ.φ gg, i, none⟩ : Addr) else (some (⟨κ.φ gg, i, none⟩ : Addr)).map (·.add (l.toNat * k))) = some ⟨κ.φ gg, i + l.toNat * κ.ξ gg, none⟩ := by
              split
              · rename_i hcl
                have : l.toNat = 0 := by rcases hg.2 with hz | hz <;> omega
                rw [this]; simp
              · rw [Option.map_some, add_spot, hkk]
            rw [haddr, ← hlenT]
            have hl1 : l.toNat ≤ xs.length := by omega
            have hmul : xs.length * κ.ξ gg = l.toNat * κ.ξ gg + (xs.length - l.toNat) * κ.ξ gg := by rw [← Nat.add_mul]; congr 1; omega
            have hmulc : cap * κ.ξ gg = l.toNat * κ.ξ gg + (cap - l.toNat) * κ.ξ gg := by rw [← Nat.add_mul]; congr 1; omega
            refine .tip _ _ gg _ (fun x hx => hkq x (List.mem_of_mem_drop (List.mem_of_mem_take hx))) (by rw [hlenT]; omega) hgd ?_ ?_ ?_
            · rw [hlenT, he1, hmul, show hh.toNat = xs.length by omega]; omega
            · rw [he2, hmulc]; omega
            · rw [flat_take _ (all_drop _ c3), flat_drop _ c3, hkk]
              refine Vs.take (hvs.drop _ ?_) _
              rw [flat_len c3, ← hkk]; exact Nat.mul_le_mul_right _ hl1
          · rw [if_neg hg]
            by_cases hcl : cap = l.toNat
            · have he : (xs.drop l.toNat).take (hh - l).toNat = [] := by
                apply List.eq_nil_of_length_eq_zero; rw [hlenT]; omega
              rw [he, if_pos hcl, show hh.toNat - l.toNat = ([] : List AV).length by simp; omega]
              exact .sl _ i _ k [] (by simp) (by simp) (.nil _ _)
            · rw [if_neg hcl, Option.map_some, add_spot, ← hlenT]
              refine .sl _ _ _ k _ (fun x hx => all_cl c3 x (List.mem_of_mem_drop (List.mem_of_mem_take hx))) (by rw [hlenT]; omega) ?_
              rw [flat_take _ (all_drop _ c3), flat_drop _ c3]
              refine Vs.take (hvs.drop _ ?_) _
              rw [flat_len c3]; exact Nat.mul_le_mul_right _ (by omega)
      · exact h.elim
    · exact h.elim
  · rename_i n off len hn
    rw [hn] at v1
    obtain ⟨cap, e1, hcap, hd⟩ := v1.ref_inv
    split at h
    · rename_i l hh h1 h2
      split at h
      · rename_i hc
        obtain ⟨c0, c1, c2⟩ := hc
        refine .value hI (hrun _ _ _ l hh e1 h1 h2 c0 c1 (by omega)) ?_ h
        by_cases hlh : l = hh
        · rw [if_pos hlh, show hh.toNat - l.toNat = ([] : List AV).length by simp; omega]
          split
          · exact .sl _ off _ k [] (by simp) (by simp) (.nil _ _)
          · rw [Option.map_some, add_spot]; exact .sl _ _ _ k [] (by simp) (by simp) (.nil _ _)
        · rw [if_neg hlh, if_neg (by omega), Option.map_some, add_spot, show (hh - l).toNat = hh.toNat - l.toNat by omega]
          exact .ref n _ _ _ hd (by omega)
      · exact h.elim
    · exact h.elim
  · rename_i n k' len hn
    rw [hn] at v1
    obtain ⟨cap, e1, hcap, hd, hr⟩ := v1.refr_inv
    split at h
    · rename_i l hh h1 h2
      split at h
      · rename_i hc
        obtain ⟨rfl, c1, c2⟩ := hc
        refine .value hI (hrun _ _ _ 0 hh e1 h1 h2 (Int.le_refl _) c1 (by omega)) ?_ h
        have ha : (if cap = Int.toNat 0 then some (⟨κ.φ n, 0, none⟩ : Addr) else (some (⟨κ.φ n, 0, none⟩ : Addr)).map (·.add (Int.toNat 0 * k))) = some ⟨κ.φ n, 0, none⟩ := by
          split
          · rfl
          · rw [Option.map_some, add_spot]; simp
        rw [ha]
        exact .refr n k' hh.toNat cap hd (by omega) hr
      · split at h
        · rename_i hc
          obtain ⟨c0, c1, c2⟩ := hc
          refine .value hI (hrun _ _ _ l hh e1 h1 h2 c0 c1 (by omega)) ?_ h
          by_cases hlh : l = hh
          · rw [if_pos hlh, show hh.toNat - l.toNat = ([] : List AV).length by simp; omega]
            split
            · exact .sl _ 0 _ k [] (by simp) (by simp) (.nil _ _)
            · rw [Option.map_some, add_spot]; exact .sl _ _ _ k [] (by simp) (by simp) (.nil _ _)
          · rw [if_neg hlh, if_neg (by omega), Option.map_some, add_spot, show (hh - l).toNat = hh.toNat - l.toNat by omega, Nat.zero_add]
            exact .ref n _ _ _ hd (by omega)
        · exact h.elim
    · exact h.elim
  · rename_i g n hn
    rw [hn] at v1
    obtain ⟨o', cap, e1, hd, hcap, hp, hx'⟩ := v1.room_inv
    split at h
    · rename_i l hh h1 h2
      split at h
      · rename_i hc
        obtain ⟨rfl, rfl⟩ := hc
        refine .value hI (hrun _ _ _ 0 0 e1 h1 h2 (Int.le_refl _) (Int.le_refl _) (by omega)) ?_ h
        have ha : (if cap = Int.toNat 0 then some (⟨κ.φ g, o', none⟩ : Addr) else (some (⟨κ.φ g, o', none⟩ : Addr)).map (·.add (Int.toNat 0 * k))) = some ⟨κ.φ g, o', none⟩ := by
          split
          · rfl
          · rw [Option.map_some, add_spot]; simp
        rw [ha]
        exact .tip o' cap g [] (by simp) (Nat.zero_le _) hd (by simpa using hp) hx' (.nil _ _)
      · exact h.elim
    · exact h.elim
  · exact h.elim

theorem ok_sslice (hI : Inv w0 F κ a w ρ σ) {t : TypeId} {y : Operand} {lo hi : Option Operand} {x : X} {lo' hi' : Option X} (hop : o.op = .slice t y lo hi none) (hu : P.underlying t = some .string)
    (hx : opX y = some x) (hlo : opXo lo = some lo') (hhi : opXo hi = some hi') (h : astep (ACalls P) nm ρ σ K (.sslice x lo' hi')) : Good P w0 F o a w κ σ nm K := by
  have v1 := hI.opX hx
  simp only [astep] at h
  split at h
  · rename_i s hn
    rw [hn] at v1
    split at h
    · rename_i l hh h1 h2
      split at h
      · rename_i hc
        obtain ⟨c0, c1, c2⟩ := hc
        have hb := run_bounds (P := P) hI hlo hhi false (len := s.size) (cap := s.size) h1 h2 c0 c1 c2
        refine .value hI (v := .string (s.extract l.toNat hh.toNat)) ?_ (.str _) h
        simp [execOp, hop, v1.str_inv, Instr.sliceAt, Instr.slice, underlying, hu, hb]
      · exact h.elim
    · exact h.elim
  · exact h.elim

theorem ok_idxS (hI : Inv w0 F κ a w ρ σ) {t : TypeId} {y z : Operand} {x x' : X} (hop : o.op = .index t y z) (hu : P.underlying t = some .string) (hx : opX y = some x) (hx' : opX z = some x')
    (h : astep (ACalls P) nm ρ σ K (.idxS x x')) : Good P w0 F o a w κ σ nm K := by
  have v1 := hI.opX hx
  have v2 := hI.opX hx'
  simp only [astep] at h
  split at h
  · rename_i s k n h1 h2
    rw [h1] at v1; rw [h2] at v2
    split at h
    · rename_i hb
      split at h
      · rename_i b hbb
        refine .value hI (v := .int .u8 b.toNat) ?_ (.int _ _) h
        have hlt : n.toNat < s.size := by omega
        have hs : s[n.toNat]? = some b := by
          have hd : s.data[n.toNat]? = some b := by simpa using hbb
          rw [← hd]
          obtain ⟨d⟩ := s
          rfl
        simp [execOp, hop, v1.str_inv, v2.int_inv, Instr.index, asIntOf, underlying, hu, hb.1, hs]
      · exact h.elim
    · exact h.elim
  · exact h.elim

end

end Go.VL

namespace Go.VL

section

variable {P : Program} {w0 : World} {F : Nat → Prop} {o : Oper} {a : Act} {w : World} {κ : Kx} {ρ : List AV} {σ : St} {nm : Nat} {K : AV → St → Prop}

theorem er_len' (x : AV) : x.er.cells.length = x.cells.length := by cases x <;> simp [AV.er, AV.er1, AV.cells]

theorem er_cells' (x : AV) : x.er.cells = x.cells.map AV.er1 := by cases x <;> simp [AV.er, AV.er1, AV.cells]

/-- a slice's cells, read -/
theorem run_first {xs : List AV} {g : Ver} {v : Value} {k : Nat} (hv : V κ w v (.sl xs g)) (hk : ∀ x ∈ xs, x.cells.length = k) :
    ∃ us, (∀ q, (Builtin.firstCells k xs.length v).run P { w with drawn := q } = .ok ⟨us⟩ { w with drawn := q }) ∧ Vl κ w us (xs.flatMap AV.cells) ∧ (∀ q, (Builtin.lenOf v).run P { w with drawn := q } = .ok xs.length { w with drawn := q }) := by
  have hfl : ∀ {l : List AV}, (∀ x ∈ l, x.cells.length = k) → (l.flatMap AV.cells).length = l.length * k := by
    intro l
    induction l with
    | nil => intro _; simp
    | cons p r ih => intro hh; simp only [List.flatMap_cons, List.length_append, List.length_cons, Nat.add_mul, ih (fun x hx => hh x (List.mem_cons_of_mem _ hx)), hh p (List.mem_cons_self ..)]; omega
  rcases hv.sl_inv with ⟨base, rfl, rfl⟩ | ⟨b, i, cap, kq, rfl, _, _, h3⟩
  · refine ⟨[], fun q => ?_, .nil, fun q => by simp [Builtin.lenOf]⟩
    cases base with
    | none => simp [Builtin.firstCells]
    | some a =>
      have hr := run_loadCells_list (P := P) (w := { w with drawn := q }) a [] (fun j v hj => by simp at hj)
      simp at hr
      simp [Builtin.firstCells, hr]
  · obtain ⟨us, g1, g2, g3⟩ := h3.row
    refine ⟨us, fun q => ?_, g1, fun q => by simp [Builtin.lenOf]⟩
    have hr := run_loadCells_list (P := P) (w := { w with drawn := q }) ⟨b, i, none⟩ us (fun j v hj => by rw [add_spot]; exact g3 j v hj)
    rw [g2, hfl hk] at hr
    simp [Builtin.firstCells, hr]

theorem bytes_all (s : List UInt8) : (bytesAV s).all (AV.fits 1) = true := by
  simp [bytesAV, AV.fits, AV.isAny, AV.cells, AV.one]

theorem bytes_flat : ∀ (s : List UInt8), (bytesAV s).flatMap AV.cells = bytesAV s
  | [] => rfl
  | _ :: r => by
    have := bytes_flat r
    simp only [bytesAV, List.map_cons, List.flatMap_cons] at this ⊢
    rw [this]; rfl

theorem Vl.bytes : ∀ (s : List UInt8), Vl κ w (s.map fun b => Value.int .u8 b.toNat) (bytesAV s)
  | [] => .nil
  | b :: r => .cons _ _ _ _ (.int _ _) (Vl.bytes r)

theorem growBy_le (need : Nat) : ∀ (r c : Nat), c ≤ 2 * need → 256 ≤ need → Builtin.growBy need r c ≤ 2 * need
  | 0, c, h, _ => h
  | r + 1, c, h, h2 => by
    simp only [Builtin.growBy]
    split
    · exact h
    · exact growBy_le need r _ (by omega) h2

theorem next_le {need cap : Nat} (h : cap < need) : Builtin.nextslicecap need cap ≤ 2 * need := by
  unfold Builtin.nextslicecap
  split
  · omega
  · split
    · omega
    · exact growBy_le _ _ _ (by omega) (by omega)

theorem mul_two {n b : Nat} (h : n * b ≤ 70368744177664) : 2 * n * b ≤ 2 ^ 48 := by
  rw [Nat.mul_assoc]
  omega

theorem zeroCells_len (z : Array Value) (n : Nat) : (Builtin.zeroCells z n).toList.length = n * z.size := by simp [Builtin.zeroCells]

/-- the run of an append whose appended cells are known -/
theorem run_append_room {ti : TypeInfo} {t u e : TypeId} {ty : TypeId} {s x : Value} {base : Option Addr} {n cap m : Nat} {ys : List Value} {d : TypeDesc} (hu : P.underlying t = some (.slice e)) (hd : P.underlying u = some d) (hdi : ∀ k, d ≠ .int k)
    (hi : P.info? e = some ti) (hs : s = .slice base n cap) (hl : (Builtin.lenOf x).run P w = .ok m w) (hf : (Builtin.firstCells ti.size m x).run P w = .ok ⟨ys⟩ w) (hroom : n + m ≤ cap) {w' : World}
    (hst : ∀ b, base = some b → (storeCells (b.add (n * ti.size)) ys).run P w = .ok () w') (hno : base = none → w' = w) :
    (Builtin.append_ ⟨[t, u]⟩ ty ⟨[s, x]⟩).run P w = .ok (.slice base (n + m) cap) w' := by
  subst hs
  have hsz : (sizeOf e).run P w = .ok ti.size w := by simp [sizeOf, typeInfo, hi]
  cases base with
  | none =>
    have := hno rfl
    subst this
    simp [Builtin.append_, underlying, hu, hsz, hd, hl, hf, hroom]
  | some b =>
    have := hst b rfl
    simp [Builtin.append_, underlying, hu, hsz, hd, hl, hf, hroom, this]

theorem run_append_grow {ti : TypeInfo} {t u e : TypeId} {ty : TypeId} {s x z : Value} {base : Option Addr} {n cap m : Nat} {ys os : List Value} {d : TypeDesc} (hu : P.underlying t = some (.slice e)) (hd : P.underlying u = some d) (hdi : ∀ k, d ≠ .int k)
    (hi : P.info? e = some ti) (hz : ti.zero = some z) (hzs : z.cells.size = ti.size) (hs : s = .slice base n cap)
    (hl : ∀ q, (Builtin.lenOf x).run P { w with drawn := q } = .ok m { w with drawn := q }) (hf : ∀ q, (Builtin.firstCells ti.size m x).run P { w with drawn := q } = .ok ⟨ys⟩ { w with drawn := q })
    (ho : ∀ q, (Builtin.firstCells ti.size n s).run P { w with drawn := q } = .ok ⟨os⟩ { w with drawn := q })
    (hroom : cap < n + m) (hb : (n + m) * ti.bytes ≤ 70368744177664) (hb0 : 0 < ti.bytes) :
    ∃ (q c : Nat) (rest : List Value), w.drawn ≤ q ∧ n + m ≤ c ∧ rest.length = (c - (n + m)) * ti.size ∧
      (Builtin.append_ ⟨[t, u]⟩ ty ⟨[s, x]⟩).run P w = .ok (.slice (some ⟨w.heap.size, 0, none⟩) (n + m) c) (({ w with drawn := q } : World).alloc (.cells ⟨os ++ ys ++ rest⟩ e)) := by
  have hsz : ∀ q, (sizeOf e).run P { w with drawn := q } = .ok ti.size { w with drawn := q } := fun q => by simp [sizeOf, typeInfo, hi]
  have hw : ({ w with drawn := w.drawn } : World) = w := rfl
  have hl0 := hl w.drawn
  have hs0 := hsz w.drawn
  rw [hw] at hl0 hs0
  have hcut : ∀ T, n + m ≤ (Question.appendCap (n + m) cap e).cut T := fun T => by simp [Question.cut]
  have hnr : ¬ (n + m ≤ cap) := by omega
  have hb1 : ¬ (Builtin.nextslicecap (n + m) cap * ti.bytes > 2 ^ 48) := by
    have h1 := next_le hroom
    have h2 := mul_two hb
    have h3 := Nat.mul_le_mul_right ti.bytes h1
    omega
  have hti : (typeInfo e).run P w = .ok ti w := by simp [typeInfo, hi]
  have hbz : ¬ (ti.bytes = 0) := by omega
  refine ⟨w.drawn + 1, (Question.appendCap (n + m) cap e).cut (w.tape w.drawn (.appendCap (n + m) cap e)), (Builtin.zeroCells z.cells ((Question.appendCap (n + m) cap e).cut (w.tape w.drawn (.appendCap (n + m) cap e)) - (n + m))).toList, Nat.le_succ _, hcut _, ?_, ?_⟩
  · rw [zeroCells_len, hzs]
  · subst hs
    have hf1 : (Builtin.firstCells ti.size m x).run P w.drew = .ok ⟨ys⟩ w.drew := hf (w.drawn + 1)
    have ho1 : (Builtin.firstCells ti.size n (.slice base n cap)).run P w.drew = .ok ⟨os⟩ w.drew := ho (w.drawn + 1)
    generalize hC : (Question.appendCap (n + m) cap e).cut (w.tape w.drawn (.appendCap (n + m) cap e)) = C at *
    have hzv : (zeroValue e).run P w.drew = .ok z w.drew := by simp [zeroValue, typeInfo, hi, hz]
    have hti1 : (typeInfo e).run P w.drew = .ok ti w.drew := by simp [typeInfo, hi]
    simp [Builtin.append_, underlying, hu, hs0, hd, hl0, hnr, hti, hbz, hb1, Question.forced, hC, hti1, ho1, hf1, hzv, newRow]
    have he : ∀ A : Array Value, ((⟨os⟩ : Array Value) ++ ((⟨ys⟩ : Array Value) ++ A)) = ⟨os ++ (ys ++ A.toList)⟩ := fun A => by apply Array.ext'; simp
    rw [he]

theorem R.del {B : Nat} (h : R B F κ w σ) (n : Nat) : R B F κ w (σ.del n) :=
  h.step (.refl _ _) h.dom h.imm fun m r hm => by
    by_cases hx : m = n
    · subst hx; simp [St.del] at hm
    · have : (σ.del n).res m = σ.res m := by simp [St.del, hx]
      exact .inl ⟨by rw [← this]; exact hm, rfl, fun _ x => x⟩

theorem St.del_res (σ : St) {n m : Nat} {r : Res} (h : (σ.del n).res m = some r) : m ≠ n ∧ σ.res m = some r := by
  by_cases hx : m = n
  · subst hx; simp [St.del] at h
  · exact ⟨hx, by simpa [St.del, hx] using h⟩

theorem flat_er' : ∀ (xs : List AV), (xs.map AV.er).flatMap AV.cells = (xs.flatMap AV.cells).map AV.er1
  | [] => rfl
  | x :: xs => by simp only [List.map_cons, List.flatMap_cons, List.map_append, er_cells', flat_er' xs]

theorem one_cells {x : AV} (h : x.one = true) : x.er1.cells = [x.er1] := by
  cases x <;> first | rfl | (simp [AV.one] at h)

theorem ones_flat : ∀ {cs : List AV}, cs.all AV.one = true → (cs.map AV.er1).flatMap AV.cells = cs.map AV.er1
  | [], _ => rfl
  | x :: r, h => by
    simp only [List.all_cons, Bool.and_eq_true] at h
    simp only [List.map_cons, List.flatMap_cons, one_cells h.1, ones_flat h.2, List.cons_append, List.nil_append]

/-- what is read of an owned row of single cells -/
theorem ref_ok {B : Nat} {F : Nat → Prop} (hR : R B F κ w σ) {v : Value} {n off len : Nat} {cs : List AV} (hv : V κ w v (.ref n off len)) (hr : σ.res n = some (.obj cs)) (hle : off + len ≤ cs.length) (hone : ((cs.drop off).take len).all AV.one = true) :
    ∃ us, (∀ m q, m ≤ len → (Builtin.firstCells 1 m v).run P { w with drawn := q } = .ok ⟨us.take m⟩ { w with drawn := q }) ∧ Vl κ w us ((((cs.drop off).take len).map AV.er1).flatMap AV.cells) ∧ us.length = len ∧ (∀ q, (Builtin.lenOf v).run P { w with drawn := q } = .ok len { w with drawn := q }) := by
  obtain ⟨cap, rfl, _, hd⟩ := hv.ref_inv
  obtain ⟨us, q1, q2⟩ := Row.of_own (hR.own n _ hr).2
  have hl := q1.length
  have hlu : ((us.drop off).take len).length = len := by rw [List.length_take, List.length_drop]; omega
  refine ⟨(us.drop off).take len, fun m q hm => ?_, by rw [ones_flat hone]; exact ((q1.drop off).take len).er1, hlu, fun q => by simp [Builtin.lenOf]⟩
  have hrr := run_loadCells_list (P := P) (w := { w with drawn := q }) ⟨κ.φ n, off, none⟩ (((us.drop off).take len).take m) (fun j v hj => by
    rw [add_spot]
    have h0 := q2 (off + j) v (by
      rw [List.getElem?_take] at hj
      split at hj
      · rw [List.getElem?_take] at hj
        split at hj
        · simpa using hj
        · cases hj
      · cases hj)
    rw [Nat.zero_add] at h0; exact h0)
  rw [List.length_take, hlu, Nat.min_eq_left hm] at hrr
  simpa [Builtin.firstCells] using hrr

theorem src_ok {B : Nat} {F : Nat → Prop} (hR : R B F κ w σ) {v : Value} {x : AV} {ys : List AV} {k : Nat} (hv : V κ w v x) (hs : srcOf σ k x = some ys) (hk : ∀ y ∈ ys, y.cells.length = k) :
    ∃ us, (∀ q, (Builtin.firstCells k ys.length v).run P { w with drawn := q } = .ok ⟨us⟩ { w with drawn := q }) ∧ Vl κ w us (ys.flatMap AV.cells) ∧ (∀ q, (Builtin.lenOf v).run P { w with drawn := q } = .ok ys.length { w with drawn := q }) := by
  unfold srcOf at hs
  split at hs
  · rename_i zs g
    simp only [Option.some.injEq] at hs; subst hs
    obtain ⟨us, h1, h2, h3⟩ := run_first (P := P) (k := k) hv (fun z hz => by rw [← er_len' z]; exact hk _ (List.mem_map_of_mem hz))
    refine ⟨us, fun q => by rw [List.length_map]; exact h1 q, ?_, fun q => by rw [List.length_map]; exact h3 q⟩
    rw [flat_er']; exact h2.er1
  · rename_i s
    simp only [Option.some.injEq] at hs; subst hs
    have := hv.str_inv
    subst this
    refine ⟨s.data.toList.map fun b => Value.int .u8 b.toNat, fun q => ?_, by rw [bytes_flat]; exact Vl.bytes _, fun q => ?_⟩
    · have he : s.extract 0 (bytesAV s.data.toList).length = s := by
        obtain ⟨d⟩ := s
        simp [bytesAV, ByteArray.extract, ByteArray.copySlice]
      simp only [Builtin.firstCells, he, Sem.run_pure]
      congr 1
      apply Array.ext'
      simp
    · simp [bytesAV, Builtin.lenOf]
  · rename_i n off len
    split at hs
    · rename_i cs hr
      split at hs
      · rename_i hc
        obtain ⟨rfl, hle, hone⟩ := hc
        simp only [Option.some.injEq] at hs; subst hs
        obtain ⟨us, h1, h2, h3, h4⟩ := ref_ok (P := P) hR hv hr hle hone
        have hl : (((cs.drop off).take len).map AV.er1).length = len := by rw [List.length_map, List.length_take, List.length_drop]; omega
        refine ⟨us, fun q => ?_, h2, fun q => by rw [hl]; exact h4 q⟩
        have := h1 len q (Nat.le_refl _)
        rw [List.take_of_length_le (by omega)] at this
        rw [hl]; exact this
      · cases hs
    · cases hs
  · cases hs

theorem chunks_flat (k : Nat) : ∀ (n : Nat) (X : List AV), ((chunks k n X).map AV.agg).flatMap AV.cells = X.take (n * k)
  | 0, X => by simp [chunks]
  | n + 1, X => by
    simp only [chunks, List.map_cons, List.flatMap_cons, chunks_flat k n]
    show X.take k ++ (X.drop k).take (n * k) = X.take ((n + 1) * k)
    rw [Nat.add_mul, Nat.one_mul, Nat.add_comm, List.take_add]

theorem chunks_len (k : Nat) : ∀ (n : Nat) (X : List AV), (chunks k n X).length = n
  | 0, _ => rfl
  | n + 1, X => by simp only [chunks, List.length_cons, chunks_len k n]

/-- what is read of an owned row of elements of some cells -/
theorem refk_ok {B : Nat} {F : Nat → Prop} (hR : R B F κ w σ) {v : Value} {n off len k : Nat} {cs : List AV} (hv : V κ w v (.ref n off len)) (hr : σ.res n = some (.obj cs)) (hle : off + len * k ≤ cs.length) :
    ∃ us, (∀ q, (Builtin.firstCells k len v).run P { w with drawn := q } = .ok ⟨us⟩ { w with drawn := q }) ∧ Vl κ w us (((cs.drop off).take (len * k)).map AV.er1) ∧ (∀ q, (Builtin.lenOf v).run P { w with drawn := q } = .ok len { w with drawn := q }) := by
  obtain ⟨cap, rfl, _, hd⟩ := hv.ref_inv
  obtain ⟨us, q1, q2⟩ := Row.of_own (hR.own n _ hr).2
  have hl := q1.length
  have hlu : ((us.drop off).take (len * k)).length = len * k := by rw [List.length_take, List.length_drop]; omega
  refine ⟨(us.drop off).take (len * k), fun q => ?_, ((q1.drop off).take (len * k)).er1, fun q => by simp [Builtin.lenOf]⟩
  have hrr := run_loadCells_list (P := P) (w := { w with drawn := q }) ⟨κ.φ n, off, none⟩ ((us.drop off).take (len * k)) (fun j v hj => by
    rw [add_spot]
    have h0 := q2 (off + j) v (by
      rw [List.getElem?_take] at hj
      split at hj
      · simpa using hj
      · cases hj)
    rw [Nat.zero_add] at h0; exact h0)
  rw [hlu] at hrr
  simpa [Builtin.firstCells] using hrr

theorem srcR_ok {B : Nat} {F : Nat → Prop} (hR : R B F κ w σ) {v : Value} {x : AV} {ys : List AV} {k : Nat} (hv : V κ w v x) (hs : srcR σ k x = some ys) (hk : ∀ y ∈ ys, y.cells.length = k) :
    ∃ us, (∀ q, (Builtin.firstCells k ys.length v).run P { w with drawn := q } = .ok ⟨us⟩ { w with drawn := q }) ∧ Vl κ w us (ys.flatMap AV.cells) ∧ (∀ q, (Builtin.lenOf v).run P { w with drawn := q } = .ok ys.length { w with drawn := q }) := by
  unfold srcR at hs
  split at hs
  · rename_i zs hz
    simp only [Option.some.injEq] at hs; subst hs
    exact src_ok hR hv hz hk
  · rename_i hz; clear hz
    unfold srcC at hs
    split at hs
    · rename_i n off len
      split at hs
      · rename_i cs hr
        split at hs
        · rename_i hc
          obtain ⟨hle, hone⟩ := hc
          simp only [Option.some.injEq] at hs; subst hs
          obtain ⟨us, h1, h2, h3⟩ := refk_ok (P := P) (k := k) hR hv hr hle
          refine ⟨us, ?_, ?_, ?_⟩
          · rw [List.length_map, chunks_len]; exact h1
          · rw [chunks_flat, List.take_of_length_le (by rw [List.length_map, List.length_take]; omega)]; exact h2
          · rw [List.length_map, chunks_len]; exact h3
        · cases hs
      · cases hs
    · rename_i n k' len
      split at hs
      · rename_i cs hr
        split at hs
        · rename_i hc
          obtain ⟨rfl, hle, hone⟩ := hc
          simp only [Option.some.injEq] at hs; subst hs
          obtain ⟨cap, rfl, hcap, hd, _⟩ := hv.refr_inv
          obtain ⟨us, h1, h2, h3⟩ := refk_ok (P := P) (k := k') hR (V.ref n 0 len cap hd hcap) hr (by omega)
          rw [List.drop_zero] at h2
          refine ⟨us, ?_, ?_, ?_⟩
          · rw [List.length_map, chunks_len]; exact h1
          · rw [chunks_flat, List.take_of_length_le (by rw [List.length_map, List.length_take]; omega)]; exact h2
          · rw [List.length_map, chunks_len]; exact h3
        · cases hs
      · cases hs
    · cases hs

theorem grow_ok (hI : Inv w0 F κ a w ρ σ) (hn : ¬ κ.dom nm) (hlt : nm < σ.next) {σ' : St} (hR : R w0.heap.size F κ w σ') (hnx : σ'.next = σ.next) {k : Nat} {xs : List AV} (hk : xs.all (AV.fits k) = true) {us rest : List Value} {t : TypeId} {n c q : Nat}
    (hv : Vl κ w us (xs.flatMap AV.cells)) (hq : w.drawn ≤ q) (hle : n ≤ c) (hn' : n = xs.length) (hrl : rest.length = (c - n) * k) (hK : K (.sl xs (.tip nm)) (σ'.set nm (.tip k)))
    (hrun : (execOp a.eval o).run P w = .ok (.value (.slice (some ⟨w.heap.size, 0, none⟩) n c)) (({ w with drawn := q } : World).alloc (.cells ⟨us ++ rest⟩ t))) : Good P w0 F o a w κ σ nm K := by
  subst hn'
  have e1 : Ext κ w κ { w with drawn := q } := ⟨fun _ _ x => x, fun _ _ => rfl, fun _ _ => rfl, fun _ _ => rfl, fun _ _ => rfl, fun _ x => x, fun _ _ _ => rfl⟩
  have hr1 : R w0.heap.size F κ { w with drawn := q } σ' := hR.step e1 hR.dom hR.imm (fun n r hr => .inl ⟨hr, rfl, fun _ x => x⟩)
  have hf1 : Fr F w0 { w with drawn := q } := hI.fr.drawn q hq
  have hv1 : Vl κ { w with drawn := q } us (xs.flatMap AV.cells) := hv.mono e1
  have hlen : us.length = xs.length * k := by rw [hv.length]; exact flat_len hk
  have htot : c * k = us.length + rest.length := by rw [hlen, hrl, ← Nat.add_mul]; congr 1; omega
  obtain ⟨e, hr⟩ := hr1.new_tip hf1.size hn (by rw [hnx]; exact hlt) (us ++ rest) t (0, 0) (.inl rfl) us.length (c * k) k (by rw [htot, List.length_append]; exact Nat.le_refl _)
  refine .value' (κ' := (κ.imms w.heap.size us.length).mark nm w.heap.size us.length (c * k) k) ⟨e1.trans e, fun n hd => hd.imp id .inl, hr, hf1.alloc _, by simp [hnx]⟩ hrun ?_ hK
  have := V.tip (κ := (κ.imms w.heap.size us.length).mark nm w.heap.size us.length (c * k) k) (w := (({ w with drawn := q } : World).alloc (.cells ⟨us ++ rest⟩ t))) 0 c nm xs (by simpa [Kx.mark] using all_cl hk)
    hle (.inr rfl) (by simp [Kx.mark, hlen]) (by simp [Kx.mark])
    (Vs.mk (hv1.mono e) (fun i u hu => ⟨.inr ⟨by simp [Kx.mark], by simpa using (List.getElem?_eq_some_iff.1 hu).1⟩, by
      have hi : i < us.length := (List.getElem?_eq_some_iff.1 hu).1
      simp only [Kx.mark, if_true]
      rw [cell_of (heap_alloc_new ({ w with drawn := q } : World) _), Nat.zero_add, List.getElem?_append_left hi]
      exact hu⟩))
  simpa [Kx.mark] using this

theorem room_ok (hI : Inv w0 F κ a w ρ σ) (hn : ¬ κ.dom nm) (hlt : nm < σ.next) {h k i cap : Nat} {xs ys : List AV} (hk : (xs ++ ys).all (AV.fits k) = true) (hr : σ.res h = some (.tip k)) (hkq : ∀ x ∈ xs, x.cells.length = κ.ξ h) 
    (he1 : κ.ψ h = i + xs.length * κ.ξ h) (he2 : κ.χ h = i + cap * κ.ξ h) (hvs : Vs κ w (κ.φ h) i (xs.flatMap AV.cells)) (hroom : xs.length + ys.length ≤ cap) {us : List Value} (hv : Vl κ w us (ys.flatMap AV.cells))
    (hK : K (.sl (xs ++ ys) (.tip nm)) ((σ.del h).set nm (.tip k)))
    (hrun : ∀ w', (storeCells ((⟨κ.φ h, i, none⟩ : Addr).add (xs.length * k)) us).run P w = .ok () w' → (execOp a.eval o).run P w = .ok (.value (.slice (some ⟨κ.φ h, i, none⟩) (xs.length + ys.length) cap)) w') : Good P w0 F o a w κ σ nm K := by
  obtain ⟨hdom, hxi, bs, t, fz, g1, g2, g3, g4⟩ := hI.r.own h _ hr
  rw [List.all_append, Bool.and_eq_true] at hk
  have hlen : us.length = ys.length * k := by rw [hv.length]; exact flat_len hk.2
  rw [hxi] at he1 he2 hkq
  have hone : ∀ u ∈ us, u.oneCell' = true := by
    refine hv.ones (List.all_eq_true.2 fun x hx => ?_)
    obtain ⟨y, hy, hxy⟩ := List.mem_flatMap.1 hx
    exact List.all_eq_true.1 (fits_iff (List.all_eq_true.1 hk.2 y hy)).2.2 x hxy
  have hmul : (xs.length + ys.length) * k ≤ cap * k := Nat.mul_le_mul_right _ hroom
  rw [Nat.add_mul] at hmul
  obtain ⟨w', r1, r2, r3⟩ := run_storeCells (P := P) us (κ.ψ h) w bs g1 g2 (by omega) (Nat.le_refl _) hone (κ.ψ h) 0 rfl
  have hrr := hrun w' (by rw [add_spot, ← he1]; exact r1)
  let κ' : Kx := ({ κ with I := fun b o => κ.I b o ∨ (b = κ.φ h ∧ κ.ψ h ≤ o ∧ o < κ.ψ h + us.length) } : Kx).mark nm (κ.φ h) (κ.ψ h + us.length) (κ.χ h) k
  have hcell : ∀ b j, κ.I b j → w'.cell? ⟨b, j, none⟩ = w.cell? ⟨b, j, none⟩ := by
    intro b j hj
    by_cases hb : b = κ.φ h
    · subst hb
      have hlt' : j < κ.ψ h := by
        rcases Nat.lt_or_ge j (κ.ψ h) with hx | hx
        · exact hx
        · exact absurd hj (g4 j hx)
      rw [cell_of r2, cell_of g1, List.append_assoc, List.getElem?_append_left (by rw [List.length_take]; omega), List.getElem?_take, if_pos hlt']
    · exact cell_same (r3.block b hb) j
  have e : Ext κ w κ' w' := by
    have e1 : Ext κ w ({ κ with I := fun b o => κ.I b o ∨ (b = κ.φ h ∧ κ.ψ h ≤ o ∧ o < κ.ψ h + us.length) } : Kx) w' :=
      ⟨fun _ _ x => .inl x, fun _ _ => rfl, fun _ _ => rfl, fun _ _ => rfl, fun _ _ => rfl, fun _ x => x, hcell⟩
    exact e1.trans (.mark (κ := { κ with I := fun b o => κ.I b o ∨ (b = κ.φ h ∧ κ.ψ h ≤ o ∧ o < κ.ψ h + us.length) }) hn (fun _ _ _ => rfl))
  have hnew : ∀ j u, us[j]? = some u → w'.cell? ⟨κ.φ h, κ.ψ h + j, none⟩ = some u := by
    intro j u hu
    have hj : j < us.length := (List.getElem?_eq_some_iff.1 hu).1
    rw [cell_of r2, List.append_assoc, List.getElem?_append_right (by rw [List.length_take]; omega), List.length_take, Nat.min_eq_left (by omega), List.getElem?_append_left (by omega)]
    rw [show κ.ψ h + j - κ.ψ h = j by omega]; exact hu
  have hR' : R w0.heap.size F κ' w' ((σ.del h).set nm (.tip k)) := by
    refine hI.r.step e (fun n hd => ?_) (fun b j hj => ?_) (fun n r hnr => ?_)
    · rcases hd with hd | rfl
      · exact hI.r.dom n hd
      · exact hlt
    · rw [r3.size]
      rcases hj with hj | ⟨rfl, _⟩
      · exact hI.r.imm b j hj
      · exact hI.r.lt hr
    · by_cases hx : n = nm
      · subst hx
        simp only [St.set_same, Option.some.injEq] at hnr
        subst hnr
        refine .inr ⟨.inr rfl, ⟨by simp [κ', Kx.mark], _, t, fz, by simp only [κ', Kx.mark, if_true]; exact r2, ?_, ?_, fun j hp hj => ?_⟩, ?_, fun m s hm hmm => ?_⟩
        · refine g2.imp id (fun hx => Nat.le_trans ?_ hx)
          simp only [List.length_append, List.length_take, List.length_drop]
          omega
        · simp only [κ', Kx.mark, if_true, List.length_append, List.length_take, List.length_drop]; omega
        · simp only [κ', Kx.mark, if_true] at hp hj
          rcases hj with hj | hj
          · exact g4 j (by omega) hj
          · omega
        · simp only [κ', Kx.mark, if_true]; exact hI.r.foot h _ hr rfl
        · by_cases hy : m = n
          · exact hy.symm
          · rw [St.set_other _ _ hy] at hm
            obtain ⟨hmh, hm'⟩ := St.del_res σ hm
            simp only [κ', Kx.mark, if_true, hy, if_false] at hmm
            exact absurd (hI.r.apart _ _ _ _ hr hm' hmm).symm hmh
      · rw [St.set_other _ _ hx] at hnr
        obtain ⟨hnh, hnr'⟩ := St.del_res σ hnr
        have hne : κ.φ n ≠ κ.φ h := fun hy => hnh (hI.r.apart _ _ _ _ hnr' hr hy)
        refine .inl ⟨hnr', r3.block _ hne, fun j hj => ?_⟩
        rcases hj with hj | ⟨hj, _⟩
        · exact hj
        · exact absurd hj hne
  refine .value' (κ' := κ') ⟨e, fun n hd => hd.imp id .inl, hR', hI.fr.owned hI.r rfl hr r3.os r3.tape r3.output r3.size r3.block, Nat.le_refl _⟩ hrr ?_ hK
  have := V.tip (κ := κ') (w := w') i cap nm (xs ++ ys) (fun x hx => ?_) (by rw [List.length_append]; exact hroom) (.inr rfl) ?_ ?_ ?_
  · simpa [κ', Kx.mark] using this
  · simp only [κ', Kx.mark, if_true]
    rcases List.mem_append.1 hx with hx | hx
    · exact hkq x hx
    · exact all_cl hk.2 x hx
  · simp only [κ', Kx.mark, if_true, List.length_append, Nat.add_mul]; omega
  · simp only [κ', Kx.mark, if_true]; exact he2
  · simp only [κ', Kx.mark, if_true]
    rw [List.flatMap_append]
    have hold := Vs.mono e hvs
    refine Vs.append (by simpa [κ', Kx.mark] using hold) ?_
    rw [flat_len hk.1, ← he1]
    exact Vs.mk (hv.mono e) (fun j u hu => ⟨.inr ⟨rfl, by omega, by have := (List.getElem?_eq_some_iff.1 hu).1; omega⟩, hnew j u hu⟩)

theorem own_ok (hI : Inv w0 F κ a w ρ σ) (hn : ¬ κ.dom nm) (hlt : nm < σ.next) {k : Nat} {xs : List AV} (hk : xs.all (AV.fits k) = true) {us rest : List Value} {t : TypeId} {n c q : Nat}
    (hv : Vl κ w us (xs.flatMap AV.cells)) (hq : w.drawn ≤ q) (hle : n ≤ c) (hn' : n = xs.length) (hrl : rest.length = (c - n) * k) {hd : Hold} (hK : (hd = .own ∧ K (.ref nm 0 xs.length) (σ.set nm (.obj (xs.flatMap AV.cells)))) ∨ (hd = .room ∧ K (.room nm xs.length) (σ.set nm (.tip k))))
    (hrun : (execOp a.eval o).run P w = .ok (.value (.slice (some ⟨w.heap.size, 0, none⟩) n c)) (({ w with drawn := q } : World).alloc (.cells ⟨us ++ rest⟩ t))) : Good P w0 F o a w κ σ nm K := by
  refine held_ok (us := us) (rest := rest) (t := t) (fz := (0, 0)) (cap := c) (n := n) (k := k) (xs := xs) (hd := hd) hI (fun _ _ => ⟨hn, hlt⟩) hk hv ?_ (by omega) (fun _ => .inl rfl) (.inl rfl) hn' ?_ ⟨{ w with drawn := q }, rfl, ⟨rfl, hq⟩, rfl, rfl, hrun⟩
  · have hlen : us.length = xs.length * k := by rw [hv.length]; exact flat_len hk
    rw [hlen, hrl, ← Nat.add_mul, hn']
    exact Nat.mul_le_mul_right _ (by omega)
  · rcases hK with ⟨rfl, hK⟩ | ⟨rfl, hK⟩
    · exact hK
    · exact hK

theorem ok_app (hI : Inv w0 F κ a w ρ σ) (hn : ¬ κ.dom nm) (hlt : nm < σ.next) {c : Call} {y z : Operand} {x x' : X} {t u e : TypeId} {ti : TypeInfo} {d : TypeDesc} (hop : o.op = .call c) (hc : c.callee = .builtin .append)
    (ha : c.args.toList = [y, z]) (ht : c.argTypes.toList = [t, u]) (hu : P.underlying t = some (.slice e)) (hd : P.underlying u = some d) (hdi : ∀ k, d ≠ .int k) (hi : P.info? e = some ti) (hbz : 0 < ti.bytes) (hzl : zlen P e = some ti.size)
    (hx : opX y = some x) (hx' : opX z = some x') {hd0 : Hold} (h : astep (ACalls P) nm ρ σ K (.app ti.size ti.bytes hd0 x x')) : Good P w0 F o a w κ σ nm K := by
  have v1 := hI.opX hx
  have v2 := hI.opX hx'
  obtain ⟨zz, hzz, hzl'⟩ : ∃ zz, zeroOf P e = some zz ∧ zz.cells.length = ti.size := by
    unfold zlen at hzl; rw [Option.map_eq_some_iff] at hzl; exact hzl
  obtain ⟨ti', zv, hi', hz2, hz3⟩ := zeroOf_ok hzz
  rw [hi] at hi'; simp only [Option.some.injEq] at hi'; subst hi'
  have hzs : zv.cells.size = ti.size := by
    have := ((constV_ok (κ := κ) (w := w) hz3).cells (constV_ne hz3)).length
    rw [hzl'] at this; simpa using this
  simp only [astep] at h
  split at h
  · rename_i xs g hsx
    rw [hsx] at v1
    split at h
    · rename_i ys hys
      split at h
      · rename_i hcond
        simp only [Bool.and_eq_true, decide_eq_true_eq] at hcond
        obtain ⟨hall, hb, hsm⟩ := hcond
        have hall' := hall
        rw [List.all_append, Bool.and_eq_true] at hall'
        obtain ⟨us, f1, f2, f3⟩ := src_ok (P := P) hI.r v2 hys (all_cl hall'.2)
        obtain ⟨us0, o1, o2, _⟩ := run_first (P := P) v1 (all_cl hall'.1)
        have hrunB : ∀ {v : Value} {w' : World}, (Builtin.append_ ⟨[t, u]⟩ o.type ⟨[a.eval y, a.eval z]⟩).run P w = .ok v w' → (execOp a.eval o).run P w = .ok (.value v) w' := by
          intro v w' hr
          refine call_builtin hop hc ha ht (fun cs => ?_)
          simp only [builtin, List.map_cons, List.map_nil, Sem.run_bind, hr, Result.andThen_ok, Sem.run_pure]
        generalize hy : a.eval y = vy at v1
        -- out of nothing
        have hnew : ∀ (A : Option Addr) (g0 : Ver), (∀ gg, g0 ≠ .tip gg) → vy = .slice A 0 0 → V κ w vy (.sl [] g0) → xs = [] →
            (ys = [] → K (.sl [] g0) σ) → (ys ≠ [] → (K (.sl ys (.tip nm)) (σ.set nm (.tip ti.size)) ∨ ∃ hd : Hold, (hd = .own ∧ K (.ref nm 0 ys.length) (σ.set nm (.obj (ys.flatMap AV.cells)))) ∨ (hd = .room ∧ K (.room nm ys.length) (σ.set nm (.tip ti.size))))) → Good P w0 F o a w κ σ nm K := by
          intro A g0 _ hvy hV hxs hK1 hK2
          subst hxs
          have hy2 : a.eval y = .slice A 0 0 := by rw [hy, hvy]
          by_cases hye : ys = []
          · subst hye
            have hus : us = [] := by have := f2.length; simpa using this
            subst hus
            have hr := run_append_room (P := P) (w := w) (ty := o.type) (s := a.eval y) (x := a.eval z) (base := A) (n := 0) (cap := 0) (m := 0) (ys := []) (w' := w) hu hd hdi hi hy2 (f3 w.drawn) (f1 w.drawn) (Nat.le_refl _) (fun b _ => by simp [storeCells]) (fun _ => rfl)
            exact .value hI (hrunB hr) (by rw [← hvy]; exact hV) (hK1 rfl)
          · have hpos : 0 < ys.length := by cases ys <;> simp_all
            obtain ⟨q, cc, rest, pq, p1, p2, p3⟩ := run_append_grow (P := P) (w := w) (ty := o.type) (s := a.eval y) (x := a.eval z) (base := A) (n := 0) (cap := 0) (m := ys.length) (ys := us) (os := us0) hu hd hdi hi hz2 hzs hy2 f3 f1 o1
              (by omega) (by simpa using hb) hbz
            have : us0 = [] := by have := o2.length; simpa using this
            subst this
            rcases hK2 hye with hK2 | ⟨hdx, hK2⟩
            · refine grow_ok hI hn hlt hI.r rfl (k := ti.size) (xs := ys) hall'.2 (us := us) (rest := rest) (t := e) (n := 0 + ys.length) (c := cc) (q := q) (hq := pq) f2 p1 (by simp) p2 hK2 (hrunB ?_)
              simpa using p3
            · refine own_ok hI hn hlt (k := ti.size) (xs := ys) hall'.2 (us := us) (rest := rest) (t := e) (n := 0 + ys.length) (c := cc) (q := q) (hq := pq) f2 p1 (by simp) p2 hK2 (hrunB ?_)
              simpa using p3
        have hsplit : ∀ {g0 : Ver}, xs = [] → (match (generalizing := false) hd0 with
            | .own => if ys.isEmpty then K (.sl [] g0) σ else K (.ref nm 0 ys.length) (σ.set nm (.obj (ys.flatMap AV.cells)))
            | .room => if ys.isEmpty then K (.sl [] g0) σ else K (.room nm ys.length) (σ.set nm (.tip ti.size))
            | _ => K (.sl (xs ++ ys) (if ys.isEmpty then g0 else .tip nm)) (if ys.isEmpty then σ else σ.set nm (.tip ti.size))) →
            (ys = [] → K (.sl [] g0) σ) ∧ (ys ≠ [] → (K (.sl ys (.tip nm)) (σ.set nm (.tip ti.size)) ∨ ∃ hd : Hold, (hd = .own ∧ K (.ref nm 0 ys.length) (σ.set nm (.obj (ys.flatMap AV.cells)))) ∨ (hd = .room ∧ K (.room nm ys.length) (σ.set nm (.tip ti.size))))) := by
          intro g0 hxs hh
          subst hxs
          refine ⟨fun hy => ?_, fun hy => ?_⟩
          · subst hy
            cases hd0 <;> simpa using hh
          · have hemp : ys.isEmpty = false := by cases ys <;> simp_all
            simp only [hemp, Bool.false_eq_true, if_false, List.nil_append] at hh
            cases hd0
            · exact .inl hh
            · exact .inl hh
            · exact .inr ⟨.own, .inl ⟨rfl, hh⟩⟩
            · exact .inl hh
            · exact .inr ⟨.room, .inr ⟨rfl, hh⟩⟩
            · exact .inl hh
        cases v1 with
        | slnil g hg =>
          rcases hg with rfl | rfl | rfl
          · obtain ⟨k1, k2⟩ := hsplit (g0 := .nil) rfl h
            exact hnew none .nil (by simp) rfl (.slnil _ (.inl rfl)) rfl k1 k2
          · exact h.elim
          · obtain ⟨k1, k2⟩ := hsplit (g0 := .zero) rfl h
            exact hnew none .zero (by simp) rfl (.slnil _ (.inr (.inr rfl))) rfl k1 k2
        | slz A g hg =>
          rcases hg with rfl | rfl
          · exact h.elim
          · obtain ⟨k1, k2⟩ := hsplit (g0 := .zero) rfl h
            exact hnew (some A) .zero (by simp) rfl (.slz A _ (.inr rfl)) rfl k1 k2
        | sl b i cap kq xs' hkq hcap hvs => exact h.elim
        | tip i cap gg xs' hkq hcap hgd he1 he2 hvs =>
          simp only at h
          split at h
          · rename_i k' hres
            split at h
            · rename_i hk'
              subst hk'
              by_cases hroom : xs.length + ys.length ≤ cap
              · refine room_ok hI hn hlt hall hres hkq he1 he2 hvs hroom f2 h (fun w' hst => hrunB ?_)
                exact run_append_room (P := P) (w := w) (ty := o.type) (s := a.eval y) (x := a.eval z) hu hd hdi hi hy (f3 w.drawn) (f1 w.drawn) hroom (fun b hb => by simp only [Option.some.injEq] at hb; subst hb; exact hst) (fun hb => by cases hb)
              · obtain ⟨q, cc, rest, pq, p1, p2, p3⟩ := run_append_grow (P := P) (w := w) (ty := o.type) (s := a.eval y) (x := a.eval z) (n := xs.length) (cap := cap) (m := ys.length) (ys := us) (os := us0) hu hd hdi hi hz2 hzs hy f3 f1 o1
                  (by omega) hb hbz
                refine grow_ok hI hn hlt (hI.r.del gg) rfl (k := ti.size) (xs := xs ++ ys) hall (us := us0 ++ us) (rest := rest) (t := e) (n := xs.length + ys.length) (c := cc) (q := q) (hq := pq) (by rw [List.flatMap_append]; exact o2.append f2) p1 (by simp) p2 h (hrunB p3)
            · exact h.elim
          · exact h.elim
      · exact h.elim
    · exact h.elim
  · exact h.elim

theorem srcOf_none {σ : St} {k : Nat} {x : AV} {ys : List AV} (h : srcOf ⟨0, fun _ => none⟩ k x = some ys) : srcOf σ k x = some ys := by
  cases x <;> first | exact h | (simp [srcOf] at h; done)

theorem lapp_le {CP : CallP} {c k bytes : Nat} {x x' : X} (h : astep CP nm ρ σ K (.lapp c k bytes x x')) : astep CP nm ρ σ K (.app k bytes .tip x x') := by
  simp only [astep] at h ⊢
  split at h
  · rename_i xs g hx
    try simp only [hx]
    split at h
    · split at h
      · rename_i ys hys
        rw [srcOf_none hys]
        simp only
        split at h
        · rename_i hc
          rw [if_pos hc]; exact h
        · exact h.elim
      · exact h.elim
    · exact h.elim
  · exact h.elim

theorem fzOk.less {m n : Nat} {fz : Nat × Nat} (h : fzOk n fz) (hm : m ≤ n) : fzOk m fz := h.imp id (fun hx => Nat.le_trans hm hx)

/-- a new row that is owned, and its room -/
theorem growr_ok (hI : Inv w0 F κ a w ρ σ) (hn : ¬ κ.dom nm) (hlt : nm < σ.next) {σ' : St} (hR : R w0.heap.size F κ w σ') (hnx : σ'.next = σ.next) {k : Nat} {cs : List AV} {us rest : List Value} {t : TypeId} {n c q : Nat}
    (hv : Vl κ w us cs) (hq : w.drawn ≤ q) (hle : n ≤ c) (hul : us.length = n * k) (hrl : rest.length = (c - n) * k) (hK : K (.refr nm k n) (σ'.set nm (.obj cs)))
    (hrun : (execOp a.eval o).run P w = .ok (.value (.slice (some ⟨w.heap.size, 0, none⟩) n c)) (({ w with drawn := q } : World).alloc (.cells ⟨us ++ rest⟩ t))) : Good P w0 F o a w κ σ nm K := by
  have e1 : Ext κ w κ { w with drawn := q } := ⟨fun _ _ x => x, fun _ _ => rfl, fun _ _ => rfl, fun _ _ => rfl, fun _ _ => rfl, fun _ x => x, fun _ _ _ => rfl⟩
  have hr1 : R w0.heap.size F κ { w with drawn := q } σ' := hR.step e1 hR.dom hR.imm (fun n r hr => .inl ⟨hr, rfl, fun _ x => x⟩)
  have hf1 : Fr F w0 { w with drawn := q } := hI.fr.drawn q hq
  have hv1 : Vl κ { w with drawn := q } us cs := hv.mono e1
  have htot : c * k = us.length + rest.length := by rw [hul, hrl, ← Nat.add_mul]; congr 1; omega
  obtain ⟨e, hr⟩ := hr1.new_objr hf1.size hn (by rw [hnx]; exact hlt) t rest (0, 0) (.inl rfl) hv1 (c * k) (Nat.le_of_eq htot) (.inl rfl)
  refine .value' (κ' := κ.mark nm w.heap.size 0 (c * k) 0) ⟨e1.trans e, fun n hd => hd.imp id .inl, hr, hf1.alloc _, by simp [hnx]⟩ hrun ?_ hK
  have := V.refr (κ := κ.mark nm w.heap.size 0 (c * k) 0) (w := (({ w with drawn := q } : World).alloc (.cells ⟨us ++ rest⟩ t))) nm k n c (.inr rfl) hle (by simp [Kx.mark])
  simpa [Kx.mark] using this

/-- the same row, longer, in its own room -/
theorem roomr_ok (hI : Inv w0 F κ a w ρ σ) (hn : ¬ κ.dom nm) (hlt : nm < σ.next) {h k len cap : Nat} {cs : List AV} {ys : List AV} (hk : ys.all (AV.fits k) = true) (hr : σ.res h = some (.obj cs)) (he : κ.χ h = cap * k) (hle : len * k ≤ cs.length)
    (hroom : len + ys.length ≤ cap) {us : List Value} (hv : Vl κ w us (ys.flatMap AV.cells))
    (hK : K (.refr nm k (len + ys.length)) ((σ.del h).set nm (.obj (cs.take (len * k) ++ ys.flatMap AV.cells))))
    (hrun : ∀ w', (storeCells ((⟨κ.φ h, 0, none⟩ : Addr).add (len * k)) us).run P w = .ok () w' → (execOp a.eval o).run P w = .ok (.value (.slice (some ⟨κ.φ h, 0, none⟩) (len + ys.length) cap)) w') : Good P w0 F o a w κ σ nm K := by
  obtain ⟨hdom, bs, rest, t, fz, g1, g2, g3, g4, g5, g6⟩ := hI.r.own h _ hr
  have hlen : us.length = ys.length * k := by rw [hv.length]; exact flat_len hk
  have hbl := g3.length
  have hone : ∀ u ∈ us, u.oneCell' = true := by
    refine hv.ones (List.all_eq_true.2 fun x hx => ?_)
    obtain ⟨y, hy, hxy⟩ := List.mem_flatMap.1 hx
    exact List.all_eq_true.1 (fits_iff (List.all_eq_true.1 hk y hy)).2.2 x hxy
  have hmul : (len + ys.length) * k ≤ cap * k := Nat.mul_le_mul_right _ hroom
  rw [Nat.add_mul] at hmul
  obtain ⟨w', r1, r2, r3⟩ := run_storeCells (P := P) (N := κ.χ h) us (len * k) w (bs ++ rest) g1 g6 (by omega) (by rw [List.length_append]; exact g5) hone (len * k) 0 rfl
  have hrr := hrun w' (by rw [add_spot, Nat.zero_add]; exact r1)
  have hsp : (bs ++ rest).take (len * k) ++ us ++ (bs ++ rest).drop (len * k + us.length) = (bs.take (len * k) ++ us) ++ (bs ++ rest).drop (len * k + us.length) := by
    rw [List.take_append_of_le_length (by omega)]
  rw [hsp] at r2
  have hblk : ∀ b, b ≠ κ.φ h → w'.heap[b]? = w.heap[b]? := r3.block
  have e1 : Ext κ w κ w' := ⟨fun _ _ x => x, fun _ _ => rfl, fun _ _ => rfl, fun _ _ => rfl, fun _ _ => rfl, fun _ x => x, fun b j hj => cell_same (r3.block b (fun hx => g4 j (hx ▸ hj))) j⟩
  let κ' : Kx := κ.mark nm (κ.φ h) 0 (κ.χ h) 0
  have e : Ext κ w κ' w' := e1.trans (.mark hn (fun _ _ _ => rfl))
  have hsz : (bs.take (len * k) ++ us).length = len * k + us.length := by rw [List.length_append, List.length_take]; omega
  have hR' : R w0.heap.size F κ' w' ((σ.del h).set nm (.obj (cs.take (len * k) ++ ys.flatMap AV.cells))) := by
    refine hI.r.step e (fun n hd => ?_) (fun b j hj => ?_) (fun n r hnr => ?_)
    · rcases hd with hd | rfl
      · exact hI.r.dom n hd
      · exact hlt
    · rw [r3.size]; exact hI.r.imm b j hj
    · by_cases hx : n = nm
      · subst hx
        simp only [St.set_same, Option.some.injEq] at hnr
        subst hnr
        refine .inr ⟨.inr rfl, ⟨_, _, t, fz, by simp only [κ', Kx.mark, if_true]; exact r2, ?_, ((g3.take (len * k)).append hv).mono e, fun j hj => ?_, ?_, by simpa [κ', Kx.mark] using g6⟩, ?_, fun m s hm hmm => ?_⟩
        · rw [hsz]; exact g6.less (by omega)
        · simp only [κ', Kx.mark, if_true] at hj; exact g4 j hj
        · simp only [κ', Kx.mark, if_true]
          rw [hsz, List.length_drop, List.length_append]; omega
        · simp only [κ', Kx.mark, if_true]; exact hI.r.foot h _ hr rfl
        · by_cases hy : m = n
          · exact hy.symm
          · rw [St.set_other _ _ hy] at hm
            obtain ⟨hmh, hm'⟩ := St.del_res σ hm
            simp only [κ', Kx.mark, if_true, hy, if_false] at hmm
            exact absurd (hI.r.apart _ _ _ _ hr hm' hmm).symm hmh
      · rw [St.set_other _ _ hx] at hnr
        obtain ⟨hnh, hnr'⟩ := St.del_res σ hnr
        have hne : κ.φ n ≠ κ.φ h := fun hy => hnh (hI.r.apart _ _ _ _ hnr' hr hy)
        exact .inl ⟨hnr', r3.block _ hne, fun j hj => hj⟩
  refine .value' (κ' := κ') ⟨e, fun n hd => hd.imp id .inl, hR', hI.fr.owned hI.r rfl hr r3.os r3.tape r3.output r3.size r3.block, Nat.le_refl _⟩ hrr ?_ hK
  have := V.refr (κ := κ') (w := w') nm k (len + ys.length) cap (.inr rfl) hroom (by simpa [κ', Kx.mark] using he)
  simpa [κ', Kx.mark] using this

theorem ok_appR (hI : Inv w0 F κ a w ρ σ) (hn : ¬ κ.dom nm) (hlt : nm < σ.next) {c : Call} {y z : Operand} {x x' : X} {t u e : TypeId} {ti : TypeInfo} {d : TypeDesc} (hop : o.op = .call c) (hc : c.callee = .builtin .append)
    (ha : c.args.toList = [y, z]) (ht : c.argTypes.toList = [t, u]) (hu : P.underlying t = some (.slice e)) (hd : P.underlying u = some d) (hdi : ∀ k, d ≠ .int k) (hi : P.info? e = some ti) (hbz : 0 < ti.bytes) (hzl : zlen P e = some ti.size)
    (hx : opX y = some x) (hx' : opX z = some x') (h : astep (ACalls P) nm ρ σ K (.appR ti.size ti.bytes x x')) : Good P w0 F o a w κ σ nm K := by
  have v1 := hI.opX hx
  have v2 := hI.opX hx'
  obtain ⟨zz, hzz, hzl'⟩ : ∃ zz, zeroOf P e = some zz ∧ zz.cells.length = ti.size := by
    unfold zlen at hzl; rw [Option.map_eq_some_iff] at hzl; exact hzl
  obtain ⟨ti', zv, hi', hz2, hz3⟩ := zeroOf_ok hzz
  rw [hi] at hi'; simp only [Option.some.injEq] at hi'; subst hi'
  have hzs : zv.cells.size = ti.size := by
    have := ((constV_ok (κ := κ) (w := w) hz3).cells (constV_ne hz3)).length
    rw [hzl'] at this; simpa using this
  have hrunB : ∀ {v : Value} {w' : World}, (Builtin.append_ ⟨[t, u]⟩ o.type ⟨[a.eval y, a.eval z]⟩).run P w = .ok v w' → (execOp a.eval o).run P w = .ok (.value v) w' := by
    intro v w' hr
    refine call_builtin hop hc ha ht (fun cs => ?_)
    simp only [builtin, List.map_cons, List.map_nil, Sem.run_bind, hr, Result.andThen_ok, Sem.run_pure]
  simp only [astep] at h
  split at h
  · rename_i ys hys
    split at h
    · rename_i g hsx
      split at h
      · rename_i hcond
        obtain ⟨hg, hall, hb, hsm⟩ := hcond
        obtain ⟨us, f1, f2, f3⟩ := srcR_ok (P := P) hI.r v2 hys (all_cl hall)
        rw [hsx] at v1
        obtain ⟨A, e1⟩ : ∃ A, a.eval y = .slice A 0 0 := by
          generalize a.eval y = vy at v1
          cases v1 with
          | slnil g hg => exact ⟨none, rfl⟩
          | slz a g hg => exact ⟨some a, rfl⟩
          | sl b i cap kq xs' hkq hcap hvs => simp [Ver.noRoom] at hg
          | tip i cap gg xs' hkq hcap hgd he1 he2 hvs => simp [Ver.noRoom] at hg
        by_cases hye : ys = []
        · subst hye
          have hus : us = [] := by have := f2.length; simpa using this
          subst hus
          simp only [List.isEmpty_nil, if_true] at h
          have hr := run_append_room (P := P) (w := w) (ty := o.type) (s := a.eval y) (x := a.eval z) (base := A) (n := 0) (cap := 0) (m := 0) (ys := []) (w' := w) hu hd hdi hi e1 (f3 w.drawn) (f1 w.drawn) (Nat.le_refl _) (fun b _ => by simp [storeCells]) (fun _ => rfl)
          exact .value hI (hrunB hr) (by rw [e1] at v1; exact v1) h
        · have hemp : ys.isEmpty = false := by cases ys <;> simp_all
          have hpos : 0 < ys.length := by cases ys <;> simp_all
          simp only [hemp, Bool.false_eq_true, if_false] at h
          obtain ⟨q, cc, rest, pq, p1, p2, p3⟩ := run_append_grow (P := P) (w := w) (ty := o.type) (s := a.eval y) (x := a.eval z) (base := A) (n := 0) (cap := 0) (m := ys.length) (ys := us) (os := []) hu hd hdi hi hz2 hzs e1 f3 f1
            (fun q => by
              rw [e1]
              cases A with
              | none => simp [Builtin.firstCells]
              | some a0 =>
                have hr := run_loadCells_list (P := P) (w := { w with drawn := q }) a0 [] (fun j v hj => by simp at hj)
                simp at hr
                simp [Builtin.firstCells, hr]) (by omega) (by simpa using hb) hbz
          rw [Nat.zero_add] at p1 p2 p3
          refine growr_ok hI hn hlt hI.r rfl (k := ti.size) (cs := ys.flatMap AV.cells) (us := us) (rest := rest) (t := e) (n := ys.length) (c := cc) (q := q) f2 pq p1 (by rw [f2.length]; exact flat_len hall) p2 h (hrunB ?_)
          simpa using p3
      · exact h.elim
    · rename_i n k' len hsx
      split at h
      · rename_i cs hr
        split at h
        · rename_i hcond
          obtain ⟨rfl, hall, hlk, hb, hsm⟩ := hcond
          obtain ⟨us, f1, f2, f3⟩ := srcR_ok (P := P) hI.r v2 hys (all_cl hall)
          rw [hsx] at v1
          obtain ⟨cap, e1, hcap, hdn, hxn⟩ := v1.refr_inv
          by_cases hroom : len + ys.length ≤ cap
          · refine roomr_ok hI hn hlt hall hr hxn hlk hroom f2 h (fun w' hst => hrunB ?_)
            exact run_append_room (P := P) (w := w) (ty := o.type) (s := a.eval y) (x := a.eval z) hu hd hdi hi e1 (f3 w.drawn) (f1 w.drawn) hroom (fun b hb => by simp only [Option.some.injEq] at hb; subst hb; exact hst) (fun hb => by cases hb)
          · obtain ⟨os, q1, q2⟩ := Row.of_own (hI.r.own n _ hr).2
            have hol := q1.length
            obtain ⟨q, cc, rest, pq, p1, p2, p3⟩ := run_append_grow (P := P) (w := w) (ty := o.type) (s := a.eval y) (x := a.eval z) (n := len) (cap := cap) (m := ys.length) (ys := us) (os := os.take (len * ti.size)) hu hd hdi hi hz2 hzs e1 f3 f1
              (fun q => by
                have hrr := run_loadCells_list (P := P) (w := { w with drawn := q }) ⟨κ.φ n, 0, none⟩ (os.take (len * ti.size)) (fun j v hj => by
                  rw [add_spot]
                  exact q2 j v (by
                    rw [List.getElem?_take] at hj
                    split at hj
                    · exact hj
                    · cases hj))
                rw [List.length_take, hol, Nat.min_eq_left hlk] at hrr
                rw [e1]
                simpa [Builtin.firstCells] using hrr) (by omega) hb hbz
            refine growr_ok hI hn hlt (hI.r.del n) rfl (k := ti.size) (cs := cs.take (len * ti.size) ++ ys.flatMap AV.cells) (us := os.take (len * ti.size) ++ us) (rest := rest) (t := e) (n := len + ys.length) (c := cc) (q := q) ((q1.take _).append f2) pq p1 ?_ p2 h (hrunB p3)
            rw [List.length_append, List.length_take, hol, Nat.min_eq_left hlk, f2.length, flat_len hall, Nat.add_mul]
        · exact h.elim
      · exact h.elim
    · exact h.elim
  · exact h.elim

end

end Go.VL
