/- The value logic, part A: abstract values, what they stand for in a memory, and how that is kept. -/
import Derived.Below
import Derived.Orders
import Derived.Laws.World
namespace Go.VL

/-- What is known of the place behind a slice: nothing; it is the nil slice; there is no room at all; it is named. -/
inductive Ver where
  | none
  | nil
  | zero
  | tip (g : Nat)

/-- Abstract values. -/
inductive AV where
  | any
  | bool (b : Bool)
  | int (k : IntKind) (n : Int)
  | str (s : ByteArray)
  | nilp
  | nilm
  | nilf
  | nili
  | ptr (n off : Nat)
  | eptr (cs : List AV)
  | sl (xs : List AV) (g : Ver)
  | ref (n off len : Nat)
  | room (g n : Nat)
  | map (n : Nat)
  | func (f : Nat) (first captured : List AV)
  | iface (t : Nat) (x : AV)
  | agg (cs : List AV)
  | tup (xs : List AV)

instance : Inhabited AV := ⟨.any⟩

def AV.cells : AV → List AV
  | .agg cs => cs
  | x => [x]

/-- What names stand for: which cells never change; a name's block; of a named end: where it is, where the room ends, an element's size. -/
structure Kx where
  I : Nat → Nat → Prop
  φ : Nat → Nat
  ψ : Nat → Nat
  χ : Nat → Nat
  ξ : Nat → Nat
  dom : Nat → Prop

mutual
inductive V (κ : Kx) (w : World) : Value → AV → Prop where
  | any (v : Value) : V κ w v .any
  | bool (b : Bool) : V κ w (.bool b) (.bool b)
  | int (k : IntKind) (n : Int) : V κ w (.int k n) (.int k n)
  | str (s : ByteArray) : V κ w (.string s) (.str s)
  | nilp : V κ w (.pointer none) .nilp
  | nilm : V κ w (.map none) .nilm
  | nilf : V κ w .nilFunc .nilf
  | nili : V κ w .nilIface .nili
  | ptr (n off : Nat) (h : κ.dom n) : V κ w (.pointer (some ⟨κ.φ n, off, none⟩)) (.ptr n off)
  | eptr (b o : Nat) (cs : List AV) (h : Vs κ w b o cs) : V κ w (.pointer (some ⟨b, o, none⟩)) (.eptr cs)
  | slnil (g : Ver) (hg : g = .nil ∨ g = .none ∨ g = .zero) : V κ w (.slice none 0 0) (.sl [] g)
  | slz (a : Addr) (g : Ver) (hg : g = .none ∨ g = .zero) : V κ w (.slice (some a) 0 0) (.sl [] g)
  | sl (b o cap k : Nat) (xs : List AV) (hk : ∀ x ∈ xs, x.cells.length = k) (hc : xs.length ≤ cap) (h : Vs κ w b o (xs.flatMap AV.cells)) :
      V κ w (.slice (some ⟨b, o, none⟩) xs.length cap) (.sl xs .none)
  | tip (o cap g : Nat) (xs : List AV) (hk : ∀ x ∈ xs, x.cells.length = κ.ξ g) (hc : xs.length ≤ cap) (hg : κ.dom g)
      (he : κ.ψ g = o + xs.length * κ.ξ g) (hr : κ.χ g = o + cap * κ.ξ g) (h : Vs κ w (κ.φ g) o (xs.flatMap AV.cells)) :
      V κ w (.slice (some ⟨κ.φ g, o, none⟩) xs.length cap) (.sl xs (.tip g))
  | ref (n off len cap : Nat) (h : κ.dom n) (hc : len ≤ cap) : V κ w (.slice (some ⟨κ.φ n, off, none⟩) len cap) (.ref n off len)
  | room (o cap g n : Nat) (hg : κ.dom g) (hc : n ≤ cap) (he : κ.ψ g = o) (hr : κ.χ g = o + cap * κ.ξ g) : V κ w (.slice (some ⟨κ.φ g, o, none⟩) n cap) (.room g n)
  | map (n : Nat) (h : κ.dom n) : V κ w (.map (some (κ.φ n))) (.map n)
  | func (f : Nat) (a b : List Value) (x y : List AV) (h1 : Vl κ w a x) (h2 : Vl κ w b y) : V κ w (.func (.func f) ⟨a⟩ ⟨b⟩) (.func f x y)
  | iface (t : Nat) (v : Value) (x : AV) (h : V κ w v x) : V κ w (.iface t v) (.iface t x)
  | agg (a : List Value) (x : List AV) (h : Vl κ w a x) : V κ w (.agg ⟨a⟩) (.agg x)
  | tup (a : List Value) (x : List AV) (h : Vl κ w a x) : V κ w (.tuple ⟨a⟩) (.tup x)
inductive Vs (κ : Kx) (w : World) : Nat → Nat → List AV → Prop where
  | nil (b o : Nat) : Vs κ w b o []
  | cons (b o : Nat) (u : Value) (x : AV) (xs : List AV) (hI : κ.I b o) (hc : w.cell? ⟨b, o, none⟩ = some u) (hu : V κ w u x) (ht : Vs κ w b (o + 1) xs) :
      Vs κ w b o (x :: xs)
inductive Vl (κ : Kx) (w : World) : List Value → List AV → Prop where
  | nil : Vl κ w [] []
  | cons (v : Value) (x : AV) (vs : List Value) (xs : List AV) (h : V κ w v x) (t : Vl κ w vs xs) : Vl κ w (v :: vs) (x :: xs)
end

/-- What was known stays known. -/
structure Ext (κ : Kx) (w : World) (κ' : Kx) (w' : World) : Prop where
  I : ∀ b o, κ.I b o → κ'.I b o
  φ : ∀ n, κ.dom n → κ'.φ n = κ.φ n
  ψ : ∀ n, κ.dom n → κ'.ψ n = κ.ψ n
  χ : ∀ n, κ.dom n → κ'.χ n = κ.χ n
  ξ : ∀ n, κ.dom n → κ'.ξ n = κ.ξ n
  dom : ∀ n, κ.dom n → κ'.dom n
  cell : ∀ b o, κ.I b o → w'.cell? ⟨b, o, none⟩ = w.cell? ⟨b, o, none⟩

theorem Ext.refl (κ : Kx) (w : World) : Ext κ w κ w := ⟨fun _ _ h => h, fun _ _ => rfl, fun _ _ => rfl, fun _ _ => rfl, fun _ _ => rfl, fun _ h => h, fun _ _ _ => rfl⟩

theorem Ext.trans {κ κ1 κ2 : Kx} {w w1 w2 : World} (h : Ext κ w κ1 w1) (k : Ext κ1 w1 κ2 w2) : Ext κ w κ2 w2 where
  I := fun b o hi => k.I b o (h.I b o hi)
  φ := fun n hn => (k.φ n (h.dom n hn)).trans (h.φ n hn)
  ψ := fun n hn => (k.ψ n (h.dom n hn)).trans (h.ψ n hn)
  χ := fun n hn => (k.χ n (h.dom n hn)).trans (h.χ n hn)
  ξ := fun n hn => (k.ξ n (h.dom n hn)).trans (h.ξ n hn)
  dom := fun n hn => k.dom n (h.dom n hn)
  cell := fun b o hi => (k.cell b o (h.I b o hi)).trans (h.cell b o hi)

mutual
theorem V.mono {κ κ' : Kx} {w w' : World} (e : Ext κ w κ' w') : ∀ {v : Value} {x : AV}, V κ w v x → V κ' w' v x
  | _, _, .any v => .any v
  | _, _, .bool b => .bool b
  | _, _, .int k n => .int k n
  | _, _, .str s => .str s
  | _, _, .nilp => .nilp
  | _, _, .nilm => .nilm
  | _, _, .nilf => .nilf
  | _, _, .nili => .nili
  | _, _, .ptr n off h => by rw [← e.φ n h]; exact .ptr n off (e.dom _ h)
  | _, _, .eptr b o cs h => .eptr b o cs (Vs.mono e h)
  | _, _, .slnil g hg => .slnil g hg
  | _, _, .slz a g hg => .slz a g hg
  | _, _, .sl b o cap k xs hk hc h => .sl b o cap k xs hk hc (Vs.mono e h)
  | _, _, .tip o cap g xs hk hc hg he hr h => by
    have hx := Vs.mono e h
    rw [← e.φ g hg] at hx ⊢
    exact .tip o cap g xs (by rw [e.ξ g hg]; exact hk) hc (e.dom _ hg) (by rw [e.ψ g hg, e.ξ g hg]; exact he) (by rw [e.χ g hg, e.ξ g hg]; exact hr) hx
  | _, _, .ref n off len cap h hc => by rw [← e.φ n h]; exact .ref n off len cap (e.dom _ h) hc
  | _, _, .room o cap g n hg hc he hr => by
    rw [← e.φ g hg]
    exact .room o cap g n (e.dom _ hg) hc (by rw [e.ψ g hg]; exact he) (by rw [e.χ g hg, e.ξ g hg]; exact hr)
  | _, _, .map n h => by rw [← e.φ n h]; exact .map n (e.dom _ h)
  | _, _, .func f a b x y h1 h2 => .func f a b x y (Vl.mono e h1) (Vl.mono e h2)
  | _, _, .iface t v x h => .iface t v x (V.mono e h)
  | _, _, .agg a x h => .agg a x (Vl.mono e h)
  | _, _, .tup a x h => .tup a x (Vl.mono e h)
theorem Vs.mono {κ κ' : Kx} {w w' : World} (e : Ext κ w κ' w') : ∀ {b o : Nat} {xs : List AV}, Vs κ w b o xs → Vs κ' w' b o xs
  | _, _, _, .nil b o => .nil b o
  | _, _, _, .cons b o u x xs hI hc hu ht => .cons b o u x xs (e.I b o hI) ((e.cell b o hI).trans hc) (V.mono e hu) (Vs.mono e ht)
theorem Vl.mono {κ κ' : Kx} {w w' : World} (e : Ext κ w κ' w') : ∀ {vs : List Value} {xs : List AV}, Vl κ w vs xs → Vl κ' w' vs xs
  | _, _, .nil => .nil
  | _, _, .cons v x vs xs h t => .cons v x vs xs (V.mono e h) (Vl.mono e t)
end

theorem Vl.length {κ : Kx} {w : World} : ∀ {vs : List Value} {xs : List AV}, Vl κ w vs xs → vs.length = xs.length
  | _, _, .nil => rfl
  | _, _, .cons _ _ _ _ _ t => by simp [t.length]
theorem Vl.get {κ : Kx} {w : World} : ∀ {vs : List Value} {xs : List AV} (_ : Vl κ w vs xs) (i : Nat), V κ w (vs.getD i undef) (xs.getD i .any)
  | _, _, .nil, i => by simp; exact .any _
  | _, _, .cons v x vs xs h t, 0 => by simpa using h
  | _, _, .cons v x vs xs h t, i + 1 => by simpa using Vl.get t i
theorem Vl.get? {κ : Kx} {w : World} : ∀ {vs : List Value} {xs : List AV} (_ : Vl κ w vs xs) (i : Nat) (x : AV), xs[i]? = some x → ∃ v, vs[i]? = some v ∧ V κ w v x
  | _, _, .nil, i, x, h => by simp at h
  | _, _, .cons v y vs xs hy t, 0, x, h => by simp at h; subst h; exact ⟨v, rfl, hy⟩
  | _, _, .cons v y vs xs hy t, i + 1, x, h => by simpa using Vl.get? t i x (by simpa using h)
theorem Vl.append {κ : Kx} {w : World} : ∀ {vs us : List Value} {xs ys : List AV}, Vl κ w vs xs → Vl κ w us ys → Vl κ w (vs ++ us) (xs ++ ys)
  | _, _, _, _, .nil, k => by simpa using k
  | _, _, _, _, .cons v x vs xs h t, k => by simpa using Vl.cons v x _ _ h (Vl.append t k)
theorem Vl.set {κ : Kx} {w : World} : ∀ {vs : List Value} {xs : List AV} (_ : Vl κ w vs xs) (i : Nat) {v : Value} {x : AV}, V κ w v x → Vl κ w (vs.set i v) (xs.set i x)
  | _, _, .nil, i, _, _, _ => by simpa using Vl.nil
  | _, _, .cons v y vs xs hy t, 0, _, _, k => by simpa using Vl.cons _ _ _ _ k t
  | _, _, .cons v y vs xs hy t, i + 1, _, _, k => by simpa using Vl.cons _ _ _ _ hy (Vl.set t i k)
theorem Vl.take {κ : Kx} {w : World} : ∀ {vs : List Value} {xs : List AV} (_ : Vl κ w vs xs) (i : Nat), Vl κ w (vs.take i) (xs.take i)
  | _, _, _, 0 => by simpa using Vl.nil
  | _, _, .nil, i + 1 => by simpa using Vl.nil
  | _, _, .cons v y vs xs hy t, i + 1 => by simpa using Vl.cons _ _ _ _ hy (Vl.take t i)
theorem Vl.drop {κ : Kx} {w : World} : ∀ {vs : List Value} {xs : List AV} (_ : Vl κ w vs xs) (i : Nat), Vl κ w (vs.drop i) (xs.drop i)
  | _, _, h, 0 => by simpa using h
  | _, _, .nil, i + 1 => by simpa using Vl.nil
  | _, _, .cons v y vs xs hy t, i + 1 => by simpa using Vl.drop t i
theorem Vl.anys {κ : Kx} {w : World} : ∀ (vs : List Value), Vl κ w vs (List.replicate vs.length .any)
  | [] => .nil
  | v :: vs => .cons v .any vs _ (.any v) (Vl.anys vs)

theorem Vs.append {κ : Kx} {w : World} : ∀ {b o : Nat} {xs ys : List AV}, Vs κ w b o xs → Vs κ w b (o + xs.length) ys → Vs κ w b o (xs ++ ys)
  | _, _, _, _, .nil b o, k => by simpa using k
  | _, _, _, _, .cons b o u x xs hI hc hu ht, k => .cons b o u x _ hI hc hu (Vs.append ht (by simpa [Nat.add_assoc, Nat.add_comm 1] using k))
theorem Vs.left {κ : Kx} {w : World} : ∀ {b o : Nat} (xs : List AV) {ys : List AV}, Vs κ w b o (xs ++ ys) → Vs κ w b o xs
  | b, o, [], _, _ => .nil b o
  | _, _, x :: xs, _, .cons b o u _ _ hI hc hu ht => .cons b o u x xs hI hc hu (Vs.left xs ht)
theorem Vs.right {κ : Kx} {w : World} : ∀ {b o : Nat} (xs : List AV) {ys : List AV}, Vs κ w b o (xs ++ ys) → Vs κ w b (o + xs.length) ys
  | _, _, [], _, h => by simpa using h
  | _, _, x :: xs, ys, .cons b o u _ _ hI hc hu ht => by
    have := Vs.right xs ht
    simpa [Nat.add_assoc, Nat.add_comm 1] using this
theorem Vs.drop {κ : Kx} {w : World} {b o : Nat} {xs : List AV} (h : Vs κ w b o xs) (i : Nat) (hi : i ≤ xs.length) : Vs κ w b (o + i) (xs.drop i) := by
  have h' : Vs κ w b o (xs.take i ++ xs.drop i) := by rwa [List.take_append_drop]
  have := Vs.right _ h'
  rwa [List.length_take, Nat.min_eq_left hi] at this
/-- a cell of a row -/
theorem Vs.cell {κ : Kx} {w : World} : ∀ {b o : Nat} {xs : List AV} (_ : Vs κ w b o xs) (i : Nat) (x : AV), xs[i]? = some x → ∃ u, w.cell? ⟨b, o + i, none⟩ = some u ∧ V κ w u x
  | _, _, _, .nil b o, i, x, h => by simp at h
  | _, _, _, .cons b o u y xs hI hc hu ht, 0, x, h => by simp at h; subst h; exact ⟨u, hc, hu⟩
  | _, _, _, .cons b o u y xs hI hc hu ht, i + 1, x, h => by
    obtain ⟨u', h1, h2⟩ := Vs.cell ht i x (by simpa using h)
    exact ⟨u', by rw [← h1]; congr 2; omega, h2⟩
/-- the cells of a row, as a list -/
theorem Vs.row {κ : Kx} {w : World} : ∀ {b o : Nat} {xs : List AV}, Vs κ w b o xs → ∃ us : List Value, Vl κ w us xs ∧ us.length = xs.length ∧ ∀ i u, us[i]? = some u → w.cell? ⟨b, o + i, none⟩ = some u
  | _, _, _, .nil b o => ⟨[], .nil, rfl, fun i u h => by simp at h⟩
  | _, _, _, .cons b o u y xs hI hc hu ht => by
    obtain ⟨us, h1, h2, h3⟩ := Vs.row ht
    refine ⟨u :: us, .cons _ _ _ _ hu h1, by simp [h2], fun i v h => ?_⟩
    cases i with
    | zero => simp at h; subst h; exact hc
    | succ i => rw [← h3 i v (by simpa using h)]; congr 2; omega
/-- a row, out of cells that never change -/
theorem Vs.mk {κ : Kx} {w : World} : ∀ {b o : Nat} {us : List Value} {xs : List AV}, Vl κ w us xs → (∀ i u, us[i]? = some u → κ.I b (o + i) ∧ w.cell? ⟨b, o + i, none⟩ = some u) → Vs κ w b o xs
  | b, o, _, _, .nil, _ => .nil b o
  | b, o, _, _, .cons v x vs xs h t, hc => by
    have h0 := hc 0 v (by simp)
    exact .cons b o v x xs h0.1 h0.2 h (Vs.mk t (fun i u hi => by
      have := hc (i + 1) u (by simpa using hi)
      rwa [show o + (i + 1) = o + 1 + i by omega] at this))

/-- a value's cells -/
theorem V.cells {κ : Kx} {w : World} {v : Value} {x : AV} (h : V κ w v x) (hx : x ≠ .any) : Vl κ w v.cells.toList x.cells := by
  cases h <;> first
    | exact absurd rfl hx
    | (rename_i h; exact h)
    | exact .cons _ _ _ _ (by constructor <;> assumption) .nil

theorem V.weak {κ : Kx} {w : World} {v : Value} {xs : List AV} {g : Ver} (h : V κ w v (.sl xs g)) : V κ w v (.sl xs .none) := by
  cases h with
  | slnil g hg => exact .slnil _ (.inr (.inl rfl))
  | slz a => exact .slz a _ (.inl rfl)
  | sl b o cap k xs hk hc h => exact .sl b o cap k xs hk hc h
  | tip o cap g xs hk hc hg he hr h => exact .sl _ o cap _ xs hk hc h

end Go.VL
