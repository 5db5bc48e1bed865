/- Texts put together, of these what the theorem needs: The value logic, part R: ghost steps, and from a function's body to a call of it. The value logic, part S: walking. The value logic, part X: code that is run at given values (the kernel reckons it). The value logic, part T: what an argument's reading is, over values; and a law's frame. The value logic, part U: a law that returns true, whatever its arguments: the contract of its row. The compiled code of functions of this seat. MADE BY PROGRAM (mkc.py). Contracts: small things. Contracts: numbers as bytes. PLAIN LAW: a checksum by a table is the checksum bit by bit. Contracts: the checksum by a table. Contracts: sealing. Contracts: sealed bytes opened. Contracts: readers. A reader is an owned row of three: bytes, how far, where amiss. Contracts: small things that are used often; an error's number. Contracts: readers, told as functions. States that are alike but for new names; a named end among them; arithmetic of words. The compiled code of functions of this seat. MADE BY PROGRAM (mkc.py). Contracts: spans and traces that are few; what may be. Contracts: pages that are few; comparing. Contracts: canonical traces. Contracts: lists of canonical traces; rows put together. The plain law of gathering: what is gathered of spans of one trace is they themselves just if they stand in order, and no Id is there twice. -/
import Derived.Test.YtmbbeldgfhnkbaaKTraceGathers2
import Derived.Test.YtmbbeldgfhnkbaaChecked

set_option linter.unusedSimpArgs false
set_option linter.unusedVariables false

namespace Go.VL

/-! ### Names in values -/

def Ver.nb (m : Nat) : Ver → Prop
  | .tip h => h < m
  | _ => True

mutual
def AV.nb (m : Nat) : AV → Prop
  | .any | .bool _ | .int _ _ | .str _ | .nilp | .nilm | .nilf | .nili => True
  | .ptr n _ => n < m
  | .eptr cs => nbs m cs
  | .sl xs g => nbs m xs ∧ g.nb m
  | .ref n _ _ => n < m
  | .refr n _ _ => n < m
  | .room g _ => g < m
  | .map n => n < m
  | .func _ a b => nbs m a ∧ nbs m b
  | .iface _ x => x.nb m
  | .agg cs => nbs m cs
  | .tup xs => nbs m xs
def nbs (m : Nat) : List AV → Prop
  | [] => True
  | x :: r => x.nb m ∧ nbs m r
end

theorem nbs_iff {m : Nat} : ∀ {xs : List AV}, nbs m xs ↔ ∀ x ∈ xs, x.nb m
  | [] => by simp [nbs]
  | x :: r => by simp [nbs, nbs_iff (xs := r)]

theorem nb_cells {m : Nat} (x : AV) : nbs m x.cells ↔ x.nb m := by
  cases x <;> simp [AV.cells, nbs, AV.nb]

theorem nbs_flat {m : Nat} : ∀ {xs : List AV}, nbs m (xs.flatMap AV.cells) ↔ nbs m xs
  | [] => by simp [nbs]
  | x :: r => by
    have := nbs_flat (m := m) (xs := r)
    simp only [nbs_iff] at this ⊢
    simp only [List.flatMap_cons, List.mem_append, List.mem_cons]
    constructor
    · intro h y hy
      rcases hy with rfl | hy
      · exact (nb_cells y).1 (nbs_iff.2 fun z hz => h z (.inl hz))
      · exact this.1 (fun z hz => h z (.inr hz)) y hy
    · intro h y hy
      rcases hy with hy | hy
      · exact nbs_iff.1 ((nb_cells x).2 (h x (.inl rfl))) y hy
      · exact this.2 (fun z hz => h z (.inr hz)) y hy

mutual
theorem V.nb {κ : Kx} {w : World} {m : Nat} (hd : ∀ n, κ.dom n → n < m) : ∀ {v : Value} {x : AV}, V κ w v x → x.nb m
  | _, _, .any _ | _, _, .bool _ | _, _, .int _ _ | _, _, .str _ | _, _, .nilp | _, _, .nilm | _, _, .nilf | _, _, .nili => by simp [AV.nb]
  | _, _, .ptr n off h => by simpa [AV.nb] using hd n h
  | _, _, .eptr b o cs h => by simpa [AV.nb] using Vs.nb hd h
  | _, _, .slnil g hg => by rcases hg with rfl | rfl | rfl <;> simp [AV.nb, nbs, Ver.nb]
  | _, _, .slz a g hg => by rcases hg with rfl | rfl <;> simp [AV.nb, nbs, Ver.nb]
  | _, _, .sl b o cap k xs hk hc h => by simpa [AV.nb, Ver.nb] using nbs_flat.1 (Vs.nb hd h)
  | _, _, .tip o cap g xs hk hc hg he hr h => by simpa [AV.nb, Ver.nb] using ⟨nbs_flat.1 (Vs.nb hd h), hd g hg⟩
  | _, _, .ref n off len cap h hc => by simpa [AV.nb] using hd n h
  | _, _, .refr n k len cap h hc hr => by simpa [AV.nb] using hd n h
  | _, _, .room o cap g n hg hc he hr => by simpa [AV.nb] using hd g hg
  | _, _, .map n h => by simpa [AV.nb] using hd n h
  | _, _, .func f a b x y h1 h2 => by simpa [AV.nb] using ⟨Vl.nb hd h1, Vl.nb hd h2⟩
  | _, _, .iface t v x h => by simpa [AV.nb] using V.nb hd h
  | _, _, .agg a x h => by simpa [AV.nb] using Vl.nb hd h
  | _, _, .tup a x h => by simpa [AV.nb] using Vl.nb hd h
theorem Vs.nb {κ : Kx} {w : World} {m : Nat} (hd : ∀ n, κ.dom n → n < m) : ∀ {b o : Nat} {xs : List AV}, Vs κ w b o xs → nbs m xs
  | _, _, _, .nil b o => by simp [nbs]
  | _, _, _, .cons b o u x xs hI hc hu ht => by simpa [nbs] using ⟨V.nb hd hu, Vs.nb hd ht⟩
theorem Vl.nb {κ : Kx} {w : World} {m : Nat} (hd : ∀ n, κ.dom n → n < m) : ∀ {vs : List Value} {xs : List AV}, Vl κ w vs xs → nbs m xs
  | _, _, .nil => by simp [nbs]
  | _, _, .cons v x vs xs h t => by simpa [nbs] using ⟨V.nb hd h, Vl.nb hd t⟩
end

def Kx.cut (κ : Kx) (m : Nat) : Kx := { κ with dom := fun n => κ.dom n ∧ n < m }

mutual
theorem V.cut {κ : Kx} {w : World} {m : Nat} : ∀ {v : Value} {x : AV}, V κ w v x → x.nb m → V (κ.cut m) w v x
  | _, _, .any _, _ => .any _
  | _, _, .bool _, _ => .bool _
  | _, _, .int _ _, _ => .int _ _
  | _, _, .str _, _ => .str _
  | _, _, .nilp, _ => .nilp
  | _, _, .nilm, _ => .nilm
  | _, _, .nilf, _ => .nilf
  | _, _, .nili, _ => .nili
  | _, _, .ptr n off h, hb => V.ptr (κ := κ.cut m) n off ⟨h, by simpa [AV.nb] using hb⟩
  | _, _, .eptr b o cs h, hb => .eptr b o cs (Vs.cut h (by simpa [AV.nb] using hb))
  | _, _, .slnil g hg, _ => .slnil g hg
  | _, _, .slz a g hg, _ => .slz a g hg
  | _, _, .sl b o cap k xs hk hc h, hb => .sl b o cap k xs hk hc (Vs.cut h (nbs_flat.2 (by simp only [AV.nb] at hb; exact hb.1)))
  | _, _, .tip o cap g xs hk hc hg he hr h, hb => V.tip (κ := κ.cut m) o cap g xs hk hc ⟨hg, by simp only [AV.nb, Ver.nb] at hb; exact hb.2⟩ he hr (Vs.cut h (nbs_flat.2 (by simp only [AV.nb] at hb; exact hb.1)))
  | _, _, .ref n off len cap h hc, hb => V.ref (κ := κ.cut m) n off len cap ⟨h, by simpa [AV.nb] using hb⟩ hc
  | _, _, .refr n k len cap h hc hr, hb => V.refr (κ := κ.cut m) n k len cap ⟨h, by simpa [AV.nb] using hb⟩ hc hr
  | _, _, .room o cap g n hg hc he hr, hb => V.room (κ := κ.cut m) o cap g n ⟨hg, by simpa [AV.nb] using hb⟩ hc he hr
  | _, _, .map n h, hb => V.map (κ := κ.cut m) n ⟨h, by simpa [AV.nb] using hb⟩
  | _, _, .func f a b x y h1 h2, hb => .func f a b x y (Vl.cut h1 (by simp only [AV.nb] at hb; exact hb.1)) (Vl.cut h2 (by simp only [AV.nb] at hb; exact hb.2))
  | _, _, .iface t v x h, hb => .iface t v x (V.cut h (by simpa [AV.nb] using hb))
  | _, _, .agg a x h, hb => .agg a x (Vl.cut h (by simpa [AV.nb] using hb))
  | _, _, .tup a x h, hb => .tup a x (Vl.cut h (by simpa [AV.nb] using hb))
theorem Vs.cut {κ : Kx} {w : World} {m : Nat} : ∀ {b o : Nat} {xs : List AV}, Vs κ w b o xs → nbs m xs → Vs (κ.cut m) w b o xs
  | _, _, _, .nil b o, _ => .nil b o
  | _, _, _, .cons b o u x xs hI hc hu ht, hb => .cons b o u x xs hI hc (V.cut hu (by simp only [nbs] at hb; exact hb.1)) (Vs.cut ht (by simp only [nbs] at hb; exact hb.2))
theorem Vl.cut {κ : Kx} {w : World} {m : Nat} : ∀ {vs : List Value} {xs : List AV}, Vl κ w vs xs → nbs m xs → Vl (κ.cut m) w vs xs
  | _, _, .nil, _ => .nil
  | _, _, .cons v x vs xs h t, hb => .cons v x vs xs (V.cut h (by simp only [nbs] at hb; exact hb.1)) (Vl.cut t (by simp only [nbs] at hb; exact hb.2))
end

def enb (m : Nat) : List (AV × AV) → Prop
  | [] => True
  | e :: r => (e.1.nb m ∧ e.2.nb m) ∧ enb m r

def Res.nb (m : Nat) : Res → Prop
  | .obj cs => nbs m cs
  | .tip _ => True
  | .map es _ _ => enb m es
  | .iter n _ _ _ => ∀ n', n = some n' → n' < m
  | .siter _ _ => True
  | .glob _ _ => True

theorem Vm.cut {κ : Kx} {w : World} {m : Nat} : ∀ {es : List MapEntry} {ps : List (AV × AV)}, Vm κ w es ps → enb m ps → Vm (κ.cut m) w es ps
  | _, _, .nil, _ => .nil
  | _, _, .cons e p es ps hk hv t, hb => .cons e p es ps (hk.cut hb.1.1) (hv.cut hb.1.2) (t.cut hb.2)

theorem Vm.nb {κ : Kx} {w : World} {m : Nat} (hd : ∀ n, κ.dom n → n < m) : ∀ {es : List MapEntry} {ps : List (AV × AV)}, Vm κ w es ps → enb m ps
  | _, _, .nil => trivial
  | _, _, .cons e p es ps hk hv t => ⟨⟨hk.nb hd, hv.nb hd⟩, t.nb hd⟩

theorem Owns.cut {κ : Kx} {w : World} {n m : Nat} {r : Res} (h : Owns κ w n r) (hb : r.nb m) : Owns (κ.cut m) w n r := by
  cases r with
  | obj cs => obtain ⟨us, rest, t, fz, h1, h2, h3, h4⟩ := h; exact ⟨us, rest, t, fz, h1, h2, h3.cut hb, h4⟩
  | tip k => exact h
  | map es ts clk => obtain ⟨ents, h1, h2, h4⟩ := h; exact ⟨ents, h1, h2.cut hb, h4⟩
  | iter n' since seen last => exact ⟨h.1, fun m' hm => ⟨h.2.1 m' hm, hb m' hm⟩, h.2.2⟩
  | siter s p => exact h
  | glob b v => exact h

theorem Owns.nb {κ : Kx} {w : World} {n m : Nat} {r : Res} (hd : ∀ n, κ.dom n → n < m) (h : Owns κ w n r) : r.nb m := by
  cases r with
  | obj cs => obtain ⟨us, rest, t, fz, h1, h2, h3, h4, _⟩ := h; exact h3.nb hd
  | tip k => trivial
  | map es ts clk => obtain ⟨ents, h1, h2, h4⟩ := h; exact h2.nb hd
  | iter n' since seen last => exact fun n' hn => hd n' (h.2.1 n' hn)
  | siter s p => trivial
  | glob b v => trivial

/-! ### Ghost steps -/

theorem R.fewer {B : Nat} {F : Nat → Prop} {κ : Kx} {w : World} {σ σ' : St} (h : R B F κ w σ) (hn : σ.next ≤ σ'.next) (hr : ∀ n r, σ'.res n = some r → σ.res n = some r) : R B F κ w σ' :=
  ⟨fun n hd => Nat.lt_of_lt_of_le (h.dom n hd) hn, fun n r hx => h.own n r (hr n r hx), fun n m r s hx hy => h.apart n m r s (hr n r hx) (hr m s hy), h.imm, fun n r hx hrl => h.foot n r (hr n r hx) hrl⟩

theorem Gh.drop {ρ : List AV} {σ σ' : St} (hn : σ'.next = σ.next) (hr : ∀ n r, σ'.res n = some r → σ.res n = some r) : Gh ρ σ ρ σ' := fun κ0 w0 σ0 F κ a w h =>
  ⟨κ, ⟨h.inv.r.fewer (Nat.le_of_eq hn.symm) hr, h.inv.fr, h.inv.env, h.inv.defers⟩, h.ext, h.dom, by rw [hn]; exact h.next⟩

/-- a weaker view of one value -/
def Wk (x y : AV) : Prop := ∀ (κ : Kx) (w : World) (v : Value), V κ w v x → V κ w v y

theorem Wk.refl (x : AV) : Wk x x := fun _ _ _ h => h

theorem Wk.any (x : AV) : Wk x .any := fun _ _ v _ => .any v

theorem Wk.sl (xs : List AV) (g : Ver) : Wk (.sl xs g) (.sl xs .none) := fun _ _ _ h => h.weak

inductive Wks : List AV → List AV → Prop where
  | nil : Wks [] []
  | cons {x y : AV} {xs ys : List AV} (h : Wk x y) (t : Wks xs ys) : Wks (x :: xs) (y :: ys)

theorem Wks.vl {κ : Kx} {w : World} : ∀ {xs ys : List AV}, Wks xs ys → ∀ {vs : List Value}, Vl κ w vs xs → Vl κ w vs ys
  | _, _, .nil, _, h => h
  | _, _, .cons h t, _, k => by
    cases k with
    | cons v x vs xs hv ht => exact .cons _ _ _ _ (h κ w v hv) (t.vl ht)

theorem Wks.refl : ∀ xs, Wks xs xs
  | [] => .nil
  | x :: xs => .cons (.refl x) (Wks.refl xs)

theorem Gh.env {ρ ρ' : List AV} {σ : St} (h : Wks ρ ρ') : Gh ρ σ ρ' σ := fun κ0 w0 σ0 F κ a w hR =>
  ⟨κ, ⟨hR.inv.r, hR.inv.fr, h.vl hR.inv.env, hR.inv.defers⟩, hR.ext, hR.dom, hR.next⟩

/-- only what is listed is kept -/
def keep (l : List Nat) (k : Nat) : List AV → List AV
  | [] => []
  | x :: r => (if l.contains k then x else .any) :: keep l (k + 1) r

theorem keep_wks (l : List Nat) : ∀ (k : Nat) (ρ : List AV), Wks ρ (keep l k ρ)
  | _, [] => .nil
  | k, x :: r => .cons (by split; exact .refl x; exact .any x) (keep_wks l (k + 1) r)

theorem Gh.keep (l : List Nat) {ρ : List AV} {σ : St} : Gh ρ σ (keep l 0 ρ) σ := .env (keep_wks l 0 ρ)

/-- an owned row that is told to be a value -/
theorem Gh.freeze {ρ : List AV} {σ : St} {t n off len k : Nat} {cs xs : List AV} (ht : ρ[t]? = some (.ref n off len)) (hr : σ.res n = some (.obj cs)) (hlen : xs.length = len) (hk : ∀ x ∈ xs, x.cells.length = k)
    (hx : xs.flatMap AV.cells = (cs.drop off).take (len * k)) (hoff : off ≤ cs.length) : Gh ρ σ (ρ.set t (.sl xs .none)) (σ.del n) := by
  intro κ0 w0 σ0 F κ a w h
  obtain ⟨hd, us, rest, ty, fz, h1, h2, h3, h4, _⟩ := h.inv.r.own n _ hr
  have e : Ext κ w { κ with I := fun b o => κ.I b o ∨ (b = κ.φ n ∧ o < us.length) } w := ⟨fun _ _ x => .inl x, fun _ _ => rfl, fun _ _ => rfl, fun _ _ => rfl, fun _ _ => rfl, fun _ x => x, fun _ _ _ => rfl⟩
  have hlt := h.inv.r.lt hr
  have hR : R w0.heap.size F { κ with I := fun b o => κ.I b o ∨ (b = κ.φ n ∧ o < us.length) } w (σ.del n) := by
    refine h.inv.r.step e (fun m hm => h.inv.r.dom m hm) (fun b o hi => ?_) (fun m r hm => ?_)
    · rcases hi with hi | ⟨rfl, _⟩
      · exact h.inv.r.imm b o hi
      · exact hlt
    · have hmn : m ≠ n := by intro e; subst e; simp [St.del] at hm
      have hm' : σ.res m = some r := by simpa [St.del, hmn] using hm
      refine .inl ⟨hm', rfl, fun o hi => ?_⟩
      rcases hi with hi | ⟨hx, _⟩
      · exact hi
      · exact absurd (h.inv.r.apart _ _ _ _ hm' hr hx) hmn
  refine ⟨_, ⟨hR, h.inv.fr, ?_, h.inv.defers⟩, h.ext.trans e, h.dom, h.next⟩
  obtain ⟨v, hv, hvv⟩ := h.inv.env.get? t _ ht
  have henv := h.inv.env.mono e
  obtain ⟨cap, rfl, hcap, _⟩ := hvv.ref_inv
  have hset : a.tmps.toList.set t (.slice (some ⟨κ.φ n, off, none⟩) len cap) = a.tmps.toList := by
    apply List.ext_getElem?
    intro i
    rw [List.getElem?_set]
    split
    · rename_i hi; subst hi
      split
      · rw [hv]
      · rename_i hge; rw [List.getElem?_eq_none (by omega)] at hv; cases hv
    · rfl
  rw [← hset]
  refine henv.set t ?_
  rw [← hlen]
  refine .sl _ _ cap k xs hk (by rw [hlen]; exact hcap) ?_
  rw [hx]
  have hlen' : us.length = cs.length := h3.length
  refine Vs.mk (us := (us.drop off).take (len * k)) (((h3.mono e).drop off).take _) (fun i u hu => ?_)
  have hu2 : us[off + i]? = some u := by
    rw [List.getElem?_take] at hu
    split at hu
    · simpa using hu
    · cases hu
  have hil : off + i < us.length := (List.getElem?_eq_some_iff.1 hu2).1
  exact ⟨.inr ⟨rfl, hil⟩, by rw [cell_of h1, List.getElem?_append_left hil]; exact hu2⟩

/-! ### Results -/

inductive RX where
  | t (i : Nat)
  | cell (a : Nat) (k : Option Nat)

def resX1 (P : Program) : ResultVar → Option RX
  | .tmp t => some (.t t)
  | .cell a ty => (kindOf P ty).map fun k => .cell a k

def resX (P : Program) : List ResultVar → Option (List RX)
  | [] => some []
  | r :: rest => match resX1 P r, resX P rest with
    | some x, some y => some (x :: y)
    | _, _ => none

def rval (ρ : List AV) (σ : St) : RX → Option AV
  | .t i => some (ρ.getD i .any)
  | .cell a k => match ρ.getD a .any with
    | .ptr n off => match σ.res n with
      | some (.obj cs) => ldc cs off k
      | _ => none
    | _ => none

def rvals (ρ : List AV) (σ : St) : List RX → Option (List AV)
  | [] => some []
  | r :: rest => match rval ρ σ r, rvals ρ σ rest with
    | some x, some y => some (x :: y)
    | _, _ => none

def pack : List AV → AV
  | [x] => x
  | xs => .tup xs

section

variable {P : Program} {κ0 : Kx} {w0 : World} {σ0 : St} {F : Nat → Prop} {a : Act} {w : World} {κ : Kx} {ρ : List AV} {σ : St}

def resOne (tmps : Array Value) : ResultVar → Sem Value
  | .tmp t => pure (tmps.getD t undef)
  | .cell a t => do loadVar t (← asAddr (tmps.getD a undef))

theorem results_eq (fn : Func) (tmps : Array Value) : results fn tmps = (do let vs ← fn.results.mapM (resOne tmps); pure (if h : vs.size = 1 then vs[0] else .tuple vs)) := rfl

theorem res1_ok (h : Inv w0 F κ a w ρ σ) {r : ResultVar} {x : RX} (hx : resX1 P r = some x) {y : AV} (hy : rval ρ σ x = some y) :
    ∃ v, (resOne a.tmps r).run P w = .ok v w ∧ V κ w v y := by
  cases r with
  | tmp t =>
    simp only [resX1, Option.some.injEq] at hx; subst hx
    simp only [rval, Option.some.injEq] at hy; subst hy
    exact ⟨a.tmps.getD t undef, by simp [resOne], by simpa using h.env.get t⟩
  | cell b ty =>
    simp only [resX1, Option.map_eq_some_iff] at hx
    obtain ⟨k, hk, rfl⟩ := hx
    simp only [rval] at hy
    split at hy
    · rename_i n off hp
      split at hy
      · rename_i cs hr
        have hv := h.env.get b
        rw [hp] at hv
        have e1 : a.tmps.getD b undef = .pointer (some ⟨κ.φ n, off, none⟩) := by
          have := hv.ptr_inv.1
          simpa using this
        have hrow := (Row.of_own (h.r.own n _ hr).2).drop off
        rw [Nat.zero_add] at hrow
        obtain ⟨u, g1, g2⟩ := run_loadVar (P := P) hk hrow (ldc_drop hy)
        exact ⟨u, by simp only [resOne, e1]; simpa [asAddr] using g1, g2⟩
      · cases hy
    · cases hy

theorem res_ok (h : Inv w0 F κ a w ρ σ) : ∀ {rs : List ResultVar} {xs : List RX} {ys : List AV}, resX P rs = some xs → rvals ρ σ xs = some ys →
    ∃ vs, (List.mapM (m := Sem) (resOne a.tmps) rs).run P w = .ok vs w ∧ Vl κ w vs ys
  | [], xs, ys, hx, hy => by
    simp only [resX, Option.some.injEq] at hx; subst hx
    simp only [rvals, Option.some.injEq] at hy; subst hy
    exact ⟨[], by simp, .nil⟩
  | r :: rs, xs, ys, hx, hy => by
    simp only [resX] at hx
    split at hx
    · rename_i x xs' h1 h2
      simp only [Option.some.injEq] at hx; subst hx
      simp only [rvals] at hy
      split at hy
      · rename_i y ys' k1 k2
        simp only [Option.some.injEq] at hy; subst hy
        obtain ⟨v, g1, g2⟩ := res1_ok h h1 k1
        obtain ⟨vs, g3, g4⟩ := res_ok h h2 k2
        refine ⟨v :: vs, ?_, .cons _ _ _ _ g2 g4⟩
        rw [List.mapM_cons]
        simp only [Sem.run_bind]
        rw [g1]
        simp only [Result.andThen_ok]
        rw [g3]
        simp
      · cases hy
    · cases hx

theorem results_ok (h : Inv w0 F κ a w ρ σ) {fn : Func} {xs : List RX} {ys : List AV} (hx : resX P fn.results.toList = some xs) (hy : rvals ρ σ xs = some ys) :
    ∃ v, (results fn a.tmps).run P w = .ok v w ∧ V κ w v (pack ys) := by
  obtain ⟨vs, g1, g2⟩ := res_ok h hx hy
  have g3 := run_mapM_arr (P := P) (w := w) _ fn.results vs g1
  rw [results_eq]
  simp only [Sem.run_bind]
  rw [g3]
  simp only [Result.andThen_ok, Sem.run_pure]
  refine ⟨_, rfl, ?_⟩
  cases g2 with
  | nil => simpa [pack] using V.tup [] [] .nil
  | cons v x vs xs hv t =>
    cases t with
    | nil => simpa [pack] using hv
    | cons v' x' vs' xs' hv' t' => simpa [pack] using V.tup (v :: v' :: vs') (x :: x' :: xs') (.cons _ _ _ _ hv (.cons _ _ _ _ hv' t'))

end

/-- names ahead are free -/
def WF (σ : St) : Prop := ∀ n, σ.next ≤ n → σ.res n = none

/-- What a call leaves may be told in another way. -/
def Gv (σ0 : St) (x : AV) (σ : St) (x' : AV) (σ' : St) : Prop :=
  ∀ (κ0 : Kx) (w0 : World) (B0 : Nat) (F0 F : Nat → Prop) (κ : Kx) (w : World) (v : Value), R B0 F0 κ0 w0 σ0 → R w0.heap.size F κ w σ → Ext κ0 w0 κ w → (∀ n, κ.dom n → κ0.dom n ∨ σ0.next ≤ n) → σ0.next ≤ σ.next → V κ w v x →
    ∃ κ', R w0.heap.size F κ' w σ' ∧ Ext κ0 w0 κ' w ∧ (∀ n, κ'.dom n → κ0.dom n ∨ σ0.next ≤ n) ∧ σ0.next ≤ σ'.next ∧ V κ' w v x'

theorem Gv.refl {σ0 σ : St} {x : AV} : Gv σ0 x σ x σ := fun _ _ _ _ _ κ _ _ _ h1 h2 h3 h4 h5 => ⟨κ, h1, h2, h3, h4, h5⟩

theorem Gv.wk {σ0 σ : St} {x y : AV} (h : Wk x y) : Gv σ0 x σ y σ := fun _ _ _ _ _ κ _ _ _ h1 h2 h3 h4 h5 => ⟨κ, h1, h2, h3, h4, h _ _ _ h5⟩

/-- names that nobody needs any more are given back -/
theorem Gv.cut {σ0 σ σ' : St} {x : AV} (hm0 : σ0.next ≤ σ'.next) (hx : x.nb σ'.next) (hr : ∀ n r, σ'.res n = some r → σ.res n = some r ∧ (σ0.res n = some r ∨ (n < σ'.next ∧ r.nb σ'.next))) : Gv σ0 x σ x σ' := by
  intro κ0 w0 B0 F0 F κ w v h0 hR he hd hn hv
  have hd0 : ∀ n, κ0.dom n → n < σ'.next := fun n h => Nat.lt_of_lt_of_le (h0.dom n h) hm0
  refine ⟨κ.cut σ'.next, ⟨fun n h => h.2, fun n r hnr => ?_, fun n m r s hx hy => hR.apart n m r s (hr n r hx).1 (hr m s hy).1, hR.imm, fun n r hx hrl => hR.foot n r (hr n r hx).1 hrl⟩, ?_, fun n h => hd n h.1, hm0, hv.cut hx⟩
  · obtain ⟨h1, h2⟩ := hr n r hnr
    obtain ⟨k1, k2⟩ := hR.own n r h1
    rcases h2 with h2 | ⟨h2, h3⟩
    · obtain ⟨g1, g2⟩ := h0.own n r h2
      exact ⟨⟨k1, hd0 n g1⟩, k2.cut (g2.nb hd0)⟩
    · exact ⟨⟨k1, h2⟩, k2.cut h3⟩
  · exact ⟨he.I, he.φ, he.ψ, he.χ, he.ξ, fun n h => ⟨he.dom n h, hd0 n h⟩, he.cell⟩

theorem Gv.quiet {σ0 σ : St} {x : AV} (hx : x.nb σ0.next) (hr : ∀ n r, σ0.res n = some r → σ.res n = some r) : Gv σ0 x σ x σ0 :=
  .cut (Nat.le_refl _) hx (fun n r h => ⟨hr n r h, .inl h⟩)

theorem Gv.trans {σ0 σ σ1 σ2 : St} {x x1 x2 : AV} (h : Gv σ0 x σ x1 σ1) (k : Gv σ0 x1 σ1 x2 σ2) : Gv σ0 x σ x2 σ2 := by
  intro κ0 w0 B0 F0 F κ w v h0 h1 h2 h3 h4 h5
  obtain ⟨κ1, g1, g2, g3, g4, g5⟩ := h κ0 w0 B0 F0 F κ w v h0 h1 h2 h3 h4 h5
  exact k κ0 w0 B0 F0 F κ1 w v h0 g1 g2 g3 g4 g5

/-- WHERE A FUNCTION ENDS -/
def Fin (σ0 : St) (rs : List RX) (K : AV → St → Prop) : Ex → List AV → St → Prop
  | .exit _, _, _ => False
  | _, ρ, σ => ∃ ρ' σ' xs x σ'', Gh ρ σ ρ' σ' ∧ rvals ρ' σ' rs = some xs ∧ Gv σ0 (pack xs) σ' x σ'' ∧ K x σ''

theorem calls_ok {P : Program} {A : Ann} {f : Nat} {fn : Func} {code : Code} {c : C} {rs : List RX} {nt : Nat} (hf : P.funcs[f]? = some fn) (hb : fn.body = some code) (hnm : (fn.name == "runtime.NumGoroutine") = false)
    (hc : compileC P A code = some c) (hr : resX P fn.results.toList = some rs) (hnt : fn.ntmps = nt) {args : List AV} {σ : St} {K : AV → St → Prop}
    (h : WF σ → T P A c (Fin σ rs K) (args ++ List.replicate (nt - args.length) (.tup [])) σ) : ACalls P f args σ K := by
  refine ⟨⟨fn, hf, by simp [hb], hnm⟩, fun κ w vs B F hR hv => ?_⟩
  have hwf : WF σ := fun n hn => by
    cases hx : σ.res n with
    | none => rfl
    | some r => have := hR.dom n (hR.own n r hx).1; omega
  have hlen := hv.length
  have hR' : R w.heap.size (ownd κ σ) κ w σ := ⟨hR.dom, hR.own, hR.apart, hR.imm, fun n r hx hrl => .inl ⟨n, r, hx, hrl, rfl⟩⟩
  have hanys : ∀ k, Vl κ w (List.replicate k undef) (List.replicate k (.tup [])) := by
    intro k
    induction k with
    | zero => exact .nil
    | succ k ih => exact .cons _ _ _ _ (.tup [] [] .nil) ih
  refine calls_of_wp hf hb ?_
  have hrun : Run κ w σ (ownd κ σ) κ { tmps := (⟨vs⟩ : Array Value) ++ Array.replicate (fn.ntmps - (⟨vs⟩ : Array Value).size) undef, defers := [] } w (args ++ List.replicate (nt - args.length) (.tup [])) σ := by
    refine ⟨⟨hR', .refl _ _, ?_, rfl⟩, .refl _ _, fun n h => .inl h, Nat.le_refl _⟩
    have : ((⟨vs⟩ : Array Value) ++ Array.replicate (fn.ntmps - (⟨vs⟩ : Array Value).size) undef).toList = vs ++ List.replicate (nt - args.length) undef := by
      rw [Array.toList_append, Array.toList_replicate, hnt, ← hlen]
      simp
    rw [this]
    exact hv.append (hanys _)
  refine wp_mono (h hwf code hc κ w σ _ κ _ w hrun) ?_
  rintro e a' w' ⟨e', κ', ρ', σ', rfl, hR1, hq, _⟩
  have fin : (∃ ρ1 σ1 xs x σ'', Gh ρ' σ' ρ1 σ1 ∧ rvals ρ1 σ1 rs = some xs ∧ Gv σ (pack xs) σ1 x σ'' ∧ K x σ'') → a'.defers = [] ∧ ∃ v, (results fn a'.tmps).run P w' = .ok v w' ∧
      (∃ v' x κ' σ', Ending.returned v = .returned v' ∧ Ext κ w κ' w' ∧ (∀ n, κ'.dom n → κ.dom n ∨ σ.next ≤ n) ∧ R w.heap.size (ownd κ σ) κ' w' σ' ∧ Fr (ownd κ σ) w w' ∧ σ.next ≤ σ'.next ∧ V κ' w' v' x ∧ K x σ') := by
    rintro ⟨ρ1, σ1, xs, x, σ'', hg, hxs, hgv, hk⟩
    obtain ⟨κ1, hR2⟩ := hg κ w σ (ownd κ σ) κ' a' w' hR1
    obtain ⟨v, hv1, hv2⟩ := results_ok hR2.inv hr hxs
    obtain ⟨κ2, g1, g2, g3, g4, g5⟩ := hgv κ w B F (ownd κ σ) κ1 w' v hR hR2.inv.r hR2.ext hR2.dom hR2.next hv2
    exact ⟨hR2.inv.defers, v, hv1, v, x, κ2, σ'', rfl, g2, g3, g1, hR2.inv.fr, g4, g5, hk⟩
  cases e' with
  | normal => exact fin hq
  | exit id => exact hq.elim
  | ret => exact fin hq

end Go.VL

namespace Go.VL

/-- a value list's length is any -/
theorem T.seq_k {P : Program} {A : Ann} {x y : C} {Q : Ex → List AV → St → Prop} {ρ : List AV} {σ : St} (h : ∀ K : List AV → St → Prop, (∀ ρ σ, T P A y Q ρ σ → K ρ σ) → T P A x (Ex.then K Q) ρ σ) : T P A (.seq x y) Q ρ σ :=
  T.seq (h _ fun _ _ h => h)

/-- (the thing itself is looked at first: else what follows is walked once too often at each step) -/
theorem opt_def {α : Type} (K : α → Prop) (z : Option α) : opt K z = (match z with | some v => K v | none => False) := by cases z <;> rfl

theorem then_normal {K : List AV → St → Prop} {Q : Ex → List AV → St → Prop} : Ex.then K Q .normal = K := rfl

theorem then_exit {K : List AV → St → Prop} {Q : Ex → List AV → St → Prop} {i : Nat} : Ex.then K Q (.exit i) = Q (.exit i) := rfl

theorem inBlock_normal {Q : Ex → List AV → St → Prop} {i : Nat} : Ex.inBlock i Q .normal = Q .normal := rfl

theorem inBlock_exit {Q : Ex → List AV → St → Prop} {i : Nat} : Ex.inBlock i Q (.exit i) = Q .normal := by funext ρ σ; simp [Ex.inBlock]

theorem lt_len {α : Type} (i : Nat) (l : List α) : ((i : Int) < (l.length : Int)) = (i < l.length) := by simp

theorem le_len {α : Type} (i : Nat) (l : List α) : ((i : Int) ≤ (l.length : Int)) = (i ≤ l.length) := by simp

theorem er_int (k : IntKind) (n : Int) : (AV.int k n).er = .int k n := rfl

theorem er_bool (b : Bool) : (AV.bool b).er = .bool b := rfl

theorem er_str (s : ByteArray) : (AV.str s).er = .str s := rfl

theorem up_zero (σ : St) : σ.up 0 = σ := rfl

theorem Fin.ret {σ0 : St} {rs : List RX} {K : AV → St → Prop} {ρ : List AV} {σ : St} {xs : List AV} (h1 : rvals ρ σ rs = some xs) (h2 : K (pack xs) σ) : Fin σ0 rs K .ret ρ σ :=
  ⟨ρ, σ, xs, _, σ, .refl, h1, .refl, h2⟩

theorem Fin.retw {σ0 : St} {rs : List RX} {K : AV → St → Prop} {ρ : List AV} {σ : St} {xs : List AV} {y : AV} (h1 : rvals ρ σ rs = some xs) (hw : Wk (pack xs) y) (h2 : K y σ) : Fin σ0 rs K .ret ρ σ :=
  ⟨ρ, σ, xs, y, σ, .refl, h1, .wk hw, h2⟩

theorem Fin.quiet {σ0 : St} {rs : List RX} {K : AV → St → Prop} {ρ : List AV} {σ : St} {xs : List AV} (h1 : rvals ρ σ rs = some xs) (hx : (pack xs).nb σ0.next) (hr : ∀ n r, σ0.res n = some r → σ.res n = some r) (h2 : K (pack xs) σ0) : Fin σ0 rs K .ret ρ σ :=
  ⟨ρ, σ, xs, _, σ0, .refl, h1, .quiet hx hr, h2⟩

/-- the same, a guard as 'if': it is looked at before what it guards -/
def aopsI (CP : CallP) (base : Nat) : Nat → List O → List AV → St → (List AV → St → Prop) → Prop
  | _, [], ρ, σ, K => K ρ σ
  | i, o :: r, ρ, σ, K =>
    match o.g with
    | none => astep CP (base + i) ρ σ (fun v σ' => aopsI CP base (i + 1) r (setd ρ v o.dst) σ' K) o.i
    | some (t, b) => match ρ.getD t .any with
      | .bool c => if c = b then astep CP (base + i) ρ σ (fun v σ' => aopsI CP base (i + 1) r (setd ρ v o.dst) σ' K) o.i else aopsI CP base (i + 1) r (setd ρ (.tup []) o.dst) σ K
      | .tup [] => aopsI CP base (i + 1) r (setd ρ (.tup []) o.dst) σ K
      | _ => False

theorem aops_of_I {CP : CallP} (hCP : CPMono CP) {base : Nat} {K : List AV → St → Prop} : ∀ {i : Nat} {l : List O} {ρ : List AV} {σ : St}, aopsI CP base i l ρ σ K → aops CP base i l ρ σ K
  | _, [], _, _, h => h
  | i, o :: r, ρ, σ, h => by
    simp only [aopsI] at h
    simp only [aops]
    cases hg : o.g with
    | none => rw [hg] at h; exact astep_mono hCP (fun v σ' h => aops_of_I hCP h) h
    | some p =>
      obtain ⟨t, b⟩ := p
      simp only [hg] at h ⊢
      split at h
      · rename_i c hc
        simp only [hc]
        split at h
        · rename_i hcb
          exact ⟨fun _ => astep_mono hCP (fun v σ' h => aops_of_I hCP h) h, fun h2 => by subst hcb; cases c <;> cases h2⟩
        · rename_i hcb
          exact ⟨fun h2 => absurd h2 hcb, fun _ => aops_of_I hCP h⟩
      · rename_i hc; simp only [hc]; exact aops_of_I hCP h
      · exact h.elim

theorem T.regi {P : Program} {A : Ann} {Q : Ex → List AV → St → Prop} {ρ : List AV} {σ : St} (hm : P.follows .mixedOrders = true) {l : List O} (h : aopsI (ACalls P) σ.next 0 l ρ (σ.up (namesOf l)) (Q .normal)) : T P A (.reg l) Q ρ σ :=
  T.reg hm (aops_of_I ACalls_mono h)

/-- what a call comes to may be told in another way -/
theorem ACalls.gv {P : Program} {f : Nat} {args : List AV} {σ : St} {K K' : AV → St → Prop} (h : ACalls P f args σ K) (hk : WF σ → ∀ v σ', K v σ' → ∃ v' σ'', Gv σ v σ' v' σ'' ∧ K' v' σ'') : ACalls P f args σ K' := by
  refine ⟨h.1, fun κ w vs B F hR hv => (h.2 κ w vs B F hR hv).mono ?_⟩
  rintro e w' ⟨v, x, κ', σ', rfl, h2, h3, h4, h5, h6, h7, h8⟩
  have hwf : WF σ := fun n hn => by
    cases hx : σ.res n with
    | none => rfl
    | some r => have := hR.dom n (hR.own n r hx).1; omega
  obtain ⟨x', σ'', hg, hk'⟩ := hk hwf x σ' h8
  obtain ⟨κ2, g1, g2, g3, g4, g5⟩ := hg κ w B F (ownd κ σ) κ' w' v hR h4 h2 h3 h6 h7
  exact ⟨v, x', κ2, σ'', rfl, g2, g3, g1, h5, g4, g5, hk'⟩

/-- but for one named end what is owned is as it was -/
structure OneTip (σ σ' : St) (g k : Nat) : Prop where
  lo : σ.next ≤ g
  hi : g < σ'.next
  res : σ'.res = (σ.set g (.tip k)).res

theorem OneTip.at_ {σ σ' : St} {g k : Nat} (h : OneTip σ σ' g k) : σ'.res g = some (.tip k) := by rw [h.res]; simp

theorem OneTip.new {σ : St} {n i k : Nat} (hi : i < n) : OneTip σ ((σ.up n).set (σ.next + i) (.tip k)) (σ.next + i) k := ⟨by omega, by simp; omega, rfl⟩

theorem OneTip.app {σ σ' : St} {g k n i : Nat} (wf : WF σ) (h : OneTip σ σ' g k) (hi : i < n) : OneTip σ (((σ'.up n).del g).set (σ'.next + i) (.tip k)) (σ'.next + i) k := by
  have h1 := h.lo
  have h2 := h.hi
  refine ⟨by omega, by simp; omega, ?_⟩
  funext m
  have hr := congrFun h.res m
  simp only [St.set, St.del, St.up] at hr ⊢
  by_cases hm : m = σ'.next + i
  · simp [hm]
  · simp only [hm, if_false]
    by_cases hg : m = g
    · subst hg; simp; exact (wf m h1).symm
    · simp [hg] at hr ⊢; exact hr

theorem OneTip.mv {σ σ' : St} {g g2 k : Nat} (wf : WF σ) (h : OneTip σ σ' g k) (hlo : σ.next ≤ g2) (hhi : g2 < σ'.next) : OneTip σ ((σ'.del g).set g2 (.tip k)) g2 k := by
  have h1 := h.lo
  refine ⟨hlo, by simpa using hhi, ?_⟩
  funext m
  have hr := congrFun h.res m
  simp only [St.set, St.del] at hr ⊢
  by_cases hm : m = g2
  · simp [hm]
  · simp only [hm, if_false]
    by_cases hg : m = g
    · subst hg; simp; exact (wf m h1).symm
    · simp [hg] at hr ⊢; exact hr

theorem OneTip.up {σ σ' : St} {g k : Nat} (h : OneTip σ σ' g k) (n : Nat) : OneTip σ (σ'.up n) g k := ⟨h.lo, Nat.lt_of_lt_of_le h.hi (Nat.le_add_right _ _), h.res⟩

theorem OneTip.quiet {σ σ' : St} {g k : Nat} (wf : WF σ) (h : OneTip σ σ' g k) : ∀ n r, σ.res n = some r → σ'.res n = some r := by
  intro n r hr
  rw [h.res]
  have : n ≠ g := fun e => by subst e; rw [wf n h.lo] at hr; cases hr
  rw [St.set_other _ _ this]; exact hr

/-! ### A table of what quiet calls come to -/

def PureC (P : Program) (f : Nat) (g : List AV → Option AV) : Prop := ∀ args σ v, g args = some v → ACalls P f args σ (fun x σ' => x = v ∧ σ' = σ)

abbrev Tbl := List (Nat × (List AV → Option AV))

def Tbl.get : Tbl → Nat → Option (List AV → Option AV)
  | [], _ => none
  | p :: r, f => if p.1 = f then some p.2 else Tbl.get r f

def CPt (P : Program) (tbl : Tbl) (f : Nat) (args : List AV) (σ : St) (K : AV → St → Prop) : Prop :=
  match tbl.get f with
  | some g => opt (fun v => K v σ) (g args)
  | none => ACalls P f args σ K

def Tbl.ok (P : Program) (tbl : Tbl) : Prop := ∀ p ∈ tbl, PureC P p.1 p.2

theorem Tbl.ok_nil {P : Program} : Tbl.ok P [] := fun _ h => by cases h

theorem Tbl.ok_cons {P : Program} {f : Nat} {g : List AV → Option AV} {tbl : Tbl} (h : PureC P f g) (t : Tbl.ok P tbl) : Tbl.ok P ((f, g) :: tbl) := fun p hp => by
  rcases List.mem_cons.1 hp with rfl | hp
  · exact h
  · exact t p hp

theorem Tbl.get_ok {P : Program} : ∀ {tbl : Tbl}, tbl.ok P → ∀ {f : Nat} {g : List AV → Option AV}, tbl.get f = some g → PureC P f g
  | [], _, _, _, h => by cases h
  | p :: r, hok, f, g, h => by
    simp only [Tbl.get] at h
    split at h
    · rename_i he
      simp only [Option.some.injEq] at h
      subst he; subst h
      exact hok p (by simp)
    · exact Tbl.get_ok (fun q hq => hok q (List.mem_cons_of_mem _ hq)) h

theorem CPt_le {P : Program} {tbl : Tbl} (hok : tbl.ok P) {f : Nat} {args : List AV} {σ : St} {K : AV → St → Prop} (h : CPt P tbl f args σ K) : ACalls P f args σ K := by
  unfold CPt at h
  split at h
  · rename_i g hg
    obtain ⟨v, hv, hk⟩ := opt_some h
    exact (Tbl.get_ok hok hg args σ v hv).mono fun x σ' ⟨e1, e2⟩ => by rw [e1, e2]; exact hk
  · exact h

theorem CPt_mono {P : Program} {tbl : Tbl} : CPMono (CPt P tbl) := by
  intro f args σ K K' hk h
  unfold CPt at *
  split at h
  · exact opt_mono (fun v h => hk v σ h) h
  · exact h.mono hk

/-- a quiet call, as a table tells it -/
def qstep (CP : CallP) (nm : Nat) (ρ : List AV) (σ : St) (K : AV → St → Prop) (Q : Nat → List AV → St → (AV → St → Prop) → Prop) : I → Prop
  | .qcall f args => Q f (args.map (ev ρ)) σ K
  | .qcallv x args => match ev ρ x with
    | .func f first captured => Q f (first ++ args.map (ev ρ) ++ captured) σ K
    | _ => False
  | i => astep CP nm ρ σ K i

def qget (P : Program) (tbl : Tbl) (f : Nat) (args : List AV) (σ : St) (K : AV → St → Prop) : Prop :=
  match tbl.get f with
  | some g => opt (fun v => K v σ) (g args)
  | none => ∃ v, ACalls P f args σ (fun v' σ' => v' = v ∧ σ' = σ) ∧ K v σ

theorem qget_ok {P : Program} {tbl : Tbl} (hok : tbl.ok P) {f : Nat} {args : List AV} {σ : St} {K : AV → St → Prop} (h : qget P tbl f args σ K) : ∃ v, ACalls P f args σ (fun v' σ' => v' = v ∧ σ' = σ) ∧ K v σ := by
  unfold qget at h
  split at h
  · rename_i g hg
    obtain ⟨v, hv, hk⟩ := opt_some h
    exact ⟨v, Tbl.get_ok hok hg args σ v hv, hk⟩
  · exact h

theorem step_le {P : Program} {tbl : Tbl} (hok : tbl.ok P) {nm : Nat} {ρ : List AV} {σ : St} {K : AV → St → Prop} {i : I} (h : qstep (CPt P tbl) nm ρ σ K (qget P tbl) i) : astep (ACalls P) nm ρ σ K i := by
  by_cases hc : i.isCall = true
  · cases i <;> simp only [I.isCall, Bool.false_eq_true] at hc
    case eqS => exact h
    case next => exact h
    case entry => exact h
    · simp only [qstep, astep] at h ⊢; exact CPt_le hok h
    · simp only [qstep, astep] at h ⊢
      split at h
      · exact CPt_le hok h
      · exact h.elim
  · cases i
    case qcall f args => simp only [qstep] at h; simp only [astep]; exact qget_ok hok h
    case pcall f args =>
      simp only [qstep, astep] at h ⊢
      obtain ⟨v, e, h⟩ := h
      exact ⟨v, fun σ2 => CPt_le hok (e σ2), h⟩
    case qcallv x args =>
      simp only [qstep] at h; simp only [astep]
      split at h
      · rename_i he; try simp only [he]
        exact qget_ok hok h
      · exact h.elim
    case call => simp [I.isCall] at hc
    case callv => simp [I.isCall] at hc
    all_goals exact h

def aopsT (P : Program) (tbl : Tbl) (base : Nat) : Nat → List O → List AV → St → (List AV → St → Prop) → Prop
  | _, [], ρ, σ, K => K ρ σ
  | i, o :: r, ρ, σ, K =>
    match o.g with
    | none => qstep (CPt P tbl) (base + i) ρ σ (fun v σ' => aopsT P tbl base (i + 1) r (setd ρ v o.dst) σ' K) (qget P tbl) o.i
    | some (t, b) => match ρ.getD t .any with
      | .bool c => if c = b then qstep (CPt P tbl) (base + i) ρ σ (fun v σ' => aopsT P tbl base (i + 1) r (setd ρ v o.dst) σ' K) (qget P tbl) o.i else aopsT P tbl base (i + 1) r (setd ρ (.tup []) o.dst) σ K
      | .tup [] => aopsT P tbl base (i + 1) r (setd ρ (.tup []) o.dst) σ K
      | _ => False

theorem aopsI_of_T {P : Program} {tbl : Tbl} (hok : tbl.ok P) {base : Nat} {K : List AV → St → Prop} : ∀ {i : Nat} {l : List O} {ρ : List AV} {σ : St}, aopsT P tbl base i l ρ σ K → aopsI (ACalls P) base i l ρ σ K
  | _, [], _, _, h => h
  | i, o :: r, ρ, σ, h => by
    simp only [aopsT] at h
    simp only [aopsI]
    cases hg : o.g with
    | none => rw [hg] at h; exact astep_mono ACalls_mono (fun v σ' h => aopsI_of_T hok h) (step_le hok h)
    | some p =>
      obtain ⟨t, b⟩ := p
      simp only [hg] at h ⊢
      split at h
      · rename_i c hc
        try simp only [hc]
        split at h
        · rename_i hcb
          rw [if_pos hcb]; exact astep_mono ACalls_mono (fun v σ' h => aopsI_of_T hok h) (step_le hok h)
        · rename_i hcb
          rw [if_neg hcb]; exact aopsI_of_T hok h
      · rename_i hc; try simp only [hc]
        exact aopsI_of_T hok h
      · exact h.elim

/-- a region, the first n operations ahead of the others -/
theorem aopsT_cut {P : Program} {tbl : Tbl} {base : Nat} : ∀ (n : Nat) {i : Nat} {l : List O} {ρ : List AV} {σ : St} {K : List AV → St → Prop},
    (∀ K1 : List AV → St → Prop, (∀ ρ' σ', aopsT P tbl base (i + n) (l.drop n) ρ' σ' K → K1 ρ' σ') → aopsT P tbl base i (l.take n) ρ σ K1) → aopsT P tbl base i l ρ σ K := by
  intro n i l ρ σ K h0
  have h := h0 _ fun _ _ h => h
  clear h0
  induction n generalizing i l ρ σ with
  | zero => simpa [aopsT] using h
  | succ n ih =>
    cases l with
    | nil => simpa [aopsT] using h
    | cons o r =>
      have hmono : ∀ {ρ : List AV} {σ : St}, aopsT P tbl base (i + 1) (r.take n) ρ σ (fun ρ' σ' => aopsT P tbl base (i + (n + 1)) (r.drop n) ρ' σ' K) → aopsT P tbl base (i + 1) r ρ σ K :=
        fun h => ih (by rw [Nat.add_assoc, Nat.add_comm 1 n]; exact h)
      simp only [List.take_succ_cons, List.drop_succ_cons, aopsT] at h ⊢
      have hq : ∀ {i0 : I} {nm : Nat} {ρ : List AV} {σ : St} {K1 K2 : AV → St → Prop}, (∀ v σ', K1 v σ' → K2 v σ') → qstep (CPt P tbl) nm ρ σ K1 (qget P tbl) i0 → qstep (CPt P tbl) nm ρ σ K2 (qget P tbl) i0 := by
        intro i0 nm ρ σ K1 K2 hk hh
        have hg : ∀ {f : Nat} {args : List AV}, qget P tbl f args σ K1 → qget P tbl f args σ K2 := by
          intro f args hh
          unfold qget at hh ⊢
          split at hh
          · exact opt_mono (fun v h => hk v σ h) hh
          · obtain ⟨v, h1, h2⟩ := hh; exact ⟨v, h1, hk _ _ h2⟩
        by_cases hc : (∃ f a, i0 = .qcall f a) ∨ ∃ x a, i0 = .qcallv x a
        · rcases hc with ⟨f, a, rfl⟩ | ⟨x, a, rfl⟩
          · exact hg hh
          · simp only [qstep] at hh ⊢
            split at hh
            · exact hg hh
            · exact hh.elim
        · have e : ∀ K3, qstep (CPt P tbl) nm ρ σ K3 (qget P tbl) i0 = astep (CPt P tbl) nm ρ σ K3 i0 := by
            intro K3
            cases i0 <;> first | rfl | (exact absurd (.inl ⟨_, _, rfl⟩) hc) | (exact absurd (.inr ⟨_, _, rfl⟩) hc)
          rw [e] at hh ⊢
          exact astep_mono CPt_mono hk hh
      split at h
      · exact hq (fun v σ' h => hmono h) h
      · split at h
        · split at h
          · rename_i hc; rw [if_pos hc]; exact hq (fun v σ' h => hmono h) h
          · rename_i hc; rw [if_neg hc]; exact hmono h
        · exact hmono h
        · exact h.elim

theorem T.regt {P : Program} {A : Ann} {Q : Ex → List AV → St → Prop} {ρ : List AV} {σ : St} (hm : P.follows .mixedOrders = true) {tbl : Tbl} (hok : tbl.ok P) {l : List O} (h : aopsT P tbl σ.next 0 l ρ (σ.up (namesOf l)) (Q .normal)) : T P A (.reg l) Q ρ σ :=
  T.regi hm (aopsI_of_T hok h)

end Go.VL

namespace Go.VL

/-- What is owned, as a list; what lies below `low` is as it was. -/
structure DS where
  next : Nat
  l : List (Nat × Res)
  low : Nat

def rget (n : Nat) : List (Nat × Res) → Option Res
  | [] => none
  | p :: r => if p.1 = n then some p.2 else rget n r

def rdel (n : Nat) : List (Nat × Res) → List (Nat × Res)
  | [] => []
  | p :: r => if p.1 = n then rdel n r else p :: rdel n r

theorem rget_del (n m : Nat) : ∀ l, rget m (rdel n l) = if m = n then none else rget m l
  | [] => by simp [rdel, rget]
  | p :: r => by
    have ih := rget_del n m r
    unfold rdel
    by_cases h : p.1 = n
    · rw [if_pos h, ih]
      by_cases hm : m = n
      · rw [if_pos hm, if_pos hm]
      · rw [if_neg hm, if_neg hm, rget, if_neg (by rw [h]; exact fun e => hm e.symm)]
    · rw [if_neg h, rget, rget, ih]
      by_cases hm : m = n
      · rw [if_pos hm, if_pos hm, if_neg (by rw [hm]; exact h)]
      · rw [if_neg hm, if_neg hm]

def DS.st (s : DS) : St := ⟨s.next, fun n => rget n s.l⟩

def DS.res (s : DS) (n : Nat) : Option Res := rget n s.l

def DS.set (s : DS) (n : Nat) (r : Res) : DS := ⟨s.next, (n, r) :: rdel n s.l, if n < s.low then n else s.low⟩

def DS.del (s : DS) (n : Nat) : DS := ⟨s.next, rdel n s.l, if n < s.low then n else s.low⟩

def DS.up (s : DS) (k : Nat) : DS := ⟨s.next + k, s.l, s.low⟩

theorem DS.st_set (s : DS) (n : Nat) (r : Res) : (s.set n r).st = s.st.set n r := by
  simp only [DS.st, DS.set, St.set, St.mk.injEq, true_and]
  funext m
  by_cases h : m = n
  · simp [h, rget]
  · rw [if_neg h]
    have h' : ¬ n = m := fun e => h e.symm
    simp only [rget, h', if_false]
    rw [rget_del, if_neg h]

theorem DS.st_del (s : DS) (n : Nat) : (s.del n).st = s.st.del n := by
  simp only [DS.st, DS.del, St.del, St.mk.injEq, true_and]
  funext m
  rw [rget_del]

/-- what lies below is as it was -/
structure Sm (s s' : DS) : Prop where
  le : s'.low ≤ s.low
  eq : ∀ n, n < s'.low → s'.res n = s.res n

theorem Sm.refl (s : DS) : Sm s s := ⟨Nat.le_refl _, fun _ _ => rfl⟩

theorem Sm.trans {s s1 s2 : DS} (h : Sm s s1) (k : Sm s1 s2) : Sm s s2 := ⟨Nat.le_trans k.le h.le, fun n hn => (k.eq n hn).trans (h.eq n (Nat.lt_of_lt_of_le hn k.le))⟩

theorem Sm.set (s : DS) (n : Nat) (r : Res) : Sm s (s.set n r) := by
  refine ⟨by simp only [DS.set]; split <;> omega, fun m hm => ?_⟩
  have hne : m ≠ n := by
    simp only [DS.set] at hm
    split at hm <;> omega
  have := congrFun (congrArg St.res (DS.st_set s n r)) m
  rw [St.set_other _ _ hne] at this
  exact this

theorem Sm.del (s : DS) (n : Nat) : Sm s (s.del n) := by
  refine ⟨by simp only [DS.del]; split <;> omega, fun m hm => ?_⟩
  have hne : m ≠ n := by
    simp only [DS.del] at hm
    split at hm <;> omega
  have := congrFun (congrArg St.res (DS.st_del s n)) m
  rw [show (s.st.del n).res m = s.st.res m by simp [St.del, hne]] at this
  exact this

theorem Sm.up (s : DS) (k : Nat) : Sm s (s.up k) := ⟨Nat.le_refl _, fun _ _ => rfl⟩

abbrev DR := Option (AV × DS)

/-- a function's code, its temporaries, its results -/
structure FnC where
  c : C
  nt : Nat
  rs : List RX

def FnOk (P : Program) (f : Nat) (F : FnC) : Prop := ∃ A, ∀ (args : List AV) (σ : St) (K : AV → St → Prop), (WF σ → T P A F.c (Fin σ F.rs K) (args ++ List.replicate (F.nt - args.length) (.tup [])) σ) → ACalls P f args σ K

abbrev FTab := List (Nat × FnC)

def FTab.get (f : Nat) : FTab → Option FnC
  | [] => none
  | p :: r => if p.1 = f then some p.2 else FTab.get f r

def FTab.ok (P : Program) (tb : FTab) : Prop := ∀ f F, FTab.get f tb = some F → FnOk P f F

theorem FTab.ok_nil {P : Program} : FTab.ok P [] := fun _ _ h => by cases h

theorem FTab.ok_cons {P : Program} {f nt : Nat} {c : C} {rs : List RX} {tb : FTab} {A : Ann} (h : ∀ {args : List AV} {σ : St} {K : AV → St → Prop}, (WF σ → T P A c (Fin σ rs K) (args ++ List.replicate (nt - args.length) (.tup [])) σ) → ACalls P f args σ K) (t : FTab.ok P tb) :
    FTab.ok P ((f, ⟨c, nt, rs⟩) :: tb) := fun g F hg => by
  simp only [FTab.get] at hg
  split at hg
  · rename_i he
    simp only [Option.some.injEq] at hg; subst hg; subst he
    exact ⟨A, fun _ _ _ hh => h hh⟩
  · exact t g F hg

def DR.isB (b : Bool) : Option (AV × Option DS) → Bool
  | some (.bool c, _) => c == b
  | _ => false

end Go.VL

namespace Go.VL

def κ0 (W : World) : Kx := ⟨fun b _ => b < W.heap.size, fun _ => 0, fun _ => 0, fun _ => 0, fun _ => 0, fun _ => False⟩

def σ0 : St := ⟨0, fun _ => none⟩

theorem R0 (W : World) : R 0 (fun _ => False) (κ0 W) W σ0 := ⟨fun _ h => h.elim, fun _ _ h => by simp [σ0] at h, fun _ _ _ _ h => by simp [σ0] at h, fun _ _ h => h, fun _ _ h _ => by simp [σ0] at h⟩

def isStruct (P : Program) (t : TypeId) : Bool := match P.underlying t with
  | some (.struct _) => true
  | _ => false

def contig (P : Program) : Nat → List Field → Option Nat
  | off, [] => some off
  | off, f :: r => if f.offset = off then contig P (off + P.cellsOf f.type) r else none

/-- a type of numbers, bools, texts, rows and structs of such, n deep -/
def goodT (P : Program) : Nat → TypeId → Bool
  | 0, _ => false
  | n + 1, t => match P.underlying t with
    | some .bool | some (.int _) | some .string => true
    | some (.slice e) => goodT P n e && decide (0 < P.cellsOf e)
    | some (.struct fs) => fs.toList.all (fun f => goodT P n f.type) && (contig P 0 fs.toList == some (P.cellsOf t))
    | _ => false

mutual
def HasT (P : Program) : Nat → TypeId → List AV → Prop
  | 0, _, _ => False
  | n + 1, t, xs => match P.underlying t with
    | some .bool => ∃ b, xs = [.bool b]
    | some (.int k) => ∃ m, xs = [.int k m] ∧ k.min ≤ m ∧ m ≤ k.max
    | some .string => ∃ s, xs = [.str s] ∧ s.size ≤ maxLen
    | some (.slice e) => ∃ ys, xs = [.sl ys .none] ∧ ys.length ≤ maxLen ∧ ∀ y ∈ ys, HasE P n e y
    | some (.struct fs) => HasF P n fs.toList xs
    | _ => False
/-- an element of a row -/
def HasE (P : Program) : Nat → TypeId → AV → Prop
  | n, e, y => HasT P n e y.cells ∧ (isStruct P e = true → ∃ zs, y = .agg zs) ∧ (isStruct P e = false → y.cells = [y])
def HasF (P : Program) : Nat → List Field → List AV → Prop
  | _, [], xs => xs = []
  | n, f :: r, xs => ∃ ys zs, xs = ys ++ zs ∧ HasT P n f.type ys ∧ HasF P n r zs
end

theorem hasT_succ (P : Program) (n : Nat) (t : TypeId) (xs : List AV) : HasT P (n + 1) t xs = (match P.underlying t with
    | some .bool => ∃ b, xs = [.bool b]
    | some (.int k) => ∃ m, xs = [.int k m] ∧ k.min ≤ m ∧ m ≤ k.max
    | some .string => ∃ s, xs = [.str s] ∧ s.size ≤ maxLen
    | some (.slice e) => ∃ ys, xs = [.sl ys .none] ∧ ys.length ≤ maxLen ∧ ∀ y ∈ ys, HasE P n e y
    | some (.struct fs) => HasF P n fs.toList xs
    | _ => False) := by rw [HasT]

theorem hasE_iff (P : Program) (n : Nat) (e : TypeId) (y : AV) : HasE P n e y = (HasT P n e y.cells ∧ (isStruct P e = true → ∃ zs, y = .agg zs) ∧ (isStruct P e = false → y.cells = [y])) := by rw [HasE]

theorem hasF_nil (P : Program) (n : Nat) (xs : List AV) : HasF P n [] xs = (xs = []) := by rw [HasF]

theorem hasF_cons (P : Program) (n : Nat) (f : Field) (r : List Field) (xs : List AV) : HasF P n (f :: r) xs = ∃ ys zs, xs = ys ++ zs ∧ HasT P n f.type ys ∧ HasF P n r zs := by rw [HasF]

/-- what is no struct is one cell -/
theorem HasT.single {P : Program} {n : Nat} {t : TypeId} {xs : List AV} (h : HasT P n t xs) (hs : isStruct P t = false) : ∃ x, xs = [x] ∧ x.cells = [x] := by
  cases n with
  | zero => rw [HasT] at h; exact h.elim
  | succ n =>
    rw [hasT_succ] at h
    unfold isStruct at hs
    split at h
    · obtain ⟨b, rfl⟩ := h; exact ⟨_, rfl, rfl⟩
    · obtain ⟨m, rfl, _⟩ := h; exact ⟨_, rfl, rfl⟩
    · obtain ⟨s, rfl, _⟩ := h; exact ⟨_, rfl, rfl⟩
    · obtain ⟨ys, rfl, _⟩ := h; exact ⟨_, rfl, rfl⟩
    · rename_i hu; rw [hu] at hs; cases hs
    · exact h.elim

def mkE (P : Program) (e : TypeId) (xs : List AV) : AV := if isStruct P e then .agg xs else xs.headD .any

theorem mkE_has {P : Program} {n : Nat} {e : TypeId} {xs : List AV} (h : HasT P n e xs) : (mkE P e xs).cells = xs ∧ HasE P n e (mkE P e xs) := by
  unfold mkE
  by_cases hs : isStruct P e = true
  · simp only [hs, if_true]
    exact ⟨rfl, by rw [hasE_iff]; exact ⟨h, fun _ => ⟨_, rfl⟩, fun h => by rw [hs] at h; cases h⟩⟩
  · have hs' : isStruct P e = false := by simpa using hs
    obtain ⟨x, rfl, hx⟩ := h.single hs'
    simp only [hs', Bool.false_eq_true, if_false, List.headD_cons]
    exact ⟨hx, by rw [hasE_iff, hx]; exact ⟨h, fun h => (by rw [hs'] at h; cases h), fun _ => rfl⟩⟩

/-- a row out of its elements -/
theorem vs_elems {κ : Kx} {w : World} {b k : Nat} : ∀ {ys : List AV} {o : Nat} {f : Nat → List Value}, (∀ i y, ys[i]? = some y → Vl κ w (f i) y.cells ∧ y.cells.length = k ∧ ∀ j u, (f i)[j]? = some u → κ.I b (o + i * k + j) ∧ w.cell? ⟨b, o + i * k + j, none⟩ = some u) →
    Vs κ w b o (ys.flatMap AV.cells)
  | [], o, f, _ => .nil b o
  | y :: r, o, f, h => by
    obtain ⟨h1, h2, h3⟩ := h 0 y rfl
    rw [List.flatMap_cons]
    refine Vs.append (Vs.mk h1 (fun j u hj => by simpa using h3 j u hj)) ?_
    rw [h2]
    exact vs_elems (f := fun i => f (i + 1)) (fun i z hz => by
      obtain ⟨g1, g2, g3⟩ := h (i + 1) z (by simpa using hz)
      exact ⟨g1, g2, fun j u hj => by
        have := g3 j u hj
        rwa [show o + (i + 1) * k + j = o + k + i * k + j by rw [Nat.add_mul]; omega] at this⟩)

theorem has_slice {P : Program} {n : Nat} {t e : TypeId} {x : AV} (hu : P.underlying t = some (.slice e)) (h : HasE P (n + 1) t x) : ∃ ys, x = .sl ys .none ∧ ys.length ≤ maxLen ∧ ∀ y ∈ ys, HasE P n e y := by
  rw [hasE_iff] at h
  obtain ⟨h1, _, h3⟩ := h
  have hs : isStruct P t = false := by unfold isStruct; rw [hu]
  rw [h3 hs, hasT_succ, hu] at h1
  obtain ⟨ys, e, h⟩ := h1
  simp only [List.cons.injEq, and_true] at e
  exact ⟨ys, e, h⟩

theorem has_int {P : Program} {n : Nat} {t : TypeId} {k : IntKind} {x : AV} (hu : P.underlying t = some (.int k)) (h : HasE P (n + 1) t x) : ∃ m, x = .int k m ∧ k.min ≤ m ∧ m ≤ k.max := by
  rw [hasE_iff] at h
  obtain ⟨h1, _, h3⟩ := h
  have hs : isStruct P t = false := by unfold isStruct; rw [hu]
  rw [h3 hs, hasT_succ, hu] at h1
  obtain ⟨m, e, h⟩ := h1
  simp only [List.cons.injEq, and_true] at e
  exact ⟨m, e, h⟩

section

variable {H : Type} {enc : TypeId × Value → H} {P : Program} {W : World} {held : Bool}

theorem fields_has {n m : Nat} {cs : List Value} (ih : ∀ {t : TypeId} {cs : List Value} {x : DataW H × List MemPlace}, goodT P n t = true → DataW.trod enc P W 0 (fun _ => true) held m t cs = some x → ∃ xs, Vl (κ0 W) W cs xs ∧ HasT P n t xs) :
    ∀ {fs : List Field} {off tot : Nat}, contig P off fs = some tot → tot ≤ cs.length → (∀ f ∈ fs, goodT P n f.type = true ∧ ∃ x : DataW H × List MemPlace, DataW.trod enc P W 0 (fun _ => true) held m f.type ((cs.drop f.offset).take (P.cellsOf f.type)) = some x) →
      off ≤ tot ∧ ∃ xs, Vl (κ0 W) W ((cs.drop off).take (tot - off)) xs ∧ HasF P n fs xs
  | [], off, tot, hc, hl, h => by
    simp only [contig, Option.some.injEq] at hc; subst hc
    exact ⟨Nat.le_refl _, [], by simpa using Vl.nil, by rw [hasF_nil]⟩
  | f :: r, off, tot, hc, hl, h => by
    simp only [contig] at hc
    split at hc
    · rename_i ho
      subst ho
      obtain ⟨h1, x, hx⟩ := h f (by simp)
      obtain ⟨ys, hy1, hy2⟩ := ih h1 hx
      obtain ⟨hle, zs, hz1, hz2⟩ := fields_has ih hc hl (fun g hg => h g (List.mem_cons_of_mem _ hg))
      refine ⟨by omega, ys ++ zs, ?_, by rw [hasF_cons]; exact ⟨ys, zs, rfl, hy2, hz2⟩⟩
      have : (cs.drop f.offset).take (tot - f.offset) = (cs.drop f.offset).take (P.cellsOf f.type) ++ (cs.drop (f.offset + P.cellsOf f.type)).take (tot - (f.offset + P.cellsOf f.type)) := by
        rw [show tot - f.offset = P.cellsOf f.type + (tot - (f.offset + P.cellsOf f.type)) by omega, List.take_add, List.drop_drop]
      rw [this]
      exact hy1.append hz1
    · cases hc

/-- AN ARGUMENT THAT READS is a value of its type. -/
theorem trod_has : ∀ {n : Nat} {t : TypeId} {cs : List Value} {fuel : Nat} {x : DataW H × List MemPlace}, goodT P n t = true → DataW.trod enc P W 0 (fun _ => true) held fuel t cs = some x → ∃ xs, Vl (κ0 W) W cs xs ∧ HasT P n t xs
  | 0, _, _, _, _, hg, _ => by cases hg
  | n + 1, t, cs, fuel, x, hg, h => by
    unfold goodT at hg
    split at hg
    · rename_i hu
      obtain ⟨b, rfl, rfl⟩ := DataW.trod_bool hu h
      exact ⟨[.bool b], .cons _ _ _ _ (.bool b) .nil, by rw [hasT_succ, hu]; exact ⟨b, rfl⟩⟩
    · rename_i k hu
      obtain ⟨m, rfl, rfl, hw⟩ := DataW.trod_int hu h
      simp only [Lit.wf, Bool.and_eq_true, decide_eq_true_eq] at hw
      exact ⟨[.int k m], .cons _ _ _ _ (.int k m) .nil, by rw [hasT_succ, hu]; exact ⟨m, rfl, hw⟩⟩
    · rename_i hu
      obtain ⟨s, rfl, rfl, hs⟩ := DataW.trod_string hu h
      exact ⟨[.str s], .cons _ _ _ _ (.str s) .nil, by rw [hasT_succ, hu]; exact ⟨s, rfl, hs⟩⟩
    · rename_i e hu
      simp only [Bool.and_eq_true, decide_eq_true_eq] at hg
      obtain ⟨hge, hpos⟩ := hg
      rcases DataW.trod_slice hu h with ⟨rfl, rfl⟩ | ⟨a, len, cap, elems, rest, m, rfl, rfl, rfl, _, hlc, hcm, hel, he, hr, _⟩
      · exact ⟨[.sl [] .none], .cons _ _ _ _ (.slnil _ (.inr (.inl rfl))) .nil, by rw [hasT_succ, hu]; exact ⟨[], rfl, Nat.zero_le _, fun y hy => by cases hy⟩⟩
      · have hread : ∀ i, i < cap → ∃ cs y, W.cells? 0 (a.add (i * P.cellsOf e)) (P.cellsOf e) = some cs ∧ DataW.trod enc P W 0 (fun _ => true) held m e cs = some y := by
          intro i hi
          by_cases hil : i < len
          · have h1 := he i hil
            obtain ⟨y, hy⟩ : ∃ y, elems[i]? = some y := ⟨elems[i]'(by omega), by simp [show i < elems.length by omega]⟩
            rw [hy] at h1
            obtain ⟨cs, g1, g2⟩ := Option.bind_eq_some_iff.1 h1
            exact ⟨cs, y, g1, g2⟩
          · obtain ⟨hrl, hr'⟩ := hr rfl
            have h1 := hr' (i - len) (by omega)
            rw [show len + (i - len) = i by omega] at h1
            obtain ⟨y, hy⟩ : ∃ y, rest[i - len]? = some y := ⟨rest[i - len]'(by omega), by simp [show i - len < rest.length by omega]⟩
            rw [hy] at h1
            obtain ⟨cs, g1, g2⟩ := Option.bind_eq_some_iff.1 h1
            exact ⟨cs, y, g1, g2⟩
        by_cases hc0 : cap = 0
        · subst hc0
          have : len = 0 := by omega
          subst this
          exact ⟨[.sl [] .none], .cons _ _ _ _ (.slz a _ (.inl rfl)) .nil, by rw [hasT_succ, hu]; exact ⟨[], rfl, Nat.zero_le _, fun y hy => by cases hy⟩⟩
        · have hsp : a = ⟨a.block, a.off, none⟩ := by
            obtain ⟨cs, y, g1, _⟩ := hread 0 (by omega)
            obtain ⟨_, hl, hc⟩ := World.cells?_some g1
            have h0 := hc 0 hpos
            have hx : ∃ u, cs[0]? = some u := ⟨cs[0]'(by omega), by simp [show 0 < cs.length by omega]⟩
            obtain ⟨u, hux⟩ := hx
            rw [hux, Nat.zero_mul] at h0
            have e0 : (a.add 0).add 0 = a := rfl
            rw [e0] at h0
            obtain ⟨b, o, sp⟩ := a
            cases sp with
            | none => rfl
            | some s => unfold World.cell? at h0; split at h0 <;> simp at h0
          generalize hb : a.block = b at hsp
          generalize ho : a.off = o at hsp
          subst hsp
          have hsub : ∀ i, i < len → ∃ cs xs, Vl (κ0 W) W cs xs ∧ HasT P n e xs ∧ xs.length = P.cellsOf e ∧ ∀ j u, cs[j]? = some u → (κ0 W).I b (o + i * P.cellsOf e + j) ∧ W.cell? ⟨b, o + i * P.cellsOf e + j, none⟩ = some u := by
            intro i hi
            obtain ⟨cs, y, g1, g2⟩ := hread i (by omega)
            obtain ⟨xs, k1, k2⟩ := trod_has hge g2
            obtain ⟨_, hl, hc⟩ := World.cells?_some g1
            refine ⟨cs, xs, k1, k2, by rw [← k1.length, hl], fun j u hj => ?_⟩
            have hjl : j < P.cellsOf e := by rw [← hl]; exact (List.getElem?_eq_some_iff.1 hj).1
            have := hc j hjl
            rw [hj, add_spot, add_spot] at this
            refine ⟨?_, this⟩
            show b < W.heap.size
            rcases Nat.lt_or_ge b W.heap.size with hlt | hge
            · exact hlt
            · unfold World.cell? at this; simp [Array.getElem?_eq_none hge] at this
          let f : Nat → List Value := fun i => if h : i < len then (hsub i h).choose else []
          let g : Nat → List AV := fun i => if h : i < len then (hsub i h).choose_spec.choose else []
          have hfg : ∀ i, i < len → Vl (κ0 W) W (f i) (g i) ∧ HasT P n e (g i) ∧ (g i).length = P.cellsOf e ∧ ∀ j u, (f i)[j]? = some u → (κ0 W).I b (o + i * P.cellsOf e + j) ∧ W.cell? ⟨b, o + i * P.cellsOf e + j, none⟩ = some u := by
            intro i hi
            have := (hsub i hi).choose_spec.choose_spec
            simp only [f, g, hi, dif_pos]
            exact this
          let ys : List AV := (List.range len).map fun i => mkE P e (g i)
          have hyl : ys.length = len := by simp [ys]
          have hyi : ∀ i y, ys[i]? = some y → i < len ∧ y = mkE P e (g i) := by
            intro i y hy
            have hi : i < len := by rw [← hyl]; exact (List.getElem?_eq_some_iff.1 hy).1
            refine ⟨hi, ?_⟩
            simp [ys, hi] at hy
            exact hy.symm
          refine ⟨[.sl ys .none], .cons _ _ _ _ ?_ .nil, ?_⟩
          · rw [← hyl]
            refine .sl b o cap (P.cellsOf e) ys (fun y hy => ?_) (by rw [hyl]; exact hlc) (vs_elems (k := P.cellsOf e) (f := f) (fun i y hy => ?_))
            · obtain ⟨i, hi⟩ := List.getElem?_of_mem hy
              obtain ⟨hil, rfl⟩ := hyi i y hi
              obtain ⟨_, h2, h3, _⟩ := hfg i hil
              rw [(mkE_has h2).1, h3]
            · obtain ⟨hil, rfl⟩ := hyi i y hy
              obtain ⟨h1, h2, h3, h4⟩ := hfg i hil
              rw [(mkE_has h2).1]
              exact ⟨h1, h3, h4⟩
          · rw [hasT_succ, hu]
            refine ⟨ys, rfl, by rw [hyl]; omega, fun y hy => ?_⟩
            obtain ⟨i, hi⟩ := List.getElem?_of_mem hy
            obtain ⟨hil, rfl⟩ := hyi i y hi
            obtain ⟨_, h2, _⟩ := hfg i hil
            exact (mkE_has h2).2
    · rename_i fs hu
      simp only [Bool.and_eq_true, List.all_eq_true, beq_iff_eq] at hg
      obtain ⟨xs, m, rfl, rfl, hl, hxl, hf⟩ := DataW.trod_struct hu h
      obtain ⟨_, zs, hz1, hz2⟩ := fields_has (cs := cs) (n := n) (m := m) (fun hg h => trod_has hg h) (fs := fs.toList) hg.2 (by omega) (fun f hfm => by
        refine ⟨hg.1 f hfm, ?_⟩
        obtain ⟨i, hi⟩ := List.getElem?_of_mem hfm
        have hi' : fs[i]? = some f := by simpa using hi
        have hil : i < fs.size := (Array.getElem?_eq_some_iff.1 hi').1
        exact ⟨xs[i]'(by omega), by rw [hf i f hi']; simp [show i < xs.length by omega]⟩)
      refine ⟨zs, ?_, by rw [hasT_succ, hu]; exact hz2⟩
      rw [Nat.sub_zero, List.drop_zero, ← hl, List.take_length] at hz1
      exact hz1
    · cases hg

end

end Go.VL

namespace Go.VL

open Go.RowKit

inductive HasAll (P : Program) (n : Nat) : List TypeId → List AV → Prop where
  | nil : HasAll P n [] []
  | cons {t : TypeId} {x : AV} {ts : List TypeId} {xs : List AV} (h : HasE P n t x) (r : HasAll P n ts xs) : HasAll P n (t :: ts) (x :: xs)

section

variable {H : Type} {enc : TypeId × Value → H} {P : Program} {W : World}

theorem arg_has {n : Nat} {r : Reach} {b0 : Nat} {t : TypeId} {v : Value} {d : DataW H} {ps : List MemPlace} (hg : goodT P n t = true) (hok : Value.okWide P W r b0 t v) (hd : DataW.Trod enc P W 0 (fun _ => true) true t v d ps) : ∃ x, V (κ0 W) W v x ∧ HasE P n t x := by
  obtain ⟨fuel, hf⟩ := hd
  obtain ⟨xs, h1, h2⟩ := trod_has hg hf
  refine ⟨mkE P t xs, ?_, (mkE_has h2).2⟩
  unfold mkE
  by_cases hs : isStruct P t = true
  · simp only [hs, if_true]
    unfold isStruct at hs
    split at hs
    · rename_i fs hu
      simp only [Value.okWide, hu] at hok
      obtain ⟨cs, rfl, _⟩ := hok
      obtain ⟨l⟩ := cs
      exact .agg _ _ (by simpa [Value.cells] using h1)
    · cases hs
  · have hs' : isStruct P t = false := by simpa using hs
    obtain ⟨x, rfl, hx⟩ := h2.single hs'
    simp only [hs', Bool.false_eq_true, if_false, List.headD_cons]
    have hna : ∀ cs, v ≠ .agg cs := by
      rintro cs rfl
      cases n with
      | zero => cases hg
      | succ n =>
        unfold goodT at hg
        split at hg
        · rename_i hu; simp [Value.okWide, hu, Cell.okWide, Cell.ok] at hok
        · rename_i hu; simp [Value.okWide, hu, Cell.okWide, Cell.ok] at hok
        · rename_i hu; simp [Value.okWide, hu, Cell.okWide, Cell.ok] at hok
        · rename_i hu; simp [Value.okWide, hu, Cell.okWide, Cell.ok] at hok
        · rename_i hu; unfold isStruct at hs'; rw [hu] at hs'; cases hs'
        · cases hg
    have hc : v.cells.toList = [v] := by
      cases v <;> first | rfl | exact absurd rfl (hna _)
    rw [hc] at h1
    cases h1 with
    | cons _ _ _ _ h _ => exact h

theorem args_has {n : Nat} {r : Reach} {b0 : Nat} : ∀ {ts : List TypeId} {vs : List Value} {ds : List (DataW H)} {ps : List MemPlace}, (∀ t ∈ ts, goodT P n t = true) → (∀ (j : Nat) t v, ts[j]? = some t → vs[j]? = some v → Value.okWide P W r b0 t v) →
    DataW.TrodAll enc P W 0 (fun _ => true) true ts vs ds ps → ∃ xs, Vl (κ0 W) W vs xs ∧ HasAll P n ts xs
  | [], [], [], _, _, _, _ => ⟨[], .nil, .nil⟩
  | t :: ts, v :: vs, d :: ds, ps, hg, hok, ⟨p, q, h1, h2, _⟩ => by
    obtain ⟨x, k1, k2⟩ := arg_has (hg t (by simp)) (hok 0 t v rfl rfl) h1
    obtain ⟨xs, k3, k4⟩ := args_has (fun t ht => hg t (List.mem_cons_of_mem _ ht)) (fun j t v ht hv => hok (j + 1) t v (by simpa using ht) (by simpa using hv)) h2
    exact ⟨x :: xs, .cons _ _ _ _ k1 k3, .cons k2 k4⟩
  | [], _ :: _, _, _, _, _, h => by simp [DataW.TrodAll] at h
  | [], [], _ :: _, _, _, _, h => by simp [DataW.TrodAll] at h
  | _ :: _, [], _, _, _, _, h => by simp [DataW.TrodAll] at h
  | _ :: _, _ :: _, [], _, _, _, h => by simp [DataW.TrodAll] at h

theorem trodAll_below (hl : laidOutB P = true) {W' : World} (hb : Below W.heap.size W W') : ∀ {ts : List TypeId} {vs : List Value} {ds : List (DataW H)} {ps : List MemPlace}, (∀ t ∈ ts, P.readableRec t = true ∧ t < P.types.size) →
    DataW.TrodAll enc P W 0 (fun _ => true) true ts vs ds ps → DataW.TrodAll enc P W' 0 (fun b => decide (b < W.heap.size)) true ts vs ds ps
  | [], [], [], _, _, h => by simpa [DataW.TrodAll] using h
  | t :: ts, v :: vs, d :: ds, ps, ht, ⟨p, q, h1, h2, e⟩ => by
    have hlt : ∀ x ∈ p, x.block < W.heap.size := by
      obtain ⟨n, hn⟩ := h1
      exact DataW.trod_lt n t _ _ hn
    exact ⟨p, q, Below.trod hl (ht t (by simp)).1 (ht t (by simp)).2 h1 hb hlt, trodAll_below hl hb (fun t h => ht t (List.mem_cons_of_mem _ h)) h2, e⟩
  | [], _ :: _, _, _, _, h => by simp [DataW.TrodAll] at h
  | [], [], _ :: _, _, _, h => by simp [DataW.TrodAll] at h
  | _ :: _, [], _, _, _, h => by simp [DataW.TrodAll] at h
  | _ :: _, _ :: _, [], _, _, h => by simp [DataW.TrodAll] at h

theorem trodAll_len {w : World} {b : Nat} {sp : Nat → Bool} {hd : Bool} : ∀ {ts : List TypeId} {vs : List Value} {ds : List (DataW H)} {ps : List MemPlace}, DataW.TrodAll enc P w b sp hd ts vs ds ps → ds.length = ts.length
  | [], [], [], _, _ => rfl
  | t :: ts, v :: vs, d :: ds, ps, ⟨p, q, h1, h2, e⟩ => by simp [trodAll_len h2]
  | [], _ :: _, _, _, h => by simp [DataW.TrodAll] at h
  | [], [], _ :: _, _, h => by simp [DataW.TrodAll] at h
  | _ :: _, [], _, _, h => by simp [DataW.TrodAll] at h
  | _ :: _, _ :: _, [], _, h => by simp [DataW.TrodAll] at h

/-- THE ROW's CONTRACT, from what a call comes to over values -/
theorem law_calls (n : Nat) {f : FuncId} {fn : Func} {s : ChangeSpec} {tb : TypeId} (hl : laidOutB P = true)
    (hps : fn.params.toList.all (fun t => goodT P n t && P.readableRec t && decide (t < P.types.size)) = true) (hvars : s.vars = []) (hrt : fn.resultTypes = #[tb]) (hb : P.underlying tb = some .bool)
    (hfn : ∀ ds : List (DataW H), ds.length = fn.params.toList.length → s.fn H ds = { results := [.lit (.bool true)], args := ds })
    (hwalk : ∀ xs, HasAll P n fn.params.toList xs → ACalls P f xs σ0 (fun v _ => v = .bool true))
    {base : Nat} {args : Array Value} {ds gs : List (DataW H)} {before : List MemPlace}
    (hval : ∀ (j : Nat) t v, fn.params[j]? = some t → args[j]? = some v → Value.okWide P W .any base t v)
    (hW : DataW.Whole enc P fn.params.toList s.vars false W args.toList ds gs before) :
    Calls P f args W fun e W' => ∃ v, e = .returned v ∧ s.post enc P fn false true false false W args v W' := by
  simp only [List.all_eq_true, Bool.and_eq_true, decide_eq_true_eq] at hps
  have hW' := hW
  obtain ⟨p, q, hA, hV, hbf, _, _⟩ := hW
  rw [hvars] at hV
  have hgs : gs = [] ∧ q = [] := by
    cases gs with
    | nil => exact ⟨rfl, by simpa [DataW.TrodVars] using hV⟩
    | cons _ _ => simp [DataW.TrodVars] at hV
  obtain ⟨rfl, rfl⟩ := hgs
  obtain ⟨xs, h1, h2⟩ := args_has (n := n) (fun t ht => (hps t ht).1.1) (fun j t v ht hv => hval j t v (by simpa using ht) (by simpa using hv)) hA
  obtain ⟨l⟩ := args
  refine ((hwalk xs h2).2 (κ0 W) W l 0 (fun _ => False) (R0 W) h1).mono ?_
  rintro e W' ⟨v, x, κ', σ', rfl, _, _, _, hfr, _, hv, hx⟩
  subst hx
  refine ⟨v, rfl, ?_⟩
  rw [hv.bool_inv]
  have hbelow : Below W.heap.size W W' := ⟨hfr.os.os, hfr.tape, hfr.output, hfr.size, fun b hlt => hfr.block b hlt (by rintro ⟨n, r, hn, _⟩; simp [σ0] at hn)⟩
  have hd := hfn ds (trodAll_len hA)
  refine ⟨ds, [], before, [], p, [], hW', ?_, ?_, ?_, hbelow.frame _, fun h => by cases h⟩
  · rw [List.append_nil, hd, hrt]
    exact ⟨[], [], shut_bool hb true, rfl, rfl⟩
  · rw [List.append_nil, hd]
    exact trodAll_below hl hbelow (fun t ht => ⟨(hps t ht).1.2, (hps t ht).2⟩) hA
  · rw [hvars, List.append_nil, hd]
    rfl

end

end Go.VL

namespace Go.VL

open Go.Proofs

abbrev ann : Ann := { errs := [(31, .i64)] }

abbrev n_right : Nat := 112

abbrev n_step : Nat := 168

end Go.VL

namespace Go.VL

open Go.Proofs

theorem hm : Try.prog.follows .mixedOrders = true := by kernel_rfl

def nums (k : IntKind) (l : List Int) : List AV := l.map (.int k)

theorem nums_len (k : IntKind) (l : List Int) : (nums k l).length = l.length := by simp [nums]

theorem nums_get (k : IntKind) {l : List Int} {i : Nat} (h : i < l.length) : (nums k l)[i]? = some (.int k l[i]) := by simp [nums, h]

theorem wrap64 {n : Int} (h0 : -9223372036854775808 ≤ n) (h1 : n < 9223372036854775808) : IntKind.i64.wrap n = n := by
  simp [IntKind.wrap, IntKind.bits, IntKind.signed]; omega

def rightB (w : Int) : Bool := decide (w = 1 ∨ w = 2 ∨ w = 4 ∨ w = 8)

end Go.VL

namespace Go.VL

open Go.Proofs

def g_right : List AV → Option AV
  | [.int .i64 w] => some (.bool (rightB w))
  | _ => none

def t1 : Tbl := [(n_right, g_right)]

theorem bytesAV_len (x : List UInt8) : (bytesAV x).length = x.length := by simp [bytesAV]

theorem bytesAV_er (x : List UInt8) : (bytesAV x).map AV.er = bytesAV x := by
  simp only [bytesAV, List.map_map]; rfl

end Go.VL

namespace Go.VL

def bitstep (x : BitVec 32) : BitVec 32 := if x.getLsbD 0 then (x >>> 1) ^^^ 0xEDB88320#32 else x >>> 1

def stepN : Nat → BitVec 32 → BitVec 32
  | 0, x => x
  | n + 1, x => stepN n (bitstep x)

/-! ### The operations on words -/

end Go.VL

namespace Go.VL

open Go.Proofs

def step8I (m : Int) : Int := ((stepN 8 (BitVec.ofInt 32 m)).toNat : Int)

/-- (told by choice, so that nobody reckons it) -/
noncomputable def inU32 (m : Int) : Bool := @decide (0 ≤ m ∧ m < 4294967296) (Classical.propDecidable _)

noncomputable def g_step : List AV → Option AV
  | [.int .u32 m] => if inU32 m = true then some (.int .u32 (step8I m)) else none
  | _ => none

noncomputable def t2 : Tbl := [(n_step, g_step)]

def tab (i : Nat) : List AV := (List.range 256).map fun j => .int .u32 (if j < i then step8I (j : Int) else 0)

end Go.VL

namespace Go.VL

open Go.Proofs

theorem nb_bytes (m : Nat) (l : List UInt8) : nbs m (bytesAV l) := by
  rw [nbs_iff]
  intro x hx
  simp only [bytesAV, List.mem_map] at hx
  obtain ⟨b, _, rfl⟩ := hx
  trivial

end Go.VL

namespace Go.VL

open Go.Proofs

theorem Fin.quietw {σ0 : St} {rs : List RX} {K : AV → St → Prop} {ρ : List AV} {σ : St} {xs : List AV} {y : AV} (h1 : rvals ρ σ rs = some xs) (hw : Wk (pack xs) y) (hx : y.nb σ0.next) (hr : ∀ n r, σ0.res n = some r → σ.res n = some r) (h2 : K y σ0) : Fin σ0 rs K .ret ρ σ :=
  ⟨ρ, σ, xs, _, σ0, .refl, h1, (Gv.wk hw).trans (.quiet hx hr), h2⟩

theorem toBytes_bytes : ∀ l : List UInt8, toBytes (bytesAV l) = some l
  | [] => rfl
  | b :: r => by
    have h := toBytes_bytes r
    simp only [bytesAV] at h
    simp only [bytesAV, List.map_cons, toBytes, h, Option.map_some, Int.toNat_natCast]
    simp

theorem ba_eq (a b : List UInt8) : decide ((⟨a.toArray⟩ : ByteArray) = ⟨b.toArray⟩) = decide (a = b) := by
  by_cases h : a = b
  · subst h; simp
  · rw [decide_eq_false h, decide_eq_false]
    intro e
    injection e with e
    exact h (by simpa using e)

end Go.VL

namespace Go.VL

open Go.Proofs

/-- what a reader may be -/
structure Rd (l : List UInt8) (at_ bad : Int) : Prop where
  len : l.length ≤ 1099511627776
  lo : 0 ≤ at_
  hi : at_ ≤ l.length

end Go.VL

namespace Go.VL

open Go.Proofs

theorem set_quiet {σ σ' : St} (wf : WF σ) (hn : σ.next ≤ σ'.next) (ho : ∀ n x, σ.res n = some x → σ'.res n = some x) {k a : Nat} (r : Res) (ha : σ'.next ≤ a) : ∀ n x, σ.res n = some x → ((σ'.up k).set a r).res n = some x := by
  intro n x hr
  have hn' : n < σ.next := by
    rcases Nat.lt_or_ge n σ.next with h | h
    · exact h
    · rw [wf n h] at hr; cases hr
  rw [St.set_other _ _ (by omega)]; exact ho n x hr

end Go.VL

namespace Go.VL

open Go.Proofs

/-- how far a reader is, and where something is amiss (-1: nowhere) -/
structure Rs where
  at_ : Int
  bad : Int

def Rs.ok (l : List UInt8) (s : Rs) : Prop := Rd l s.at_ s.bad ∧ (s.bad = -1 ∨ 0 ≤ s.bad)

def r0 : Rs := ⟨0, -1⟩

end Go.VL

namespace Go.VL

open Go.Proofs

/-- the same, and perhaps more behind it -/
structure Like (ρ τ : St) : Prop where
  next : ρ.next ≤ τ.next
  same : ∀ n, n < ρ.next → τ.res n = ρ.res n

theorem Like.refl (σ : St) : Like σ σ := ⟨Nat.le_refl _, fun _ _ => rfl⟩

theorem Like.trans {a b c : St} (h : Like a b) (k : Like b c) : Like a c := ⟨Nat.le_trans h.next k.next, fun n hn => (k.same n (Nat.lt_of_lt_of_le hn h.next)).trans (h.same n hn)⟩

theorem Like.up {a b : St} (h : Like a b) (k : Nat) : Like a (b.up k) := ⟨Nat.le_trans h.next (Nat.le_add_right _ _), h.same⟩

theorem Like.set {a b : St} (h : Like a b) {n : Nat} (r : Res) (hn : a.next ≤ n) : Like a (b.set n r) := ⟨h.next, fun m hm => by rw [St.set_other _ _ (by omega)]; exact h.same m hm⟩

theorem Like.del {a b : St} (h : Like a b) {n : Nat} (hn : a.next ≤ n) : Like a (b.del n) := ⟨h.next, fun m hm => by
  have : m ≠ n := by omega
  rw [← h.same m hm]; simp [St.del, this]⟩

theorem Like.put {a b : St} (h : Like a b) (n : Nat) (r : Res) : Like (a.set n r) (b.set n r) := ⟨h.next, fun m hm => by
  have hm' : m < a.next := hm
  by_cases e : m = n
  · subst e; simp
  · rw [St.set_other _ _ e, St.set_other _ _ e]; exact h.same m hm'⟩

theorem Like.one {σ σ' : St} {g k : Nat} (h : OneTip σ σ' g k) : Like σ σ' := ⟨by have := h.lo; have := h.hi; omega, fun n hn => by rw [h.res, St.set_other _ _ (by have := h.lo; omega)]⟩

theorem Like.get {a b : St} (h : Like a b) {n : Nat} (hn : n < a.next) {r : Res} (hr : a.res n = some r) : b.res n = some r := by rw [h.same n hn]; exact hr

theorem WF.lt {σ : St} (wf : WF σ) {n : Nat} {r : Res} (h : σ.res n = some r) : n < σ.next := by
  rcases Nat.lt_or_ge n σ.next with h' | h'
  · exact h'
  · rw [wf n h'] at h; cases h

/-- what is left behind a call may be told as it is, but for names that nobody knows -/
theorem Gv.like {σ0 τ ρ : St} {x : AV} (h : Like ρ τ) (hn : ρ.next = σ0.next) (hx : x.nb σ0.next) (hr : ∀ n r, ρ.res n = some r → n < σ0.next ∧ (σ0.res n = some r ∨ r.nb σ0.next)) : Gv σ0 x τ x ρ :=
  .cut (Nat.le_of_eq hn.symm) (by rw [hn]; exact hx) (fun n r hnr => by
    obtain ⟨h1, h2⟩ := hr n r hnr
    refine ⟨by rw [h.same n (by omega)]; exact hnr, ?_⟩
    rcases h2 with h2 | h2
    · exact .inl h2
    · exact .inr ⟨by omega, by rw [hn]; exact h2⟩)

theorem inc64' {i n : Nat} (h : i < n) (hn : n ≤ 4611686018427387904) : IntKind.i64.wrap ((i : Int) + 1) = ((i + 1 : Nat) : Int) := by
  rw [wrap64 (by omega) (by omega)]; omega

/-- a named end, and what was there ahead of it -/
structure Tq (σ t : St) (g k : Nat) : Prop where
  like : Like σ t
  at_ : t.res g = some (.tip k)
  lo : σ.next ≤ g
  hi : g < t.next

theorem Tq.up {σ t : St} {g k : Nat} (h : Tq σ t g k) (n : Nat) : Tq σ (t.up n) g k := ⟨h.like.up n, h.at_, h.lo, Nat.lt_of_lt_of_le h.hi (Nat.le_add_right _ _)⟩

theorem Tq.new {σ t : St} (h : Like σ t) {n i : Nat} (hi : i < n) (k : Nat) : Tq σ ((t.up n).set (t.next + i) (.tip k)) (t.next + i) k :=
  ⟨(h.up n).set _ (by have := h.next; omega), by simp, by have := h.next; omega, by simp; omega⟩

theorem Tq.app {σ t : St} {g k : Nat} (h : Tq σ t g k) {n i : Nat} (hi : i < n) : Tq σ (((t.up n).del g).set (t.next + i) (.tip k)) (t.next + i) k :=
  ⟨((h.like.up n).del h.lo).set _ (by have := h.like.next; omega), by simp, by have := h.like.next; omega, by simp; omega⟩

theorem Tq.box {σ t : St} {g k : Nat} (h : Tq σ t g k) {n i : Nat} (hi : i < n) (r : Res) : Tq σ ((t.up n).set (t.next + i) r) g k :=
  ⟨(h.like.up n).set _ (by have := h.like.next; omega), by rw [St.set_other _ _ (by have := h.hi; omega)]; exact h.at_, h.lo, by have := h.hi; simp; omega⟩

theorem Tq.one {σ t : St} {g k : Nat} (h : OneTip σ t g k) : Tq σ t g k := ⟨.one h, h.at_, h.lo, h.hi⟩

theorem Tq.trans {σ t u : St} {g k : Nat} (h : Like σ t) (q : Tq t u g k) : Tq σ u g k := ⟨h.trans q.like, q.at_, Nat.le_trans h.next q.lo, q.hi⟩

theorem Like.quiet {σ t : St} (wf : WF σ) (h : Like σ t) : ∀ n x, σ.res n = some x → t.res n = some x := fun _ _ hx => h.get (wf.lt hx) hx

theorem Tq.quiet {σ t : St} {g k : Nat} (wf : WF σ) (h : Tq σ t g k) : ∀ n x, σ.res n = some x → t.res n = some x := h.like.quiet wf

theorem Like.box {σ t : St} (h : Like σ t) {n i : Nat} (r : Res) : Like σ ((t.up n).set (t.next + i) r) := (h.up n).set _ (by have := h.next; omega)

theorem Tq.mv {σ t : St} {g k : Nat} (h : Tq σ t g k) {g2 : Nat} (lo : σ.next ≤ g2) (hi : g2 < t.next) : Tq σ ((t.del g).set g2 (.tip k)) g2 k :=
  ⟨(h.like.del h.lo).set _ lo, by simp, lo, hi⟩

/-- a named end, and an owned thing -/
structure Tb (σ t : St) (g k a : Nat) (r : Res) : Prop where
  q : Tq σ t g k
  b : t.res a = some r
  lt : a < t.next
  ne : a ≠ g

theorem Tb.bs {σ t : St} {g k a : Nat} {r : Res} (h : Tb σ t g k a r) : ∀ n, (t.up n).res a = some r := fun _ => h.b

theorem Tb.app {σ t : St} {g k a : Nat} {r : Res} (h : Tb σ t g k a r) {n i : Nat} (hi : i < n) : Tb σ (((t.up n).del g).set (t.next + i) (.tip k)) (t.next + i) k a r :=
  ⟨h.q.app hi, by
    have := h.lt
    rw [St.set_other _ _ (by omega)]
    have hne := h.ne
    simp only [St.del, if_neg hne]; exact h.b, by have := h.lt; simp; omega, by have := h.lt; omega⟩

theorem Tq.tb {σ t : St} {g k : Nat} (q : Tq σ t g k) {n i : Nat} (hi : i < n) (r : Res) : Tb σ ((t.up n).set (t.next + i) r) g k (t.next + i) r :=
  ⟨q.box hi r, by simp, by simp; omega, by have := q.hi; omega⟩

end Go.VL

namespace Go.VL

open Go.Proofs

abbrev n_few : Nat := 26

def c_few : C := (.seq (.reg [⟨(some 4), (.mv (.c (.bool false))), none⟩]) (.seq (.seq (.reg [⟨(some 5), (.mv (.c (.int .i64 0))), none⟩]) (.block 0 (.loop (.seq (.seq (.reg [⟨(some 6), (.mv (.t 5)), none⟩, ⟨(some 7), (.mv (.t 0)), none⟩, ⟨(some 8), (.len (.t 7)), none⟩, ⟨(some 9), (.bin .lss .i64 (.t 6) (.t 8)), none⟩]) (.cond (.t 9) .skip (.exit 0))) (.seq (.block 1 (.seq (.reg [⟨(some 12), (.mv (.t 0)), none⟩, ⟨(some 13), (.mv (.t 5)), none⟩, ⟨(some 14), (.iaddr 5 (.t 12) (.t 13)), none⟩, ⟨(some 15), (.faddr 4 (.t 14)), none⟩, ⟨(some 16), (.load none (.t 15)), none⟩, ⟨(some 17), (.len (.t 16)), none⟩, ⟨(some 18), (.bin .gtr .i64 (.t 17) (.c (.int .i64 200))), none⟩]) (.cond (.t 18) (.seq (.reg [⟨(some 4), (.mv (.c (.bool false))), none⟩]) .ret) .skip))) (.reg [⟨(some 10), (.mv (.t 5)), none⟩, ⟨(some 11), (.bin .add .i64 (.t 10) (.c (.int .i64 1))), none⟩, ⟨(some 5), (.mv (.t 11)), none⟩])))))) (.seq (.reg [⟨(some 19), (.mv (.t 0)), none⟩, ⟨(some 20), (.len (.t 19)), none⟩, ⟨(some 21), (.mv (.t 1)), none⟩, ⟨(some 22), (.bin .leq .i64 (.t 20) (.t 21)), none⟩, ⟨(some 4), (.mv (.t 22)), none⟩]) .ret)))

set_option maxRecDepth 100000 in
theorem k_few : compileC Try.prog ann (Try.f26.body.getD .skip) = some c_few := by kernel_rfl

theorem s_few {args : List AV} {σ : St} {K : AV → St → Prop} (h : WF σ → T Try.prog ann c_few (Fin σ [(.t 4)] K) (args ++ List.replicate (23 - args.length) (.tup [])) σ) : ACalls Try.prog n_few args σ K :=
  calls_ok Try.func26 (by kernel_rfl) (by kernel_rfl) k_few (by kernel_rfl) (by kernel_rfl) h

abbrev n_may : Nat := 118

def c_may : C := (.seq (.reg [⟨(some 1), (.box (.t 0)), none⟩, ⟨(some 2), (.mv (.c (.bool false))), none⟩]) (.seq (.reg [⟨(some 3), (.faddr 2 (.t 1)), none⟩, ⟨(some 4), (.load none (.t 3)), none⟩, ⟨(some 5), (.bin .geq .i64 (.t 4) (.c (.int .i64 0))), none⟩, ⟨(some 6), (.mv (.t 5)), none⟩, ⟨(some 7), (.faddr 2 (.t 1)), (some (6, true))⟩, ⟨(some 8), (.load none (.t 7)), (some (6, true))⟩, ⟨(some 9), (.faddr 3 (.t 1)), (some (6, true))⟩, ⟨(some 10), (.load none (.t 9)), (some (6, true))⟩, ⟨(some 11), (.bin .leq .i64 (.t 8) (.t 10)), (some (6, true))⟩, ⟨(some 12), (.pick (.t 6) (.t 11) (.c (.bool false))), none⟩, ⟨(some 13), (.mv (.t 12)), none⟩, ⟨(some 14), (.faddr 3 (.t 1)), (some (13, true))⟩, ⟨(some 15), (.load none (.t 14)), (some (13, true))⟩, ⟨(some 16), (.bin .leq .i64 (.t 15) (.c (.int .i64 1099511627776))), (some (13, true))⟩, ⟨(some 17), (.pick (.t 13) (.t 16) (.c (.bool false))), none⟩, ⟨(some 18), (.mv (.t 17)), none⟩, ⟨(some 19), (.faddr 4 (.t 1)), (some (18, true))⟩, ⟨(some 20), (.load none (.t 19)), (some (18, true))⟩, ⟨(some 21), (.len (.t 20)), (some (18, true))⟩, ⟨(some 22), (.bin .leq .i64 (.t 21) (.c (.int .i64 64))), (some (18, true))⟩, ⟨(some 23), (.pick (.t 18) (.t 22) (.c (.bool false))), none⟩, ⟨(some 2), (.mv (.t 23)), none⟩]) .ret))

set_option maxRecDepth 100000 in
theorem k_may : compileC Try.prog ann (Try.f118.body.getD .skip) = some c_may := by kernel_rfl

theorem s_may {args : List AV} {σ : St} {K : AV → St → Prop} (h : WF σ → T Try.prog ann c_may (Fin σ [(.t 2)] K) (args ++ List.replicate (24 - args.length) (.tup [])) σ) : ACalls Try.prog n_may args σ K :=
  calls_ok Try.func118 (by kernel_rfl) (by kernel_rfl) k_may (by kernel_rfl) (by kernel_rfl) h

abbrev n_nan1 : Nat := 155

def c_nan1 : C := (.seq (.reg [⟨(some 2), (.mv (.c (.bool false))), none⟩]) (.seq (.reg [⟨(some 3), (.mv (.t 0)), none⟩, ⟨(some 4), (.mv (.t 0)), none⟩, ⟨(some 5), (.bin .neq .i64 (.t 3) (.t 4)), none⟩, ⟨(some 2), (.mv (.t 5)), none⟩]) .ret))

set_option maxRecDepth 100000 in
theorem k_nan1 : compileC Try.prog ann (Try.f155.body.getD .skip) = some c_nan1 := by kernel_rfl

theorem s_nan1 {args : List AV} {σ : St} {K : AV → St → Prop} (h : WF σ → T Try.prog ann c_nan1 (Fin σ [(.t 2)] K) (args ++ List.replicate (6 - args.length) (.tup [])) σ) : ACalls Try.prog n_nan1 args σ K :=
  calls_ok Try.func155 (by kernel_rfl) (by kernel_rfl) k_nan1 (by kernel_rfl) (by kernel_rfl) h

abbrev n_nan2 : Nat := 159

def c_nan2 : C := (.seq (.reg [⟨(some 2), (.mv (.c (.bool false))), none⟩]) (.seq (.reg [⟨(some 3), (.mv (.t 0)), none⟩, ⟨(some 4), (.mv (.t 0)), none⟩, ⟨(some 5), (.bin .neq .u64 (.t 3) (.t 4)), none⟩, ⟨(some 2), (.mv (.t 5)), none⟩]) .ret))

set_option maxRecDepth 100000 in
theorem k_nan2 : compileC Try.prog ann (Try.f159.body.getD .skip) = some c_nan2 := by kernel_rfl

theorem s_nan2 {args : List AV} {σ : St} {K : AV → St → Prop} (h : WF σ → T Try.prog ann c_nan2 (Fin σ [(.t 2)] K) (args ++ List.replicate (6 - args.length) (.tup [])) σ) : ACalls Try.prog n_nan2 args σ K :=
  calls_ok Try.func159 (by kernel_rfl) (by kernel_rfl) k_nan2 (by kernel_rfl) (by kernel_rfl) h

abbrev n_cmpi : Nat := 124

def c_cmpi : C := (.seq (.reg [⟨(some 4), (.mv (.c (.int .i64 0))), none⟩]) (.seq (.reg [⟨(some 7), (.mv (.t 0)), none⟩, ⟨(some 8), (.call 155 [(.t 7)]), none⟩, ⟨(some 5), (.mv (.t 8)), none⟩]) (.seq (.reg [⟨(some 9), (.mv (.t 1)), none⟩, ⟨(some 10), (.call 155 [(.t 9)]), none⟩, ⟨(some 6), (.mv (.t 10)), none⟩]) (.seq (.seq (.reg [⟨(some 11), (.mv (.t 5)), none⟩]) (.cond (.t 11) (.seq (.seq (.reg [⟨(some 12), (.mv (.t 6)), none⟩]) (.cond (.t 12) (.seq (.reg [⟨(some 4), (.mv (.c (.int .i64 0))), none⟩]) .ret) .skip)) (.seq (.reg [⟨(some 4), (.mv (.c (.int .i64 (-1)))), none⟩]) .ret)) .skip)) (.seq (.seq (.reg [⟨(some 13), (.mv (.t 6)), none⟩]) (.cond (.t 13) (.seq (.reg [⟨(some 4), (.mv (.c (.int .i64 1))), none⟩]) .ret) .skip)) (.seq (.seq (.reg [⟨(some 14), (.mv (.t 0)), none⟩, ⟨(some 15), (.mv (.t 1)), none⟩, ⟨(some 16), (.bin .lss .i64 (.t 14) (.t 15)), none⟩]) (.cond (.t 16) (.seq (.reg [⟨(some 4), (.mv (.c (.int .i64 (-1)))), none⟩]) .ret) .skip)) (.seq (.seq (.reg [⟨(some 17), (.mv (.t 0)), none⟩, ⟨(some 18), (.mv (.t 1)), none⟩, ⟨(some 19), (.bin .gtr .i64 (.t 17) (.t 18)), none⟩]) (.cond (.t 19) (.seq (.reg [⟨(some 4), (.mv (.c (.int .i64 1))), none⟩]) .ret) .skip)) (.seq (.reg [⟨(some 4), (.mv (.c (.int .i64 0))), none⟩]) .ret))))))))

set_option maxRecDepth 100000 in
theorem k_cmpi : compileC Try.prog ann (Try.f124.body.getD .skip) = some c_cmpi := by kernel_rfl

theorem s_cmpi {args : List AV} {σ : St} {K : AV → St → Prop} (h : WF σ → T Try.prog ann c_cmpi (Fin σ [(.t 4)] K) (args ++ List.replicate (20 - args.length) (.tup [])) σ) : ACalls Try.prog n_cmpi args σ K :=
  calls_ok Try.func124 (by kernel_rfl) (by kernel_rfl) k_cmpi (by kernel_rfl) (by kernel_rfl) h

abbrev n_cmpu : Nat := 129

def c_cmpu : C := (.seq (.reg [⟨(some 4), (.mv (.c (.int .i64 0))), none⟩]) (.seq (.reg [⟨(some 7), (.mv (.t 0)), none⟩, ⟨(some 8), (.call 159 [(.t 7)]), none⟩, ⟨(some 5), (.mv (.t 8)), none⟩]) (.seq (.reg [⟨(some 9), (.mv (.t 1)), none⟩, ⟨(some 10), (.call 159 [(.t 9)]), none⟩, ⟨(some 6), (.mv (.t 10)), none⟩]) (.seq (.seq (.reg [⟨(some 11), (.mv (.t 5)), none⟩]) (.cond (.t 11) (.seq (.seq (.reg [⟨(some 12), (.mv (.t 6)), none⟩]) (.cond (.t 12) (.seq (.reg [⟨(some 4), (.mv (.c (.int .i64 0))), none⟩]) .ret) .skip)) (.seq (.reg [⟨(some 4), (.mv (.c (.int .i64 (-1)))), none⟩]) .ret)) .skip)) (.seq (.seq (.reg [⟨(some 13), (.mv (.t 6)), none⟩]) (.cond (.t 13) (.seq (.reg [⟨(some 4), (.mv (.c (.int .i64 1))), none⟩]) .ret) .skip)) (.seq (.seq (.reg [⟨(some 14), (.mv (.t 0)), none⟩, ⟨(some 15), (.mv (.t 1)), none⟩, ⟨(some 16), (.bin .lss .u64 (.t 14) (.t 15)), none⟩]) (.cond (.t 16) (.seq (.reg [⟨(some 4), (.mv (.c (.int .i64 (-1)))), none⟩]) .ret) .skip)) (.seq (.seq (.reg [⟨(some 17), (.mv (.t 0)), none⟩, ⟨(some 18), (.mv (.t 1)), none⟩, ⟨(some 19), (.bin .gtr .u64 (.t 17) (.t 18)), none⟩]) (.cond (.t 19) (.seq (.reg [⟨(some 4), (.mv (.c (.int .i64 1))), none⟩]) .ret) .skip)) (.seq (.reg [⟨(some 4), (.mv (.c (.int .i64 0))), none⟩]) .ret))))))))

set_option maxRecDepth 100000 in
theorem k_cmpu : compileC Try.prog ann (Try.f129.body.getD .skip) = some c_cmpu := by kernel_rfl

theorem s_cmpu {args : List AV} {σ : St} {K : AV → St → Prop} (h : WF σ → T Try.prog ann c_cmpu (Fin σ [(.t 4)] K) (args ++ List.replicate (20 - args.length) (.tup [])) σ) : ACalls Try.prog n_cmpu args σ K :=
  calls_ok Try.func129 (by kernel_rfl) (by kernel_rfl) k_cmpu (by kernel_rfl) (by kernel_rfl) h

abbrev n_cor : Nat := 122

def c_cor : C := (.seq (.reg [⟨(some 2), (.mv (.c (.int .i64 0))), none⟩]) (.seq (.reg [⟨(some 3), (.mv (.c (.int .i64 0))), none⟩]) (.seq (.seq (.reg [⟨(some 6), (.mv (.t 0)), none⟩, ⟨(some 7), (.len (.t 6)), none⟩, ⟨(some 8), (.mv (.c (.int .i64 0))), none⟩]) (.block 0 (.loop (.seq (.reg [⟨(some 9), (.bin .lss .i64 (.t 8) (.t 7)), none⟩]) (.seq (.cond (.t 9) .skip (.exit 0)) (.seq (.block 1 (.seq (.reg [⟨(some 10), (.iaddr 1 (.t 6) (.t 8)), none⟩, ⟨(some 11), (.load none (.t 10)), none⟩, ⟨(some 5), (.mv (.t 11)), none⟩]) (.seq (.reg [⟨(some 12), (.mv (.t 5)), none⟩, ⟨(some 13), (.mv (.t 3)), none⟩, ⟨(some 14), (.bin .neq .i64 (.t 12) (.t 13)), none⟩]) (.cond (.t 14) (.seq (.reg [⟨(some 15), (.mv (.t 5)), none⟩, ⟨(some 2), (.mv (.t 15)), none⟩]) .ret) .skip)))) (.reg [⟨(some 16), (.bin .add .i64 (.t 8) (.c (.int .i64 1))), none⟩, ⟨(some 8), (.mv (.t 16)), none⟩]))))))) (.seq (.reg [⟨(some 17), (.mv (.t 3)), none⟩, ⟨(some 2), (.mv (.t 17)), none⟩]) .ret))))

set_option maxRecDepth 100000 in
theorem k_cor : compileC Try.prog ann (Try.f122.body.getD .skip) = some c_cor := by kernel_rfl

theorem s_cor {args : List AV} {σ : St} {K : AV → St → Prop} (h : WF σ → T Try.prog ann c_cor (Fin σ [(.t 2)] K) (args ++ List.replicate (18 - args.length) (.tup [])) σ) : ACalls Try.prog n_cor args σ K :=
  calls_ok Try.func122 (by kernel_rfl) (by kernel_rfl) k_cor (by kernel_rfl) (by kernel_rfl) h

abbrev n_scmp : Nat := 80

def c_scmp : C := (.seq (.reg [⟨(some 2), (.box (.t 0)), none⟩, ⟨(some 3), (.box (.t 1)), none⟩, ⟨(some 4), (.mv (.c (.int .i64 0))), none⟩]) (.seq (.reg [⟨(some 5), (.faddr 2 (.t 2)), none⟩, ⟨(some 6), (.load none (.t 5)), none⟩, ⟨(some 7), (.faddr 2 (.t 3)), none⟩, ⟨(some 8), (.load none (.t 7)), none⟩, ⟨(some 9), (.qcall 124 [(.t 6), (.t 8)]), none⟩, ⟨(some 10), (.faddr 1 (.t 2)), none⟩, ⟨(some 11), (.load none (.t 10)), none⟩, ⟨(some 12), (.faddr 1 (.t 3)), none⟩, ⟨(some 13), (.load none (.t 12)), none⟩, ⟨(some 14), (.qcall 129 [(.t 11), (.t 13)]), none⟩, ⟨(some 15), (.faddr 0 (.t 2)), none⟩, ⟨(some 16), (.load none (.t 15)), none⟩, ⟨(some 17), (.faddr 0 (.t 3)), none⟩, ⟨(some 18), (.load none (.t 17)), none⟩, ⟨(some 19), (.qcall 129 [(.t 16), (.t 18)]), none⟩, ⟨(some 20), (.bslice 1 .val [(.t 9), (.t 14), (.t 19)]), none⟩, ⟨(some 21), (.qcall 122 [(.t 20)]), none⟩, ⟨(some 4), (.mv (.t 21)), none⟩]) .ret))

set_option maxRecDepth 100000 in
theorem k_scmp : compileC Try.prog ann (Try.f80.body.getD .skip) = some c_scmp := by kernel_rfl

theorem s_scmp {args : List AV} {σ : St} {K : AV → St → Prop} (h : WF σ → T Try.prog ann c_scmp (Fin σ [(.t 4)] K) (args ++ List.replicate (22 - args.length) (.tup [])) σ) : ACalls Try.prog n_scmp args σ K :=
  calls_ok Try.func80 (by kernel_rfl) (by kernel_rfl) k_scmp (by kernel_rfl) (by kernel_rfl) h

abbrev n_one : Nat := 107

def c_one : C := (.seq (.reg [⟨(some 1), (.box (.t 0)), none⟩, ⟨(some 2), (.mv (.c (.bool false))), none⟩]) (.seq (.reg [⟨(some 6), .mkMap, none⟩, ⟨(some 3), (.mv (.t 6)), none⟩]) (.seq (.seq (.reg [⟨(some 7), (.faddr 1 (.t 1)), none⟩, ⟨(some 8), (.load none (.t 7)), none⟩, ⟨(some 9), (.len (.t 8)), none⟩, ⟨(some 10), (.mv (.c (.int .i64 0))), none⟩]) (.block 0 (.loop (.seq (.reg [⟨(some 11), (.bin .lss .i64 (.t 10) (.t 9)), none⟩]) (.seq (.cond (.t 11) .skip (.exit 0)) (.seq (.block 1 (.seq (.reg [⟨(some 12), (.mv (.t 10)), none⟩, ⟨(some 13), (.iaddr 5 (.t 8) (.t 10)), none⟩, ⟨(some 14), (.load (some 5) (.t 13)), none⟩, ⟨(some 5), (.alloc [(.int .u64 0), (.int .u64 0), (.int .i64 0), (.int .i64 0), (.sl [] .nil)]), none⟩, ⟨(some 4), (.mv (.t 12)), none⟩, ⟨none, (.store 5 (.t 5) (.t 14)), none⟩]) (.seq (.seq (.reg [⟨(some 15), (.faddr 0 (.t 5)), none⟩, ⟨(some 16), (.load none (.t 15)), none⟩, ⟨(some 17), (.faddr 0 (.t 1)), none⟩, ⟨(some 18), (.load none (.t 17)), none⟩, ⟨(some 19), (.bin .neq .u64 (.t 16) (.t 18)), none⟩, ⟨(some 20), (.mv (.t 19)), none⟩, ⟨(some 21), (.load (some 5) (.t 5)), (some (20, false))⟩, ⟨(some 22), (.qcall 118 [(.t 21)]), (some (20, false))⟩, ⟨(some 23), (.not (.t 22)), (some (20, false))⟩, ⟨(some 24), (.pick (.t 20) (.c (.bool true)) (.t 23)), none⟩, ⟨(some 25), (.mv (.t 24)), none⟩, ⟨(some 26), (.mv (.t 3)), (some (25, false))⟩, ⟨(some 27), (.faddr 1 (.t 5)), (some (25, false))⟩, ⟨(some 28), (.load none (.t 27)), (some (25, false))⟩, ⟨(some 29), (.look 0 (.bool false) false (.t 26) (.t 28)), (some (25, false))⟩, ⟨(some 30), (.pick (.t 25) (.c (.bool true)) (.t 29)), none⟩, ⟨(some 31), (.mv (.t 30)), none⟩, ⟨(some 32), (.mv (.t 4)), (some (31, false))⟩, ⟨(some 33), (.bin .gtr .i64 (.t 32) (.c (.int .i64 0))), (some (31, false))⟩, ⟨(some 34), (.mv (.t 33)), (some (31, false))⟩, ⟨(some 35), (.faddr 1 (.t 1)), (some (34, true))⟩, ⟨(some 36), (.load none (.t 35)), (some (34, true))⟩, ⟨(some 37), (.mv (.t 4)), (some (34, true))⟩, ⟨(some 38), (.bin .sub .i64 (.t 37) (.c (.int .i64 1))), (some (34, true))⟩, ⟨(some 39), (.iaddr 5 (.t 36) (.t 38)), (some (34, true))⟩, ⟨(some 40), (.load (some 5) (.t 39)), (some (34, true))⟩, ⟨(some 41), (.load (some 5) (.t 5)), (some (34, true))⟩, ⟨(some 42), (.qcall 80 [(.t 40), (.t 41)]), (some (34, true))⟩, ⟨(some 43), (.bin .geq .i64 (.t 42) (.c (.int .i64 0))), (some (34, true))⟩, ⟨(some 44), (.pick (.t 34) (.t 43) (.c (.bool false))), (some (31, false))⟩, ⟨(some 45), (.pick (.t 31) (.c (.bool true)) (.t 44)), none⟩]) (.cond (.t 45) (.seq (.reg [⟨(some 2), (.mv (.c (.bool false))), none⟩]) .ret) .skip)) (.reg [⟨(some 46), (.mv (.t 3)), none⟩, ⟨(some 47), (.faddr 1 (.t 5)), none⟩, ⟨(some 48), (.load none (.t 47)), none⟩, ⟨none, (.mapUp 0 (.t 46) (.t 48) (.c (.bool true))), none⟩])))) (.reg [⟨(some 49), (.bin .add .i64 (.t 10) (.c (.int .i64 1))), none⟩, ⟨(some 10), (.mv (.t 49)), none⟩]))))))) (.seq (.reg [⟨(some 50), (.faddr 1 (.t 1)), none⟩, ⟨(some 51), (.load none (.t 50)), none⟩, ⟨(some 52), (.len (.t 51)), none⟩, ⟨(some 53), (.bin .geq .i64 (.t 52) (.c (.int .i64 1))), none⟩, ⟨(some 54), (.mv (.t 53)), none⟩, ⟨(some 55), (.faddr 1 (.t 1)), (some (54, true))⟩, ⟨(some 56), (.load none (.t 55)), (some (54, true))⟩, ⟨(some 57), (.len (.t 56)), (some (54, true))⟩, ⟨(some 58), (.bin .leq .i64 (.t 57) (.c (.int .i64 100))), (some (54, true))⟩, ⟨(some 59), (.pick (.t 54) (.t 58) (.c (.bool false))), none⟩, ⟨(some 2), (.mv (.t 59)), none⟩]) .ret))))

set_option maxRecDepth 100000 in
theorem k_one : compileC Try.prog ann (Try.f107.body.getD .skip) = some c_one := by kernel_rfl

theorem s_one {args : List AV} {σ : St} {K : AV → St → Prop} (h : WF σ → T Try.prog ann c_one (Fin σ [(.t 2)] K) (args ++ List.replicate (60 - args.length) (.tup [])) σ) : ACalls Try.prog n_one args σ K :=
  calls_ok Try.func107 (by kernel_rfl) (by kernel_rfl) k_one (by kernel_rfl) (by kernel_rfl) h

abbrev n_is : Nat := 61

def c_is : C := (.seq (.reg [⟨(some 2), (.mv (.c (.bool false))), none⟩]) (.seq (.seq (.reg [⟨(some 5), (.mv (.t 0)), none⟩, ⟨(some 6), (.len (.t 5)), none⟩, ⟨(some 7), (.mv (.c (.int .i64 0))), none⟩]) (.block 0 (.loop (.seq (.reg [⟨(some 8), (.bin .lss .i64 (.t 7) (.t 6)), none⟩]) (.seq (.cond (.t 8) .skip (.exit 0)) (.seq (.block 1 (.seq (.reg [⟨(some 9), (.mv (.t 7)), none⟩, ⟨(some 10), (.iaddr 2 (.t 5) (.t 7)), none⟩, ⟨(some 11), (.load (some 2) (.t 10)), none⟩, ⟨(some 4), (.alloc [(.int .u64 0), (.sl [] .nil)]), none⟩, ⟨(some 3), (.mv (.t 9)), none⟩, ⟨none, (.store 2 (.t 4) (.t 11)), none⟩]) (.seq (.reg [⟨(some 12), (.load (some 2) (.t 4)), none⟩, ⟨(some 13), (.qcall 107 [(.t 12)]), none⟩, ⟨(some 14), (.not (.t 13)), none⟩, ⟨(some 15), (.mv (.t 14)), none⟩, ⟨(some 16), (.mv (.t 3)), (some (15, false))⟩, ⟨(some 17), (.bin .gtr .i64 (.t 16) (.c (.int .i64 0))), (some (15, false))⟩, ⟨(some 18), (.mv (.t 17)), (some (15, false))⟩, ⟨(some 19), (.mv (.t 0)), (some (18, true))⟩, ⟨(some 20), (.mv (.t 3)), (some (18, true))⟩, ⟨(some 21), (.bin .sub .i64 (.t 20) (.c (.int .i64 1))), (some (18, true))⟩, ⟨(some 22), (.iaddr 2 (.t 19) (.t 21)), (some (18, true))⟩, ⟨(some 23), (.faddr 0 (.t 22)), (some (18, true))⟩, ⟨(some 24), (.load none (.t 23)), (some (18, true))⟩, ⟨(some 25), (.faddr 0 (.t 4)), (some (18, true))⟩, ⟨(some 26), (.load none (.t 25)), (some (18, true))⟩, ⟨(some 27), (.bin .geq .u64 (.t 24) (.t 26)), (some (18, true))⟩, ⟨(some 28), (.pick (.t 18) (.t 27) (.c (.bool false))), (some (15, false))⟩, ⟨(some 29), (.pick (.t 15) (.c (.bool true)) (.t 28)), none⟩]) (.cond (.t 29) (.seq (.reg [⟨(some 2), (.mv (.c (.bool false))), none⟩]) .ret) .skip)))) (.reg [⟨(some 30), (.bin .add .i64 (.t 7) (.c (.int .i64 1))), none⟩, ⟨(some 7), (.mv (.t 30)), none⟩]))))))) (.seq (.reg [⟨(some 2), (.mv (.c (.bool true))), none⟩]) .ret)))

set_option maxRecDepth 100000 in
theorem k_is : compileC Try.prog ann (Try.f61.body.getD .skip) = some c_is := by kernel_rfl

theorem s_is {args : List AV} {σ : St} {K : AV → St → Prop} (h : WF σ → T Try.prog ann c_is (Fin σ [(.t 2)] K) (args ++ List.replicate (31 - args.length) (.tup [])) σ) : ACalls Try.prog n_is args σ K :=
  calls_ok Try.func61 (by kernel_rfl) (by kernel_rfl) k_is (by kernel_rfl) (by kernel_rfl) h

abbrev n_rahead : Nat := 96

def c_rahead : C := (.seq (.reg [⟨(some 2), (.box (.t 0)), none⟩, ⟨(some 3), (.box (.t 1)), none⟩, ⟨(some 4), (.mv (.c (.bool false))), none⟩]) (.seq (.seq (.reg [⟨(some 5), (.faddr 2 (.t 2)), none⟩, ⟨(some 6), (.load none (.t 5)), none⟩, ⟨(some 7), (.faddr 2 (.t 3)), none⟩, ⟨(some 8), (.load none (.t 7)), none⟩, ⟨(some 9), (.bin .neq .i64 (.t 6) (.t 8)), none⟩]) (.cond (.t 9) (.seq (.reg [⟨(some 10), (.faddr 2 (.t 2)), none⟩, ⟨(some 11), (.load none (.t 10)), none⟩, ⟨(some 12), (.faddr 2 (.t 3)), none⟩, ⟨(some 13), (.load none (.t 12)), none⟩, ⟨(some 14), (.bin .lss .i64 (.t 11) (.t 13)), none⟩, ⟨(some 4), (.mv (.t 14)), none⟩]) .ret) .skip)) (.seq (.seq (.reg [⟨(some 15), (.faddr 1 (.t 2)), none⟩, ⟨(some 16), (.load none (.t 15)), none⟩, ⟨(some 17), (.faddr 1 (.t 3)), none⟩, ⟨(some 18), (.load none (.t 17)), none⟩, ⟨(some 19), (.bin .neq .u64 (.t 16) (.t 18)), none⟩]) (.cond (.t 19) (.seq (.reg [⟨(some 20), (.faddr 1 (.t 2)), none⟩, ⟨(some 21), (.load none (.t 20)), none⟩, ⟨(some 22), (.faddr 1 (.t 3)), none⟩, ⟨(some 23), (.load none (.t 22)), none⟩, ⟨(some 24), (.bin .lss .u64 (.t 21) (.t 23)), none⟩, ⟨(some 4), (.mv (.t 24)), none⟩]) .ret) .skip)) (.seq (.reg [⟨(some 25), (.faddr 0 (.t 2)), none⟩, ⟨(some 26), (.load none (.t 25)), none⟩, ⟨(some 27), (.faddr 0 (.t 3)), none⟩, ⟨(some 28), (.load none (.t 27)), none⟩, ⟨(some 29), (.bin .lss .u64 (.t 26) (.t 28)), none⟩, ⟨(some 4), (.mv (.t 29)), none⟩]) .ret))))

set_option maxRecDepth 100000 in
theorem k_rahead : compileC Try.prog ann (Try.f96.body.getD .skip) = some c_rahead := by kernel_rfl

theorem s_rahead {args : List AV} {σ : St} {K : AV → St → Prop} (h : WF σ → T Try.prog ann c_rahead (Fin σ [(.t 4)] K) (args ++ List.replicate (30 - args.length) (.tup [])) σ) : ACalls Try.prog n_rahead args σ K :=
  calls_ok Try.func96 (by kernel_rfl) (by kernel_rfl) k_rahead (by kernel_rfl) (by kernel_rfl) h

abbrev n_rsame : Nat := 83

def c_rsame : C := (.seq (.reg [⟨(some 2), (.box (.t 0)), none⟩, ⟨(some 3), (.box (.t 1)), none⟩, ⟨(some 4), (.mv (.c (.bool false))), none⟩]) (.seq (.reg [⟨(some 5), (.faddr 0 (.t 2)), none⟩, ⟨(some 6), (.load none (.t 5)), none⟩, ⟨(some 7), (.faddr 0 (.t 3)), none⟩, ⟨(some 8), (.load none (.t 7)), none⟩, ⟨(some 9), (.bin .eql .u64 (.t 6) (.t 8)), none⟩, ⟨(some 10), (.mv (.t 9)), none⟩, ⟨(some 11), (.faddr 1 (.t 2)), (some (10, true))⟩, ⟨(some 12), (.load none (.t 11)), (some (10, true))⟩, ⟨(some 13), (.faddr 1 (.t 3)), (some (10, true))⟩, ⟨(some 14), (.load none (.t 13)), (some (10, true))⟩, ⟨(some 15), (.bin .eql .u64 (.t 12) (.t 14)), (some (10, true))⟩, ⟨(some 16), (.pick (.t 10) (.t 15) (.c (.bool false))), none⟩, ⟨(some 17), (.mv (.t 16)), none⟩, ⟨(some 18), (.faddr 2 (.t 2)), (some (17, true))⟩, ⟨(some 19), (.load none (.t 18)), (some (17, true))⟩, ⟨(some 20), (.faddr 2 (.t 3)), (some (17, true))⟩, ⟨(some 21), (.load none (.t 20)), (some (17, true))⟩, ⟨(some 22), (.bin .eql .i64 (.t 19) (.t 21)), (some (17, true))⟩, ⟨(some 23), (.pick (.t 17) (.t 22) (.c (.bool false))), none⟩, ⟨(some 24), (.mv (.t 23)), none⟩, ⟨(some 25), (.faddr 3 (.t 2)), (some (24, true))⟩, ⟨(some 26), (.load none (.t 25)), (some (24, true))⟩, ⟨(some 27), (.faddr 3 (.t 3)), (some (24, true))⟩, ⟨(some 28), (.load none (.t 27)), (some (24, true))⟩, ⟨(some 29), (.bin .eql .i64 (.t 26) (.t 28)), (some (24, true))⟩, ⟨(some 30), (.pick (.t 24) (.t 29) (.c (.bool false))), none⟩, ⟨(some 31), (.mv (.t 30)), none⟩, ⟨(some 32), (.faddr 4 (.t 2)), (some (31, true))⟩, ⟨(some 33), (.load none (.t 32)), (some (31, true))⟩, ⟨(some 34), (.convBS (.t 33)), (some (31, true))⟩, ⟨(some 35), (.faddr 4 (.t 3)), (some (31, true))⟩, ⟨(some 36), (.load none (.t 35)), (some (31, true))⟩, ⟨(some 37), (.convBS (.t 36)), (some (31, true))⟩, ⟨(some 38), (.sbin .eql (.t 34) (.t 37)), (some (31, true))⟩, ⟨(some 39), (.pick (.t 31) (.t 38) (.c (.bool false))), none⟩, ⟨(some 4), (.mv (.t 39)), none⟩]) .ret))

set_option maxRecDepth 100000 in
theorem k_rsame : compileC Try.prog ann (Try.f83.body.getD .skip) = some c_rsame := by kernel_rfl

theorem s_rsame {args : List AV} {σ : St} {K : AV → St → Prop} (h : WF σ → T Try.prog ann c_rsame (Fin σ [(.t 4)] K) (args ++ List.replicate (40 - args.length) (.tup [])) σ) : ACalls Try.prog n_rsame args σ K :=
  calls_ok Try.func83 (by kernel_rfl) (by kernel_rfl) k_rsame (by kernel_rfl) (by kernel_rfl) h

abbrev n_rless : Nat := 29

def c_rless : C := (.seq (.reg [⟨(some 2), (.box (.t 0)), none⟩, ⟨(some 3), (.box (.t 1)), none⟩, ⟨(some 4), (.mv (.c (.bool false))), none⟩]) (.seq (.seq (.reg [⟨(some 5), (.faddr 2 (.t 2)), none⟩, ⟨(some 6), (.load none (.t 5)), none⟩, ⟨(some 7), (.faddr 2 (.t 3)), none⟩, ⟨(some 8), (.load none (.t 7)), none⟩, ⟨(some 9), (.bin .neq .i64 (.t 6) (.t 8)), none⟩]) (.cond (.t 9) (.seq (.reg [⟨(some 10), (.faddr 2 (.t 2)), none⟩, ⟨(some 11), (.load none (.t 10)), none⟩, ⟨(some 12), (.faddr 2 (.t 3)), none⟩, ⟨(some 13), (.load none (.t 12)), none⟩, ⟨(some 14), (.bin .lss .i64 (.t 11) (.t 13)), none⟩, ⟨(some 4), (.mv (.t 14)), none⟩]) .ret) .skip)) (.seq (.seq (.reg [⟨(some 15), (.faddr 3 (.t 2)), none⟩, ⟨(some 16), (.load none (.t 15)), none⟩, ⟨(some 17), (.faddr 3 (.t 3)), none⟩, ⟨(some 18), (.load none (.t 17)), none⟩, ⟨(some 19), (.bin .neq .i64 (.t 16) (.t 18)), none⟩]) (.cond (.t 19) (.seq (.reg [⟨(some 20), (.faddr 3 (.t 2)), none⟩, ⟨(some 21), (.load none (.t 20)), none⟩, ⟨(some 22), (.faddr 3 (.t 3)), none⟩, ⟨(some 23), (.load none (.t 22)), none⟩, ⟨(some 24), (.bin .lss .i64 (.t 21) (.t 23)), none⟩, ⟨(some 4), (.mv (.t 24)), none⟩]) .ret) .skip)) (.seq (.reg [⟨(some 25), (.faddr 4 (.t 2)), none⟩, ⟨(some 26), (.load none (.t 25)), none⟩, ⟨(some 27), (.convBS (.t 26)), none⟩, ⟨(some 28), (.faddr 4 (.t 3)), none⟩, ⟨(some 29), (.load none (.t 28)), none⟩, ⟨(some 30), (.convBS (.t 29)), none⟩, ⟨(some 31), (.sbin .lss (.t 27) (.t 30)), none⟩, ⟨(some 4), (.mv (.t 31)), none⟩]) .ret))))

set_option maxRecDepth 100000 in
theorem k_rless : compileC Try.prog ann (Try.f29.body.getD .skip) = some c_rless := by kernel_rfl

theorem s_rless {args : List AV} {σ : St} {K : AV → St → Prop} (h : WF σ → T Try.prog ann c_rless (Fin σ [(.t 4)] K) (args ++ List.replicate (32 - args.length) (.tup [])) σ) : ACalls Try.prog n_rless args σ K :=
  calls_ok Try.func29 (by kernel_rfl) (by kernel_rfl) k_rless (by kernel_rfl) (by kernel_rfl) h

abbrev n_rcounts : Nat := 95

def c_rcounts : C := (.seq (.reg [⟨(some 4), (.mv (.c (.bool false))), none⟩]) (.seq (.seq (.reg [⟨(some 5), (.mv (.c (.int .i64 0))), none⟩]) (.block 0 (.loop (.seq (.seq (.reg [⟨(some 8), (.mv (.t 5)), none⟩, ⟨(some 9), (.mv (.t 0)), none⟩, ⟨(some 10), (.len (.t 9)), none⟩, ⟨(some 11), (.bin .lss .i64 (.t 8) (.t 10)), none⟩]) (.cond (.t 11) .skip (.exit 0))) (.seq (.block 1 (.seq (.seq (.reg [⟨(some 14), (.mv (.t 0)), none⟩, ⟨(some 15), (.mv (.t 5)), none⟩, ⟨(some 16), (.iaddr 5 (.t 14) (.t 15)), none⟩, ⟨(some 17), (.faddr 0 (.t 16)), none⟩, ⟨(some 18), (.load none (.t 17)), none⟩, ⟨(some 19), (.mv (.t 0)), none⟩, ⟨(some 20), (.mv (.t 1)), none⟩, ⟨(some 21), (.iaddr 5 (.t 19) (.t 20)), none⟩, ⟨(some 22), (.faddr 0 (.t 21)), none⟩, ⟨(some 23), (.load none (.t 22)), none⟩, ⟨(some 24), (.bin .neq .u64 (.t 18) (.t 23)), none⟩, ⟨(some 25), (.mv (.t 24)), none⟩, ⟨(some 26), (.mv (.t 0)), (some (25, false))⟩, ⟨(some 27), (.mv (.t 5)), (some (25, false))⟩, ⟨(some 28), (.iaddr 5 (.t 26) (.t 27)), (some (25, false))⟩, ⟨(some 29), (.faddr 1 (.t 28)), (some (25, false))⟩, ⟨(some 30), (.load none (.t 29)), (some (25, false))⟩, ⟨(some 31), (.mv (.t 0)), (some (25, false))⟩, ⟨(some 32), (.mv (.t 1)), (some (25, false))⟩, ⟨(some 33), (.iaddr 5 (.t 31) (.t 32)), (some (25, false))⟩, ⟨(some 34), (.faddr 1 (.t 33)), (some (25, false))⟩, ⟨(some 35), (.load none (.t 34)), (some (25, false))⟩, ⟨(some 36), (.bin .neq .u64 (.t 30) (.t 35)), (some (25, false))⟩, ⟨(some 37), (.pick (.t 25) (.c (.bool true)) (.t 36)), none⟩]) (.cond (.t 37) (.exit 1) .skip)) (.seq (.reg [⟨(some 38), (.mv (.t 0)), none⟩, ⟨(some 39), (.mv (.t 5)), none⟩, ⟨(some 40), (.iaddr 5 (.t 38) (.t 39)), none⟩, ⟨(some 41), (.load (some 5) (.t 40)), none⟩, ⟨(some 42), (.mv (.t 0)), none⟩, ⟨(some 43), (.mv (.t 1)), none⟩, ⟨(some 44), (.iaddr 5 (.t 42) (.t 43)), none⟩, ⟨(some 45), (.load (some 5) (.t 44)), none⟩, ⟨(some 46), (.qcall 29 [(.t 41), (.t 45)]), none⟩, ⟨(some 6), (.mv (.t 46)), none⟩]) (.seq (.reg [⟨(some 47), (.mv (.t 0)), none⟩, ⟨(some 48), (.mv (.t 5)), none⟩, ⟨(some 49), (.iaddr 5 (.t 47) (.t 48)), none⟩, ⟨(some 50), (.load (some 5) (.t 49)), none⟩, ⟨(some 51), (.mv (.t 0)), none⟩, ⟨(some 52), (.mv (.t 1)), none⟩, ⟨(some 53), (.iaddr 5 (.t 51) (.t 52)), none⟩, ⟨(some 54), (.load (some 5) (.t 53)), none⟩, ⟨(some 55), (.qcall 83 [(.t 50), (.t 54)]), none⟩, ⟨(some 7), (.mv (.t 55)), none⟩]) (.seq (.reg [⟨(some 56), (.mv (.t 6)), none⟩, ⟨(some 57), (.mv (.t 56)), none⟩, ⟨(some 58), (.mv (.t 7)), (some (57, false))⟩, ⟨(some 59), (.mv (.t 58)), (some (57, false))⟩, ⟨(some 60), (.mv (.t 5)), (some (59, true))⟩, ⟨(some 61), (.mv (.t 1)), (some (59, true))⟩, ⟨(some 62), (.bin .lss .i64 (.t 60) (.t 61)), (some (59, true))⟩, ⟨(some 63), (.pick (.t 59) (.t 62) (.c (.bool false))), (some (57, false))⟩, ⟨(some 64), (.pick (.t 57) (.c (.bool true)) (.t 63)), none⟩]) (.cond (.t 64) (.seq (.reg [⟨(some 4), (.mv (.c (.bool false))), none⟩]) .ret) .skip)))))) (.reg [⟨(some 12), (.mv (.t 5)), none⟩, ⟨(some 13), (.bin .add .i64 (.t 12) (.c (.int .i64 1))), none⟩, ⟨(some 5), (.mv (.t 13)), none⟩])))))) (.seq (.reg [⟨(some 4), (.mv (.c (.bool true))), none⟩]) .ret)))

set_option maxRecDepth 100000 in
theorem k_rcounts : compileC Try.prog ann (Try.f95.body.getD .skip) = some c_rcounts := by kernel_rfl

theorem s_rcounts {args : List AV} {σ : St} {K : AV → St → Prop} (h : WF σ → T Try.prog ann c_rcounts (Fin σ [(.t 4)] K) (args ++ List.replicate (65 - args.length) (.tup [])) σ) : ACalls Try.prog n_rcounts args σ K :=
  calls_ok Try.func95 (by kernel_rfl) (by kernel_rfl) k_rcounts (by kernel_rfl) (by kernel_rfl) h

abbrev n_rgather : Nat := 51

def c_rgather : C := (.seq (.reg [⟨(some 2), (.mv (.c (.sl [] .nil))), none⟩]) (.seq (.reg [⟨(some 3), (.mv (.c (.sl [] .nil))), none⟩]) (.seq (.seq (.reg [⟨(some 4), (.mv (.c (.int .i64 0))), none⟩]) (.block 0 (.loop (.seq (.seq (.reg [⟨(some 10), (.mv (.t 4)), none⟩, ⟨(some 11), (.mv (.t 0)), none⟩, ⟨(some 12), (.len (.t 11)), none⟩, ⟨(some 13), (.bin .lss .i64 (.t 10) (.t 12)), none⟩]) (.cond (.t 13) .skip (.exit 0))) (.seq (.block 1 (.seq (.reg [⟨(some 16), (.mv (.t 0)), none⟩, ⟨(some 17), (.mv (.t 4)), none⟩, ⟨(some 18), (.call 95 [(.t 16), (.t 17)]), none⟩, ⟨(some 5), (.mv (.t 18)), none⟩]) (.seq (.seq (.reg [⟨(some 19), (.mv (.t 5)), none⟩, ⟨(some 20), (.not (.t 19)), none⟩]) (.cond (.t 20) (.exit 1) .skip)) (.seq (.reg [⟨(some 6), (.mv (.c (.int .i64 0))), none⟩]) (.seq (.seq (.reg [⟨(some 7), (.mv (.c (.int .i64 0))), none⟩]) (.block 2 (.loop (.seq (.seq (.reg [⟨(some 21), (.mv (.t 7)), none⟩, ⟨(some 22), (.mv (.t 3)), none⟩, ⟨(some 23), (.len (.t 22)), none⟩, ⟨(some 24), (.bin .lss .i64 (.t 21) (.t 23)), none⟩]) (.cond (.t 24) .skip (.exit 2))) (.seq (.block 3 (.seq (.reg [⟨(some 27), (.mv (.t 3)), none⟩, ⟨(some 28), (.mv (.t 7)), none⟩, ⟨(some 29), (.iaddr 5 (.t 27) (.t 28)), none⟩, ⟨(some 30), (.load (some 5) (.t 29)), none⟩, ⟨(some 31), (.mv (.t 0)), none⟩, ⟨(some 32), (.mv (.t 4)), none⟩, ⟨(some 33), (.iaddr 5 (.t 31) (.t 32)), none⟩, ⟨(some 34), (.load (some 5) (.t 33)), none⟩, ⟨(some 35), (.qcall 96 [(.t 30), (.t 34)]), none⟩, ⟨(some 8), (.mv (.t 35)), none⟩]) (.seq (.reg [⟨(some 36), (.mv (.t 8)), none⟩]) (.cond (.t 36) (.reg [⟨(some 37), (.mv (.t 7)), none⟩, ⟨(some 38), (.bin .add .i64 (.t 37) (.c (.int .i64 1))), none⟩, ⟨(some 6), (.mv (.t 38)), none⟩]) .skip)))) (.reg [⟨(some 25), (.mv (.t 7)), none⟩, ⟨(some 26), (.bin .add .i64 (.t 25) (.c (.int .i64 1))), none⟩, ⟨(some 7), (.mv (.t 26)), none⟩])))))) (.seq (.reg [⟨(some 39), (.bslice 5 .tip []), none⟩, ⟨(some 40), (.mv (.t 3)), none⟩, ⟨(some 41), (.mv (.t 6)), none⟩, ⟨(some 42), (.slice 5 (.t 40) none (some (.t 41))), none⟩, ⟨(some 43), (.app 5 56 .tip (.t 39) (.t 42)), none⟩, ⟨(some 9), (.mv (.t 43)), none⟩]) (.seq (.reg [⟨(some 44), (.mv (.t 9)), none⟩, ⟨(some 45), (.mv (.t 0)), none⟩, ⟨(some 46), (.mv (.t 4)), none⟩, ⟨(some 47), (.iaddr 5 (.t 45) (.t 46)), none⟩, ⟨(some 48), (.load (some 5) (.t 47)), none⟩, ⟨(some 49), (.bslice 5 .val [(.t 48)]), none⟩, ⟨(some 50), (.app 5 56 .tip (.t 44) (.t 49)), none⟩, ⟨(some 9), (.mv (.t 50)), none⟩]) (.reg [⟨(some 51), (.mv (.t 9)), none⟩, ⟨(some 52), (.mv (.t 3)), none⟩, ⟨(some 53), (.mv (.t 6)), none⟩, ⟨(some 54), (.slice 5 (.t 52) (some (.t 53)) none), none⟩, ⟨(some 55), (.app 5 56 .tip (.t 51) (.t 54)), none⟩, ⟨(some 3), (.mv (.t 55)), none⟩])))))))) (.reg [⟨(some 14), (.mv (.t 4)), none⟩, ⟨(some 15), (.bin .add .i64 (.t 14) (.c (.int .i64 1))), none⟩, ⟨(some 4), (.mv (.t 15)), none⟩])))))) (.seq (.reg [⟨(some 56), (.mv (.t 3)), none⟩, ⟨(some 2), (.mv (.t 56)), none⟩]) .ret))))

set_option maxRecDepth 100000 in
theorem k_rgather : compileC Try.prog ann (Try.f51.body.getD .skip) = some c_rgather := by kernel_rfl

theorem s_rgather {args : List AV} {σ : St} {K : AV → St → Prop} (h : WF σ → T Try.prog ann c_rgather (Fin σ [(.t 2)] K) (args ++ List.replicate (57 - args.length) (.tup [])) σ) : ACalls Try.prog n_rgather args σ K :=
  calls_ok Try.func51 (by kernel_rfl) (by kernel_rfl) k_rgather (by kernel_rfl) (by kernel_rfl) h

abbrev n_rspans : Nat := 30

def c_rspans : C := (.seq (.reg [⟨(some 4), (.mv (.c (.bool false))), none⟩]) (.seq (.seq (.reg [⟨(some 7), (.mv (.t 0)), none⟩, ⟨(some 8), (.len (.t 7)), none⟩, ⟨(some 9), (.mv (.t 1)), none⟩, ⟨(some 10), (.len (.t 9)), none⟩, ⟨(some 11), (.bin .neq .i64 (.t 8) (.t 10)), none⟩]) (.cond (.t 11) (.seq (.reg [⟨(some 4), (.mv (.c (.bool false))), none⟩]) .ret) .skip)) (.seq (.seq (.reg [⟨(some 5), (.mv (.c (.int .i64 0))), none⟩]) (.block 0 (.loop (.seq (.seq (.reg [⟨(some 12), (.mv (.t 5)), none⟩, ⟨(some 13), (.mv (.t 0)), none⟩, ⟨(some 14), (.len (.t 13)), none⟩, ⟨(some 15), (.bin .lss .i64 (.t 12) (.t 14)), none⟩]) (.cond (.t 15) .skip (.exit 0))) (.seq (.block 1 (.seq (.reg [⟨(some 18), (.mv (.t 0)), none⟩, ⟨(some 19), (.mv (.t 5)), none⟩, ⟨(some 20), (.iaddr 5 (.t 18) (.t 19)), none⟩, ⟨(some 21), (.load (some 5) (.t 20)), none⟩, ⟨(some 22), (.mv (.t 1)), none⟩, ⟨(some 23), (.mv (.t 5)), none⟩, ⟨(some 24), (.iaddr 5 (.t 22) (.t 23)), none⟩, ⟨(some 25), (.load (some 5) (.t 24)), none⟩, ⟨(some 26), (.qcall 83 [(.t 21), (.t 25)]), none⟩, ⟨(some 6), (.mv (.t 26)), none⟩]) (.seq (.reg [⟨(some 27), (.mv (.t 6)), none⟩, ⟨(some 28), (.not (.t 27)), none⟩]) (.cond (.t 28) (.seq (.reg [⟨(some 4), (.mv (.c (.bool false))), none⟩]) .ret) .skip)))) (.reg [⟨(some 16), (.mv (.t 5)), none⟩, ⟨(some 17), (.bin .add .i64 (.t 16) (.c (.int .i64 1))), none⟩, ⟨(some 5), (.mv (.t 17)), none⟩])))))) (.seq (.reg [⟨(some 4), (.mv (.c (.bool true))), none⟩]) .ret))))

set_option maxRecDepth 100000 in
theorem k_rspans : compileC Try.prog ann (Try.f30.body.getD .skip) = some c_rspans := by kernel_rfl

theorem s_rspans {args : List AV} {σ : St} {K : AV → St → Prop} (h : WF σ → T Try.prog ann c_rspans (Fin σ [(.t 4)] K) (args ++ List.replicate (29 - args.length) (.tup [])) σ) : ACalls Try.prog n_rspans args σ K :=
  calls_ok Try.func30 (by kernel_rfl) (by kernel_rfl) k_rspans (by kernel_rfl) (by kernel_rfl) h

end Go.VL

namespace Go.VL

open Go.Proofs

/-- a span -/
structure Sp where
  tr : Nat
  id : Nat
  st : Int
  en : Int
  da : List UInt8
  deriving DecidableEq

def Sp.av (s : Sp) : AV := .agg [.int .u64 (s.tr : Int), .int .u64 (s.id : Int), .int .i64 s.st, .int .i64 s.en, .sl (bytesAV s.da) .none]

/-- a trace -/
structure Tc where
  id : Nat
  sp : List Sp
  deriving DecidableEq

def Tc.av (t : Tc) : AV := .agg [.int .u64 (t.id : Int), .sl (t.sp.map Sp.av) .none]

def spsAV (l : List Sp) : List AV := l.map Sp.av

def tcsAV (l : List Tc) : List AV := l.map Tc.av

theorem sps_len (l : List Sp) : (spsAV l).length = l.length := by simp [spsAV]

theorem tcs_len (l : List Tc) : (tcsAV l).length = l.length := by simp [tcsAV]

theorem sps_get {l : List Sp} {i : Nat} (h : i < l.length) : (spsAV l)[i]? = some (l[i].av) := by simp [spsAV, h]

theorem tcs_get {l : List Tc} {i : Nat} (h : i < l.length) : (tcsAV l)[i]? = some (l[i].av) := by simp [tcsAV, h]

theorem spcells (s : Sp) : s.av.cells = [.int .u64 (s.tr : Int), .int .u64 (s.id : Int), .int .i64 s.st, .int .i64 s.en, .sl (bytesAV s.da) .none] := rfl

theorem tccells (t : Tc) : t.av.cells = [.int .u64 (t.id : Int), .sl (spsAV t.sp) .none] := rfl

theorem inc64 {i n : Nat} (h : i < n) (hn : n ≤ 9223372036854775807) : IntKind.i64.wrap ((i : Int) + 1) = ((i + 1 : Nat) : Int) := by
  rw [wrap64 (by omega) (by omega)]; rfl

def fewB (m : Int) (l : List Sp) : Bool := l.all (fun s => decide (s.da.length ≤ 200)) && decide ((l.length : Int) ≤ m)

theorem take_all {α : Type} {p : α → Bool} {l : List α} {i : Nat} (hi : i < l.length) (h : (l.take i).all p = true) (hp : p l[i] = true) : (l.take (i + 1)).all p = true := by
  rw [List.take_succ_eq_append_getElem hi, List.all_append, h]
  simp [hp]

theorem all_ff {α : Type} {p : α → Bool} {l : List α} {i : Nat} (hi : i < l.length) (hp : p l[i] = false) : l.all p = false := by
  rw [Bool.eq_false_iff]
  intro h
  have := List.all_eq_true.1 h l[i] (List.getElem_mem hi)
  rw [hp] at this; cases this

theorem few_ok {l : List Sp} {g : Ver} {m : Int} {σ : St} (hl : l.length ≤ 9223372036854775807) : ACalls Try.prog n_few [.sl (spsAV l) g, .int .i64 m] σ (fun v σ' => v = .bool (fewB m l) ∧ σ' = σ) := by
  refine s_few (fun wf => ?_)
  unfold c_few
  refine T.seq_k (fun K_h1 h1 => ?_)
  refine T.regi hm ?_
  simp only [↓reduceIte, namesOf, List.any, I.names, aops, aopsI, aopsT, qstep, CPt, qget, Tbl.get, astep, ev, setd, List.set, List.getD, List.getElem?_cons_zero, List.getElem?_cons_succ, List.getElem?_nil, List.cons_append, List.nil_append, List.length_cons, List.length_nil, List.replicate, then_normal, inBlock_normal, Option.getD_some, Option.getD_none, Bool.or_false, Bool.or_true, Bool.true_or, Bool.false_or, Bool.false_eq_true, if_false, if_true, up_zero, Nat.reduceAdd, Nat.reduceSub, binv, ↓opt_def, AV.isAny, AV.cells, ldc, List.map_cons, List.map_nil, St.set_next, St.set_same, St.up_next, Int.natCast_nonneg, lt_len, le_len, Int.toNat_natCast, true_and, and_true, eq_self, reduceCtorEq, decide_true, List.length_singleton, er_int, er_bool, er_str]
  refine h1 _ _ ?_
  try clear h1 K_h1
  refine T.seq_k (fun K_h1 h1 => ?_)
  refine T.seq_k (fun K_h2 h2 => ?_)
  refine T.regi hm ?_
  simp only [↓reduceIte, namesOf, List.any, I.names, aops, aopsI, aopsT, qstep, CPt, qget, Tbl.get, astep, ev, setd, List.set, List.getD, List.getElem?_cons_zero, List.getElem?_cons_succ, List.getElem?_nil, List.cons_append, List.nil_append, List.length_cons, List.length_nil, List.replicate, then_normal, inBlock_normal, Option.getD_some, Option.getD_none, Bool.or_false, Bool.or_true, Bool.true_or, Bool.false_or, Bool.false_eq_true, if_false, if_true, up_zero, Nat.reduceAdd, Nat.reduceSub, binv, ↓opt_def, AV.isAny, AV.cells, ldc, List.map_cons, List.map_nil, St.set_next, St.set_same, St.up_next, Int.natCast_nonneg, lt_len, le_len, Int.toNat_natCast, true_and, and_true, eq_self, reduceCtorEq, decide_true, List.length_singleton, er_int, er_bool, er_str]
  refine h2 _ _ ?_
  try clear h2 K_h2
  refine T.block ?_
  refine T.gh (Gh.keep [0, 1, 5]) ?_
  refine T.loopi (fun i ρ σ' => σ' = σ ∧ (l.take i).all (fun s => decide (s.da.length ≤ 200)) = true ∧ ρ = [.sl (spsAV l) g, .int .i64 m, .any, .any, .any, .int .i64 (i : Int)] ++ List.replicate 17 .any)
    l.length 0 (Nat.zero_le _) ⟨rfl, by simp, rfl⟩ ?_
  rintro i ρ σ' hi ⟨rfl, hpre, rfl⟩
  refine T.seq_k (fun K_h2 h2 => ?_)
  refine T.seq_k (fun K_h3 h3 => ?_)
  refine T.regi hm ?_
  simp only [↓reduceIte, namesOf, List.any, I.names, aops, aopsI, aopsT, qstep, CPt, qget, Tbl.get, astep, ev, setd, List.set, List.getD, List.getElem?_cons_zero, List.getElem?_cons_succ, List.getElem?_nil, List.cons_append, List.nil_append, List.length_cons, List.length_nil, List.replicate, then_normal, inBlock_normal, Option.getD_some, Option.getD_none, Bool.or_false, Bool.or_true, Bool.true_or, Bool.false_or, Bool.false_eq_true, if_false, if_true, up_zero, Nat.reduceAdd, Nat.reduceSub, binv, ↓opt_def, AV.isAny, AV.cells, ldc, List.map_cons, List.map_nil, St.set_next, St.set_same, St.up_next, Int.natCast_nonneg, lt_len, le_len, Int.toNat_natCast, true_and, and_true, eq_self, reduceCtorEq, decide_true, List.length_singleton, er_int, er_bool, er_str]
  refine h3 _ _ ?_
  try clear h3 K_h3
  refine T.cond rfl (fun hb => ?_) (fun hb => ?_)
  · refine T.skip ?_
    refine h2 _ _ ?_
    try clear h2 K_h2
    have hil : i < l.length := by simpa [sps_len] using hb
    clear hb
    refine T.seq_k (fun K_h2 h2 => ?_)
    refine T.block ?_
    refine T.seq_k (fun K_h3 h3 => ?_)
    refine T.regi hm ?_
    simp only [↓reduceIte, namesOf, List.any, I.names, aops, aopsI, aopsT, qstep, CPt, qget, Tbl.get, astep, ev, setd, List.set, List.getD, List.getElem?_cons_zero, List.getElem?_cons_succ, List.getElem?_nil, List.cons_append, List.nil_append, List.length_cons, List.length_nil, List.replicate, then_normal, inBlock_normal, Option.getD_some, Option.getD_none, Bool.or_false, Bool.or_true, Bool.true_or, Bool.false_or, Bool.false_eq_true, if_false, if_true, up_zero, Nat.reduceAdd, Nat.reduceSub, binv, ↓opt_def, AV.isAny, AV.cells, ldc, List.map_cons, List.map_nil, St.set_next, St.set_same, St.up_next, Int.natCast_nonneg, lt_len, le_len, Int.toNat_natCast, true_and, and_true, eq_self, reduceCtorEq, decide_true, List.length_singleton, er_int, er_bool, er_str, sps_len, sps_get hil, hil, spcells, bytesAV_len]
    refine h3 _ _ ?_
    try clear h3 K_h3
    refine T.cond rfl (fun hb => ?_) (fun hb => ?_)
    · refine T.seq_k (fun K_h3 h3 => ?_)
      refine T.regi hm ?_
      simp only [↓reduceIte, namesOf, List.any, I.names, aops, aopsI, aopsT, qstep, CPt, qget, Tbl.get, astep, ev, setd, List.set, List.getD, List.getElem?_cons_zero, List.getElem?_cons_succ, List.getElem?_nil, List.cons_append, List.nil_append, List.length_cons, List.length_nil, List.replicate, then_normal, inBlock_normal, Option.getD_some, Option.getD_none, Bool.or_false, Bool.or_true, Bool.true_or, Bool.false_or, Bool.false_eq_true, if_false, if_true, up_zero, Nat.reduceAdd, Nat.reduceSub, binv, ↓opt_def, AV.isAny, AV.cells, ldc, List.map_cons, List.map_nil, St.set_next, St.set_same, St.up_next, Int.natCast_nonneg, lt_len, le_len, Int.toNat_natCast, true_and, and_true, eq_self, reduceCtorEq, decide_true, List.length_singleton, er_int, er_bool, er_str]
      refine h3 _ _ ?_
      try clear h3 K_h3
      refine T.ret (Fin.ret rfl ⟨?_, rfl⟩)
      have : fewB m l = false := by
        unfold fewB
        rw [all_ff hil (by simp [bytesAV_len] at hb ⊢; omega)]; rfl
      rw [this]; rfl
    · refine T.skip ?_
      refine h2 _ _ ?_
      try clear h2 K_h2
      have hw := inc64 hil hl
      refine T.regi hm ?_
      simp only [↓reduceIte, namesOf, List.any, I.names, aops, aopsI, aopsT, qstep, CPt, qget, Tbl.get, astep, ev, setd, List.set, List.getD, List.getElem?_cons_zero, List.getElem?_cons_succ, List.getElem?_nil, List.cons_append, List.nil_append, List.length_cons, List.length_nil, List.replicate, then_normal, inBlock_normal, Option.getD_some, Option.getD_none, Bool.or_false, Bool.or_true, Bool.true_or, Bool.false_or, Bool.false_eq_true, if_false, if_true, up_zero, Nat.reduceAdd, Nat.reduceSub, binv, ↓opt_def, AV.isAny, AV.cells, ldc, List.map_cons, List.map_nil, St.set_next, St.set_same, St.up_next, Int.natCast_nonneg, lt_len, le_len, Int.toNat_natCast, true_and, and_true, eq_self, reduceCtorEq, decide_true, List.length_singleton, er_int, er_bool, er_str, hw]
      exact ⟨hil, _, _, Gh.keep [0, 1, 5], rfl, take_all hil hpre (by simp [bytesAV_len] at hb ⊢; omega), rfl⟩
  · refine T.exit ?_
    have : i = l.length := by simp [sps_len] at hb; omega
    subst this
    rw [List.take_length] at hpre
    try simp only [↓reduceIte, namesOf, List.any, I.names, aops, aopsI, aopsT, qstep, CPt, qget, Tbl.get, astep, ev, setd, List.set, List.getD, List.getElem?_cons_zero, List.getElem?_cons_succ, List.getElem?_nil, List.cons_append, List.nil_append, List.length_cons, List.length_nil, List.replicate, then_normal, inBlock_normal, Option.getD_some, Option.getD_none, Bool.or_false, Bool.or_true, Bool.true_or, Bool.false_or, Bool.false_eq_true, if_false, if_true, up_zero, Nat.reduceAdd, Nat.reduceSub, binv, ↓opt_def, AV.isAny, AV.cells, ldc, List.map_cons, List.map_nil, St.set_next, St.set_same, St.up_next, Int.natCast_nonneg, lt_len, le_len, Int.toNat_natCast, true_and, and_true, eq_self, reduceCtorEq, decide_true, List.length_singleton, er_int, er_bool, er_str, inBlock_exit, then_exit]
    refine h1 _ _ ?_
    try clear h1 K_h1
    refine T.seq_k (fun K_h1 h1 => ?_)
    refine T.regi hm ?_
    simp only [↓reduceIte, namesOf, List.any, I.names, aops, aopsI, aopsT, qstep, CPt, qget, Tbl.get, astep, ev, setd, List.set, List.getD, List.getElem?_cons_zero, List.getElem?_cons_succ, List.getElem?_nil, List.cons_append, List.nil_append, List.length_cons, List.length_nil, List.replicate, then_normal, inBlock_normal, Option.getD_some, Option.getD_none, Bool.or_false, Bool.or_true, Bool.true_or, Bool.false_or, Bool.false_eq_true, if_false, if_true, up_zero, Nat.reduceAdd, Nat.reduceSub, binv, ↓opt_def, AV.isAny, AV.cells, ldc, List.map_cons, List.map_nil, St.set_next, St.set_same, St.up_next, Int.natCast_nonneg, lt_len, le_len, Int.toNat_natCast, true_and, and_true, eq_self, reduceCtorEq, decide_true, List.length_singleton, er_int, er_bool, er_str, sps_len]
    refine h1 _ _ ?_
    try clear h1 K_h1
    refine T.ret (Fin.ret rfl ⟨?_, rfl⟩)
    unfold fewB; rw [hpre]; rfl

end Go.VL

namespace Go.VL

open Go.Proofs

/-! ### Comparing -/

def cmp3 (a b : Int) : Int := if a < b then -1 else if b < a then 1 else 0

theorem nan1_ok {a : Int} {σ : St} : ACalls Try.prog n_nan1 [.int .i64 a] σ (fun v σ' => v = .bool false ∧ σ' = σ) := by
  refine s_nan1 (fun wf => ?_)
  unfold c_nan1
  refine T.seq_k (fun K_h1 h1 => ?_)
  refine T.regi hm ?_
  simp only [↓reduceIte, namesOf, List.any, I.names, aops, aopsI, aopsT, qstep, CPt, qget, Tbl.get, astep, ev, setd, List.set, List.getD, List.getElem?_cons_zero, List.getElem?_cons_succ, List.getElem?_nil, List.cons_append, List.nil_append, List.length_cons, List.length_nil, List.replicate, then_normal, inBlock_normal, Option.getD_some, Option.getD_none, Bool.or_false, Bool.or_true, Bool.true_or, Bool.false_or, Bool.false_eq_true, if_false, if_true, up_zero, Nat.reduceAdd, Nat.reduceSub, binv, ↓opt_def, AV.isAny, AV.cells, ldc, List.map_cons, List.map_nil, St.set_next, St.set_same, St.up_next, Int.natCast_nonneg, lt_len, le_len, Int.toNat_natCast, true_and, and_true, eq_self, reduceCtorEq, decide_true, List.length_singleton, er_int, er_bool, er_str]
  refine h1 _ _ ?_
  try clear h1 K_h1
  refine T.seq_k (fun K_h1 h1 => ?_)
  refine T.regi hm ?_
  simp only [↓reduceIte, namesOf, List.any, I.names, aops, aopsI, aopsT, qstep, CPt, qget, Tbl.get, astep, ev, setd, List.set, List.getD, List.getElem?_cons_zero, List.getElem?_cons_succ, List.getElem?_nil, List.cons_append, List.nil_append, List.length_cons, List.length_nil, List.replicate, then_normal, inBlock_normal, Option.getD_some, Option.getD_none, Bool.or_false, Bool.or_true, Bool.true_or, Bool.false_or, Bool.false_eq_true, if_false, if_true, up_zero, Nat.reduceAdd, Nat.reduceSub, binv, ↓opt_def, AV.isAny, AV.cells, ldc, List.map_cons, List.map_nil, St.set_next, St.set_same, St.up_next, Int.natCast_nonneg, lt_len, le_len, Int.toNat_natCast, true_and, and_true, eq_self, reduceCtorEq, decide_true, List.length_singleton, er_int, er_bool, er_str, bne_self_eq_false]
  refine h1 _ _ ?_
  try clear h1 K_h1
  exact T.ret (Fin.ret rfl ⟨rfl, rfl⟩)

theorem nan2_ok {a : Int} {σ : St} : ACalls Try.prog n_nan2 [.int .u64 a] σ (fun v σ' => v = .bool false ∧ σ' = σ) := by
  refine s_nan2 (fun wf => ?_)
  unfold c_nan2
  refine T.seq_k (fun K_h1 h1 => ?_)
  refine T.regi hm ?_
  simp only [↓reduceIte, namesOf, List.any, I.names, aops, aopsI, aopsT, qstep, CPt, qget, Tbl.get, astep, ev, setd, List.set, List.getD, List.getElem?_cons_zero, List.getElem?_cons_succ, List.getElem?_nil, List.cons_append, List.nil_append, List.length_cons, List.length_nil, List.replicate, then_normal, inBlock_normal, Option.getD_some, Option.getD_none, Bool.or_false, Bool.or_true, Bool.true_or, Bool.false_or, Bool.false_eq_true, if_false, if_true, up_zero, Nat.reduceAdd, Nat.reduceSub, binv, ↓opt_def, AV.isAny, AV.cells, ldc, List.map_cons, List.map_nil, St.set_next, St.set_same, St.up_next, Int.natCast_nonneg, lt_len, le_len, Int.toNat_natCast, true_and, and_true, eq_self, reduceCtorEq, decide_true, List.length_singleton, er_int, er_bool, er_str]
  refine h1 _ _ ?_
  try clear h1 K_h1
  refine T.seq_k (fun K_h1 h1 => ?_)
  refine T.regi hm ?_
  simp only [↓reduceIte, namesOf, List.any, I.names, aops, aopsI, aopsT, qstep, CPt, qget, Tbl.get, astep, ev, setd, List.set, List.getD, List.getElem?_cons_zero, List.getElem?_cons_succ, List.getElem?_nil, List.cons_append, List.nil_append, List.length_cons, List.length_nil, List.replicate, then_normal, inBlock_normal, Option.getD_some, Option.getD_none, Bool.or_false, Bool.or_true, Bool.true_or, Bool.false_or, Bool.false_eq_true, if_false, if_true, up_zero, Nat.reduceAdd, Nat.reduceSub, binv, ↓opt_def, AV.isAny, AV.cells, ldc, List.map_cons, List.map_nil, St.set_next, St.set_same, St.up_next, Int.natCast_nonneg, lt_len, le_len, Int.toNat_natCast, true_and, and_true, eq_self, reduceCtorEq, decide_true, List.length_singleton, er_int, er_bool, er_str, bne_self_eq_false]
  refine h1 _ _ ?_
  try clear h1 K_h1
  exact T.ret (Fin.ret rfl ⟨rfl, rfl⟩)

theorem cmpi_ok {a b : Int} {σ : St} : ACalls Try.prog n_cmpi [.int .i64 a, .int .i64 b] σ (fun v σ' => v = .int .i64 (cmp3 a b) ∧ σ' = σ) := by
  refine s_cmpi (fun wf => ?_)
  unfold c_cmpi
  refine T.seq_k (fun K_h1 h1 => ?_)
  refine T.regi hm ?_
  simp only [↓reduceIte, namesOf, List.any, I.names, aops, aopsI, aopsT, qstep, CPt, qget, Tbl.get, astep, ev, setd, List.set, List.getD, List.getElem?_cons_zero, List.getElem?_cons_succ, List.getElem?_nil, List.cons_append, List.nil_append, List.length_cons, List.length_nil, List.replicate, then_normal, inBlock_normal, Option.getD_some, Option.getD_none, Bool.or_false, Bool.or_true, Bool.true_or, Bool.false_or, Bool.false_eq_true, if_false, if_true, up_zero, Nat.reduceAdd, Nat.reduceSub, binv, ↓opt_def, AV.isAny, AV.cells, ldc, List.map_cons, List.map_nil, St.set_next, St.set_same, St.up_next, Int.natCast_nonneg, lt_len, le_len, Int.toNat_natCast, true_and, and_true, eq_self, reduceCtorEq, decide_true, List.length_singleton, er_int, er_bool, er_str]
  refine h1 _ _ ?_
  try clear h1 K_h1
  refine T.seq_k (fun K_h1 h1 => ?_)
  refine T.regi hm ?_
  simp only [↓reduceIte, namesOf, List.any, I.names, aops, aopsI, aopsT, qstep, CPt, qget, Tbl.get, astep, ev, setd, List.set, List.getD, List.getElem?_cons_zero, List.getElem?_cons_succ, List.getElem?_nil, List.cons_append, List.nil_append, List.length_cons, List.length_nil, List.replicate, then_normal, inBlock_normal, Option.getD_some, Option.getD_none, Bool.or_false, Bool.or_true, Bool.true_or, Bool.false_or, Bool.false_eq_true, if_false, if_true, up_zero, Nat.reduceAdd, Nat.reduceSub, binv, ↓opt_def, AV.isAny, AV.cells, ldc, List.map_cons, List.map_nil, St.set_next, St.set_same, St.up_next, Int.natCast_nonneg, lt_len, le_len, Int.toNat_natCast, true_and, and_true, eq_self, reduceCtorEq, decide_true, List.length_singleton, er_int, er_bool, er_str]
  refine nan1_ok.mono ?_
  rintro v σ1 ⟨rfl, rfl⟩
  try simp only [↓reduceIte, namesOf, List.any, I.names, aops, aopsI, aopsT, qstep, CPt, qget, Tbl.get, astep, ev, setd, List.set, List.getD, List.getElem?_cons_zero, List.getElem?_cons_succ, List.getElem?_nil, List.cons_append, List.nil_append, List.length_cons, List.length_nil, List.replicate, then_normal, inBlock_normal, Option.getD_some, Option.getD_none, Bool.or_false, Bool.or_true, Bool.true_or, Bool.false_or, Bool.false_eq_true, if_false, if_true, up_zero, Nat.reduceAdd, Nat.reduceSub, binv, ↓opt_def, AV.isAny, AV.cells, ldc, List.map_cons, List.map_nil, St.set_next, St.set_same, St.up_next, Int.natCast_nonneg, lt_len, le_len, Int.toNat_natCast, true_and, and_true, eq_self, reduceCtorEq, decide_true, List.length_singleton, er_int, er_bool, er_str, up_zero]
  refine h1 _ _ ?_
  try clear h1 K_h1
  refine T.seq_k (fun K_h1 h1 => ?_)
  refine T.regi hm ?_
  simp only [↓reduceIte, namesOf, List.any, I.names, aops, aopsI, aopsT, qstep, CPt, qget, Tbl.get, astep, ev, setd, List.set, List.getD, List.getElem?_cons_zero, List.getElem?_cons_succ, List.getElem?_nil, List.cons_append, List.nil_append, List.length_cons, List.length_nil, List.replicate, then_normal, inBlock_normal, Option.getD_some, Option.getD_none, Bool.or_false, Bool.or_true, Bool.true_or, Bool.false_or, Bool.false_eq_true, if_false, if_true, up_zero, Nat.reduceAdd, Nat.reduceSub, binv, ↓opt_def, AV.isAny, AV.cells, ldc, List.map_cons, List.map_nil, St.set_next, St.set_same, St.up_next, Int.natCast_nonneg, lt_len, le_len, Int.toNat_natCast, true_and, and_true, eq_self, reduceCtorEq, decide_true, List.length_singleton, er_int, er_bool, er_str]
  refine nan1_ok.mono ?_
  rintro v σ1 ⟨rfl, rfl⟩
  try simp only [↓reduceIte, namesOf, List.any, I.names, aops, aopsI, aopsT, qstep, CPt, qget, Tbl.get, astep, ev, setd, List.set, List.getD, List.getElem?_cons_zero, List.getElem?_cons_succ, List.getElem?_nil, List.cons_append, List.nil_append, List.length_cons, List.length_nil, List.replicate, then_normal, inBlock_normal, Option.getD_some, Option.getD_none, Bool.or_false, Bool.or_true, Bool.true_or, Bool.false_or, Bool.false_eq_true, if_false, if_true, up_zero, Nat.reduceAdd, Nat.reduceSub, binv, ↓opt_def, AV.isAny, AV.cells, ldc, List.map_cons, List.map_nil, St.set_next, St.set_same, St.up_next, Int.natCast_nonneg, lt_len, le_len, Int.toNat_natCast, true_and, and_true, eq_self, reduceCtorEq, decide_true, List.length_singleton, er_int, er_bool, er_str, up_zero]
  refine h1 _ _ ?_
  try clear h1 K_h1
  refine T.seq_k (fun K_h1 h1 => ?_)
  refine T.seq_k (fun K_h2 h2 => ?_)
  refine T.regi hm ?_
  simp only [↓reduceIte, namesOf, List.any, I.names, aops, aopsI, aopsT, qstep, CPt, qget, Tbl.get, astep, ev, setd, List.set, List.getD, List.getElem?_cons_zero, List.getElem?_cons_succ, List.getElem?_nil, List.cons_append, List.nil_append, List.length_cons, List.length_nil, List.replicate, then_normal, inBlock_normal, Option.getD_some, Option.getD_none, Bool.or_false, Bool.or_true, Bool.true_or, Bool.false_or, Bool.false_eq_true, if_false, if_true, up_zero, Nat.reduceAdd, Nat.reduceSub, binv, ↓opt_def, AV.isAny, AV.cells, ldc, List.map_cons, List.map_nil, St.set_next, St.set_same, St.up_next, Int.natCast_nonneg, lt_len, le_len, Int.toNat_natCast, true_and, and_true, eq_self, reduceCtorEq, decide_true, List.length_singleton, er_int, er_bool, er_str]
  refine h2 _ _ ?_
  try clear h2 K_h2
  refine T.cond rfl (fun hb => by cases hb) (fun _ => T.skip ?_)
  refine h1 _ _ ?_
  try clear h1 K_h1
  refine T.seq_k (fun K_h1 h1 => ?_)
  refine T.seq_k (fun K_h2 h2 => ?_)
  refine T.regi hm ?_
  simp only [↓reduceIte, namesOf, List.any, I.names, aops, aopsI, aopsT, qstep, CPt, qget, Tbl.get, astep, ev, setd, List.set, List.getD, List.getElem?_cons_zero, List.getElem?_cons_succ, List.getElem?_nil, List.cons_append, List.nil_append, List.length_cons, List.length_nil, List.replicate, then_normal, inBlock_normal, Option.getD_some, Option.getD_none, Bool.or_false, Bool.or_true, Bool.true_or, Bool.false_or, Bool.false_eq_true, if_false, if_true, up_zero, Nat.reduceAdd, Nat.reduceSub, binv, ↓opt_def, AV.isAny, AV.cells, ldc, List.map_cons, List.map_nil, St.set_next, St.set_same, St.up_next, Int.natCast_nonneg, lt_len, le_len, Int.toNat_natCast, true_and, and_true, eq_self, reduceCtorEq, decide_true, List.length_singleton, er_int, er_bool, er_str]
  refine h2 _ _ ?_
  try clear h2 K_h2
  refine T.cond rfl (fun hb => by cases hb) (fun _ => T.skip ?_)
  refine h1 _ _ ?_
  try clear h1 K_h1
  refine T.seq_k (fun K_h1 h1 => ?_)
  refine T.seq_k (fun K_h2 h2 => ?_)
  refine T.regi hm ?_
  simp only [↓reduceIte, namesOf, List.any, I.names, aops, aopsI, aopsT, qstep, CPt, qget, Tbl.get, astep, ev, setd, List.set, List.getD, List.getElem?_cons_zero, List.getElem?_cons_succ, List.getElem?_nil, List.cons_append, List.nil_append, List.length_cons, List.length_nil, List.replicate, then_normal, inBlock_normal, Option.getD_some, Option.getD_none, Bool.or_false, Bool.or_true, Bool.true_or, Bool.false_or, Bool.false_eq_true, if_false, if_true, up_zero, Nat.reduceAdd, Nat.reduceSub, binv, ↓opt_def, AV.isAny, AV.cells, ldc, List.map_cons, List.map_nil, St.set_next, St.set_same, St.up_next, Int.natCast_nonneg, lt_len, le_len, Int.toNat_natCast, true_and, and_true, eq_self, reduceCtorEq, decide_true, List.length_singleton, er_int, er_bool, er_str]
  refine h2 _ _ ?_
  try clear h2 K_h2
  refine T.cond rfl (fun hb => ?_) (fun hb => ?_)
  · refine T.seq_k (fun K_h2 h2 => ?_)
    refine T.regi hm ?_
    simp only [↓reduceIte, namesOf, List.any, I.names, aops, aopsI, aopsT, qstep, CPt, qget, Tbl.get, astep, ev, setd, List.set, List.getD, List.getElem?_cons_zero, List.getElem?_cons_succ, List.getElem?_nil, List.cons_append, List.nil_append, List.length_cons, List.length_nil, List.replicate, then_normal, inBlock_normal, Option.getD_some, Option.getD_none, Bool.or_false, Bool.or_true, Bool.true_or, Bool.false_or, Bool.false_eq_true, if_false, if_true, up_zero, Nat.reduceAdd, Nat.reduceSub, binv, ↓opt_def, AV.isAny, AV.cells, ldc, List.map_cons, List.map_nil, St.set_next, St.set_same, St.up_next, Int.natCast_nonneg, lt_len, le_len, Int.toNat_natCast, true_and, and_true, eq_self, reduceCtorEq, decide_true, List.length_singleton, er_int, er_bool, er_str]
    refine h2 _ _ ?_
    try clear h2 K_h2
    have : a < b := by simpa using hb
    exact T.ret (Fin.ret rfl ⟨by simp [pack, cmp3, this], rfl⟩)
  · refine T.skip ?_
    refine h1 _ _ ?_
    try clear h1 K_h1
    have hn : ¬ a < b := by simpa using hb
    refine T.seq_k (fun K_h1 h1 => ?_)
    refine T.seq_k (fun K_h2 h2 => ?_)
    refine T.regi hm ?_
    simp only [↓reduceIte, namesOf, List.any, I.names, aops, aopsI, aopsT, qstep, CPt, qget, Tbl.get, astep, ev, setd, List.set, List.getD, List.getElem?_cons_zero, List.getElem?_cons_succ, List.getElem?_nil, List.cons_append, List.nil_append, List.length_cons, List.length_nil, List.replicate, then_normal, inBlock_normal, Option.getD_some, Option.getD_none, Bool.or_false, Bool.or_true, Bool.true_or, Bool.false_or, Bool.false_eq_true, if_false, if_true, up_zero, Nat.reduceAdd, Nat.reduceSub, binv, ↓opt_def, AV.isAny, AV.cells, ldc, List.map_cons, List.map_nil, St.set_next, St.set_same, St.up_next, Int.natCast_nonneg, lt_len, le_len, Int.toNat_natCast, true_and, and_true, eq_self, reduceCtorEq, decide_true, List.length_singleton, er_int, er_bool, er_str]
    refine h2 _ _ ?_
    try clear h2 K_h2
    refine T.cond rfl (fun hb => ?_) (fun hb => ?_)
    · refine T.seq_k (fun K_h2 h2 => ?_)
      refine T.regi hm ?_
      simp only [↓reduceIte, namesOf, List.any, I.names, aops, aopsI, aopsT, qstep, CPt, qget, Tbl.get, astep, ev, setd, List.set, List.getD, List.getElem?_cons_zero, List.getElem?_cons_succ, List.getElem?_nil, List.cons_append, List.nil_append, List.length_cons, List.length_nil, List.replicate, then_normal, inBlock_normal, Option.getD_some, Option.getD_none, Bool.or_false, Bool.or_true, Bool.true_or, Bool.false_or, Bool.false_eq_true, if_false, if_true, up_zero, Nat.reduceAdd, Nat.reduceSub, binv, ↓opt_def, AV.isAny, AV.cells, ldc, List.map_cons, List.map_nil, St.set_next, St.set_same, St.up_next, Int.natCast_nonneg, lt_len, le_len, Int.toNat_natCast, true_and, and_true, eq_self, reduceCtorEq, decide_true, List.length_singleton, er_int, er_bool, er_str]
      refine h2 _ _ ?_
      try clear h2 K_h2
      have : b < a := by simpa using hb
      exact T.ret (Fin.ret rfl ⟨by simp [pack, cmp3, this, hn], rfl⟩)
    · refine T.skip ?_
      refine h1 _ _ ?_
      try clear h1 K_h1
      have hn2 : ¬ b < a := by simpa using hb
      refine T.seq_k (fun K_h1 h1 => ?_)
      refine T.regi hm ?_
      simp only [↓reduceIte, namesOf, List.any, I.names, aops, aopsI, aopsT, qstep, CPt, qget, Tbl.get, astep, ev, setd, List.set, List.getD, List.getElem?_cons_zero, List.getElem?_cons_succ, List.getElem?_nil, List.cons_append, List.nil_append, List.length_cons, List.length_nil, List.replicate, then_normal, inBlock_normal, Option.getD_some, Option.getD_none, Bool.or_false, Bool.or_true, Bool.true_or, Bool.false_or, Bool.false_eq_true, if_false, if_true, up_zero, Nat.reduceAdd, Nat.reduceSub, binv, ↓opt_def, AV.isAny, AV.cells, ldc, List.map_cons, List.map_nil, St.set_next, St.set_same, St.up_next, Int.natCast_nonneg, lt_len, le_len, Int.toNat_natCast, true_and, and_true, eq_self, reduceCtorEq, decide_true, List.length_singleton, er_int, er_bool, er_str]
      refine h1 _ _ ?_
      try clear h1 K_h1
      exact T.ret (Fin.ret rfl ⟨by simp [pack, cmp3, hn, hn2], rfl⟩)

theorem cmpu_ok {a b : Int} {σ : St} : ACalls Try.prog n_cmpu [.int .u64 a, .int .u64 b] σ (fun v σ' => v = .int .i64 (cmp3 a b) ∧ σ' = σ) := by
  refine s_cmpu (fun wf => ?_)
  unfold c_cmpu
  refine T.seq_k (fun K_h1 h1 => ?_)
  refine T.regi hm ?_
  simp only [↓reduceIte, namesOf, List.any, I.names, aops, aopsI, aopsT, qstep, CPt, qget, Tbl.get, astep, ev, setd, List.set, List.getD, List.getElem?_cons_zero, List.getElem?_cons_succ, List.getElem?_nil, List.cons_append, List.nil_append, List.length_cons, List.length_nil, List.replicate, then_normal, inBlock_normal, Option.getD_some, Option.getD_none, Bool.or_false, Bool.or_true, Bool.true_or, Bool.false_or, Bool.false_eq_true, if_false, if_true, up_zero, Nat.reduceAdd, Nat.reduceSub, binv, ↓opt_def, AV.isAny, AV.cells, ldc, List.map_cons, List.map_nil, St.set_next, St.set_same, St.up_next, Int.natCast_nonneg, lt_len, le_len, Int.toNat_natCast, true_and, and_true, eq_self, reduceCtorEq, decide_true, List.length_singleton, er_int, er_bool, er_str]
  refine h1 _ _ ?_
  try clear h1 K_h1
  refine T.seq_k (fun K_h1 h1 => ?_)
  refine T.regi hm ?_
  simp only [↓reduceIte, namesOf, List.any, I.names, aops, aopsI, aopsT, qstep, CPt, qget, Tbl.get, astep, ev, setd, List.set, List.getD, List.getElem?_cons_zero, List.getElem?_cons_succ, List.getElem?_nil, List.cons_append, List.nil_append, List.length_cons, List.length_nil, List.replicate, then_normal, inBlock_normal, Option.getD_some, Option.getD_none, Bool.or_false, Bool.or_true, Bool.true_or, Bool.false_or, Bool.false_eq_true, if_false, if_true, up_zero, Nat.reduceAdd, Nat.reduceSub, binv, ↓opt_def, AV.isAny, AV.cells, ldc, List.map_cons, List.map_nil, St.set_next, St.set_same, St.up_next, Int.natCast_nonneg, lt_len, le_len, Int.toNat_natCast, true_and, and_true, eq_self, reduceCtorEq, decide_true, List.length_singleton, er_int, er_bool, er_str]
  refine nan2_ok.mono ?_
  rintro v σ1 ⟨rfl, rfl⟩
  try simp only [↓reduceIte, namesOf, List.any, I.names, aops, aopsI, aopsT, qstep, CPt, qget, Tbl.get, astep, ev, setd, List.set, List.getD, List.getElem?_cons_zero, List.getElem?_cons_succ, List.getElem?_nil, List.cons_append, List.nil_append, List.length_cons, List.length_nil, List.replicate, then_normal, inBlock_normal, Option.getD_some, Option.getD_none, Bool.or_false, Bool.or_true, Bool.true_or, Bool.false_or, Bool.false_eq_true, if_false, if_true, up_zero, Nat.reduceAdd, Nat.reduceSub, binv, ↓opt_def, AV.isAny, AV.cells, ldc, List.map_cons, List.map_nil, St.set_next, St.set_same, St.up_next, Int.natCast_nonneg, lt_len, le_len, Int.toNat_natCast, true_and, and_true, eq_self, reduceCtorEq, decide_true, List.length_singleton, er_int, er_bool, er_str, up_zero]
  refine h1 _ _ ?_
  try clear h1 K_h1
  refine T.seq_k (fun K_h1 h1 => ?_)
  refine T.regi hm ?_
  simp only [↓reduceIte, namesOf, List.any, I.names, aops, aopsI, aopsT, qstep, CPt, qget, Tbl.get, astep, ev, setd, List.set, List.getD, List.getElem?_cons_zero, List.getElem?_cons_succ, List.getElem?_nil, List.cons_append, List.nil_append, List.length_cons, List.length_nil, List.replicate, then_normal, inBlock_normal, Option.getD_some, Option.getD_none, Bool.or_false, Bool.or_true, Bool.true_or, Bool.false_or, Bool.false_eq_true, if_false, if_true, up_zero, Nat.reduceAdd, Nat.reduceSub, binv, ↓opt_def, AV.isAny, AV.cells, ldc, List.map_cons, List.map_nil, St.set_next, St.set_same, St.up_next, Int.natCast_nonneg, lt_len, le_len, Int.toNat_natCast, true_and, and_true, eq_self, reduceCtorEq, decide_true, List.length_singleton, er_int, er_bool, er_str]
  refine nan2_ok.mono ?_
  rintro v σ1 ⟨rfl, rfl⟩
  try simp only [↓reduceIte, namesOf, List.any, I.names, aops, aopsI, aopsT, qstep, CPt, qget, Tbl.get, astep, ev, setd, List.set, List.getD, List.getElem?_cons_zero, List.getElem?_cons_succ, List.getElem?_nil, List.cons_append, List.nil_append, List.length_cons, List.length_nil, List.replicate, then_normal, inBlock_normal, Option.getD_some, Option.getD_none, Bool.or_false, Bool.or_true, Bool.true_or, Bool.false_or, Bool.false_eq_true, if_false, if_true, up_zero, Nat.reduceAdd, Nat.reduceSub, binv, ↓opt_def, AV.isAny, AV.cells, ldc, List.map_cons, List.map_nil, St.set_next, St.set_same, St.up_next, Int.natCast_nonneg, lt_len, le_len, Int.toNat_natCast, true_and, and_true, eq_self, reduceCtorEq, decide_true, List.length_singleton, er_int, er_bool, er_str, up_zero]
  refine h1 _ _ ?_
  try clear h1 K_h1
  refine T.seq_k (fun K_h1 h1 => ?_)
  refine T.seq_k (fun K_h2 h2 => ?_)
  refine T.regi hm ?_
  simp only [↓reduceIte, namesOf, List.any, I.names, aops, aopsI, aopsT, qstep, CPt, qget, Tbl.get, astep, ev, setd, List.set, List.getD, List.getElem?_cons_zero, List.getElem?_cons_succ, List.getElem?_nil, List.cons_append, List.nil_append, List.length_cons, List.length_nil, List.replicate, then_normal, inBlock_normal, Option.getD_some, Option.getD_none, Bool.or_false, Bool.or_true, Bool.true_or, Bool.false_or, Bool.false_eq_true, if_false, if_true, up_zero, Nat.reduceAdd, Nat.reduceSub, binv, ↓opt_def, AV.isAny, AV.cells, ldc, List.map_cons, List.map_nil, St.set_next, St.set_same, St.up_next, Int.natCast_nonneg, lt_len, le_len, Int.toNat_natCast, true_and, and_true, eq_self, reduceCtorEq, decide_true, List.length_singleton, er_int, er_bool, er_str]
  refine h2 _ _ ?_
  try clear h2 K_h2
  refine T.cond rfl (fun hb => by cases hb) (fun _ => T.skip ?_)
  refine h1 _ _ ?_
  try clear h1 K_h1
  refine T.seq_k (fun K_h1 h1 => ?_)
  refine T.seq_k (fun K_h2 h2 => ?_)
  refine T.regi hm ?_
  simp only [↓reduceIte, namesOf, List.any, I.names, aops, aopsI, aopsT, qstep, CPt, qget, Tbl.get, astep, ev, setd, List.set, List.getD, List.getElem?_cons_zero, List.getElem?_cons_succ, List.getElem?_nil, List.cons_append, List.nil_append, List.length_cons, List.length_nil, List.replicate, then_normal, inBlock_normal, Option.getD_some, Option.getD_none, Bool.or_false, Bool.or_true, Bool.true_or, Bool.false_or, Bool.false_eq_true, if_false, if_true, up_zero, Nat.reduceAdd, Nat.reduceSub, binv, ↓opt_def, AV.isAny, AV.cells, ldc, List.map_cons, List.map_nil, St.set_next, St.set_same, St.up_next, Int.natCast_nonneg, lt_len, le_len, Int.toNat_natCast, true_and, and_true, eq_self, reduceCtorEq, decide_true, List.length_singleton, er_int, er_bool, er_str]
  refine h2 _ _ ?_
  try clear h2 K_h2
  refine T.cond rfl (fun hb => by cases hb) (fun _ => T.skip ?_)
  refine h1 _ _ ?_
  try clear h1 K_h1
  refine T.seq_k (fun K_h1 h1 => ?_)
  refine T.seq_k (fun K_h2 h2 => ?_)
  refine T.regi hm ?_
  simp only [↓reduceIte, namesOf, List.any, I.names, aops, aopsI, aopsT, qstep, CPt, qget, Tbl.get, astep, ev, setd, List.set, List.getD, List.getElem?_cons_zero, List.getElem?_cons_succ, List.getElem?_nil, List.cons_append, List.nil_append, List.length_cons, List.length_nil, List.replicate, then_normal, inBlock_normal, Option.getD_some, Option.getD_none, Bool.or_false, Bool.or_true, Bool.true_or, Bool.false_or, Bool.false_eq_true, if_false, if_true, up_zero, Nat.reduceAdd, Nat.reduceSub, binv, ↓opt_def, AV.isAny, AV.cells, ldc, List.map_cons, List.map_nil, St.set_next, St.set_same, St.up_next, Int.natCast_nonneg, lt_len, le_len, Int.toNat_natCast, true_and, and_true, eq_self, reduceCtorEq, decide_true, List.length_singleton, er_int, er_bool, er_str]
  refine h2 _ _ ?_
  try clear h2 K_h2
  refine T.cond rfl (fun hb => ?_) (fun hb => ?_)
  · refine T.seq_k (fun K_h2 h2 => ?_)
    refine T.regi hm ?_
    simp only [↓reduceIte, namesOf, List.any, I.names, aops, aopsI, aopsT, qstep, CPt, qget, Tbl.get, astep, ev, setd, List.set, List.getD, List.getElem?_cons_zero, List.getElem?_cons_succ, List.getElem?_nil, List.cons_append, List.nil_append, List.length_cons, List.length_nil, List.replicate, then_normal, inBlock_normal, Option.getD_some, Option.getD_none, Bool.or_false, Bool.or_true, Bool.true_or, Bool.false_or, Bool.false_eq_true, if_false, if_true, up_zero, Nat.reduceAdd, Nat.reduceSub, binv, ↓opt_def, AV.isAny, AV.cells, ldc, List.map_cons, List.map_nil, St.set_next, St.set_same, St.up_next, Int.natCast_nonneg, lt_len, le_len, Int.toNat_natCast, true_and, and_true, eq_self, reduceCtorEq, decide_true, List.length_singleton, er_int, er_bool, er_str]
    refine h2 _ _ ?_
    try clear h2 K_h2
    have : a < b := by simpa using hb
    exact T.ret (Fin.ret rfl ⟨by simp [pack, cmp3, this], rfl⟩)
  · refine T.skip ?_
    refine h1 _ _ ?_
    try clear h1 K_h1
    have hn : ¬ a < b := by simpa using hb
    refine T.seq_k (fun K_h1 h1 => ?_)
    refine T.seq_k (fun K_h2 h2 => ?_)
    refine T.regi hm ?_
    simp only [↓reduceIte, namesOf, List.any, I.names, aops, aopsI, aopsT, qstep, CPt, qget, Tbl.get, astep, ev, setd, List.set, List.getD, List.getElem?_cons_zero, List.getElem?_cons_succ, List.getElem?_nil, List.cons_append, List.nil_append, List.length_cons, List.length_nil, List.replicate, then_normal, inBlock_normal, Option.getD_some, Option.getD_none, Bool.or_false, Bool.or_true, Bool.true_or, Bool.false_or, Bool.false_eq_true, if_false, if_true, up_zero, Nat.reduceAdd, Nat.reduceSub, binv, ↓opt_def, AV.isAny, AV.cells, ldc, List.map_cons, List.map_nil, St.set_next, St.set_same, St.up_next, Int.natCast_nonneg, lt_len, le_len, Int.toNat_natCast, true_and, and_true, eq_self, reduceCtorEq, decide_true, List.length_singleton, er_int, er_bool, er_str]
    refine h2 _ _ ?_
    try clear h2 K_h2
    refine T.cond rfl (fun hb => ?_) (fun hb => ?_)
    · refine T.seq_k (fun K_h2 h2 => ?_)
      refine T.regi hm ?_
      simp only [↓reduceIte, namesOf, List.any, I.names, aops, aopsI, aopsT, qstep, CPt, qget, Tbl.get, astep, ev, setd, List.set, List.getD, List.getElem?_cons_zero, List.getElem?_cons_succ, List.getElem?_nil, List.cons_append, List.nil_append, List.length_cons, List.length_nil, List.replicate, then_normal, inBlock_normal, Option.getD_some, Option.getD_none, Bool.or_false, Bool.or_true, Bool.true_or, Bool.false_or, Bool.false_eq_true, if_false, if_true, up_zero, Nat.reduceAdd, Nat.reduceSub, binv, ↓opt_def, AV.isAny, AV.cells, ldc, List.map_cons, List.map_nil, St.set_next, St.set_same, St.up_next, Int.natCast_nonneg, lt_len, le_len, Int.toNat_natCast, true_and, and_true, eq_self, reduceCtorEq, decide_true, List.length_singleton, er_int, er_bool, er_str]
      refine h2 _ _ ?_
      try clear h2 K_h2
      have : b < a := by simpa using hb
      exact T.ret (Fin.ret rfl ⟨by simp [pack, cmp3, this, hn], rfl⟩)
    · refine T.skip ?_
      refine h1 _ _ ?_
      try clear h1 K_h1
      have hn2 : ¬ b < a := by simpa using hb
      refine T.seq_k (fun K_h1 h1 => ?_)
      refine T.regi hm ?_
      simp only [↓reduceIte, namesOf, List.any, I.names, aops, aopsI, aopsT, qstep, CPt, qget, Tbl.get, astep, ev, setd, List.set, List.getD, List.getElem?_cons_zero, List.getElem?_cons_succ, List.getElem?_nil, List.cons_append, List.nil_append, List.length_cons, List.length_nil, List.replicate, then_normal, inBlock_normal, Option.getD_some, Option.getD_none, Bool.or_false, Bool.or_true, Bool.true_or, Bool.false_or, Bool.false_eq_true, if_false, if_true, up_zero, Nat.reduceAdd, Nat.reduceSub, binv, ↓opt_def, AV.isAny, AV.cells, ldc, List.map_cons, List.map_nil, St.set_next, St.set_same, St.up_next, Int.natCast_nonneg, lt_len, le_len, Int.toNat_natCast, true_and, and_true, eq_self, reduceCtorEq, decide_true, List.length_singleton, er_int, er_bool, er_str]
      refine h1 _ _ ?_
      try clear h1 K_h1
      exact T.ret (Fin.ret rfl ⟨by simp [pack, cmp3, hn, hn2], rfl⟩)

/-- the first that is not 0 -/
def orI : List Int → Int
  | [] => 0
  | n :: r => if n = 0 then orI r else n

theorem orI_take {l : List Int} {i : Nat} (hi : i < l.length) (h : ∀ j (hj : j < l.length), j < i → l[j] = 0) : orI l = orI (l.drop i) := by
  induction i with
  | zero => rfl
  | succ i ih =>
    rw [ih (by omega) (fun j hj hji => h j hj (by omega)), List.drop_eq_getElem_cons (by omega)]
    unfold orI
    rw [if_pos (h i (by omega) (by omega))]
    cases hd : l.drop (i + 1) with
    | nil => rfl
    | cons a r => rfl

theorem orI_zero : ∀ {l : List Int}, (∀ j (hj : j < l.length), j < l.length → l[j] = 0) → orI l = 0
  | [], _ => rfl
  | a :: r, h => by
    have h0 := h 0 (by simp) (by simp)
    simp only [List.getElem_cons_zero] at h0
    subst h0
    unfold orI
    rw [if_pos rfl]
    exact orI_zero (fun j hj _ => by have := h (j + 1) (by simpa using hj) (by simpa using hj); simpa using this)

theorem cor_ok {l : List Int} {g : Ver} {σ : St} (hl : l.length ≤ 9223372036854775807) : ACalls Try.prog n_cor [.sl (nums .i64 l) g] σ (fun v σ' => v = .int .i64 (orI l) ∧ σ' = σ) := by
  refine s_cor (fun wf => ?_)
  unfold c_cor
  refine T.seq_k (fun K_h1 h1 => ?_)
  refine T.regi hm ?_
  simp only [↓reduceIte, namesOf, List.any, I.names, aops, aopsI, aopsT, qstep, CPt, qget, Tbl.get, astep, ev, setd, List.set, List.getD, List.getElem?_cons_zero, List.getElem?_cons_succ, List.getElem?_nil, List.cons_append, List.nil_append, List.length_cons, List.length_nil, List.replicate, then_normal, inBlock_normal, Option.getD_some, Option.getD_none, Bool.or_false, Bool.or_true, Bool.true_or, Bool.false_or, Bool.false_eq_true, if_false, if_true, up_zero, Nat.reduceAdd, Nat.reduceSub, binv, ↓opt_def, AV.isAny, AV.cells, ldc, List.map_cons, List.map_nil, St.set_next, St.set_same, St.up_next, Int.natCast_nonneg, lt_len, le_len, Int.toNat_natCast, true_and, and_true, eq_self, reduceCtorEq, decide_true, List.length_singleton, er_int, er_bool, er_str]
  refine h1 _ _ ?_
  try clear h1 K_h1
  refine T.seq_k (fun K_h1 h1 => ?_)
  refine T.regi hm ?_
  simp only [↓reduceIte, namesOf, List.any, I.names, aops, aopsI, aopsT, qstep, CPt, qget, Tbl.get, astep, ev, setd, List.set, List.getD, List.getElem?_cons_zero, List.getElem?_cons_succ, List.getElem?_nil, List.cons_append, List.nil_append, List.length_cons, List.length_nil, List.replicate, then_normal, inBlock_normal, Option.getD_some, Option.getD_none, Bool.or_false, Bool.or_true, Bool.true_or, Bool.false_or, Bool.false_eq_true, if_false, if_true, up_zero, Nat.reduceAdd, Nat.reduceSub, binv, ↓opt_def, AV.isAny, AV.cells, ldc, List.map_cons, List.map_nil, St.set_next, St.set_same, St.up_next, Int.natCast_nonneg, lt_len, le_len, Int.toNat_natCast, true_and, and_true, eq_self, reduceCtorEq, decide_true, List.length_singleton, er_int, er_bool, er_str]
  refine h1 _ _ ?_
  try clear h1 K_h1
  refine T.seq_k (fun K_h1 h1 => ?_)
  refine T.seq_k (fun K_h2 h2 => ?_)
  refine T.regi hm ?_
  simp only [↓reduceIte, namesOf, List.any, I.names, aops, aopsI, aopsT, qstep, CPt, qget, Tbl.get, astep, ev, setd, List.set, List.getD, List.getElem?_cons_zero, List.getElem?_cons_succ, List.getElem?_nil, List.cons_append, List.nil_append, List.length_cons, List.length_nil, List.replicate, then_normal, inBlock_normal, Option.getD_some, Option.getD_none, Bool.or_false, Bool.or_true, Bool.true_or, Bool.false_or, Bool.false_eq_true, if_false, if_true, up_zero, Nat.reduceAdd, Nat.reduceSub, binv, ↓opt_def, AV.isAny, AV.cells, ldc, List.map_cons, List.map_nil, St.set_next, St.set_same, St.up_next, Int.natCast_nonneg, lt_len, le_len, Int.toNat_natCast, true_and, and_true, eq_self, reduceCtorEq, decide_true, List.length_singleton, er_int, er_bool, er_str, nums_len]
  refine h2 _ _ ?_
  try clear h2 K_h2
  refine T.block ?_
  refine T.gh (Gh.keep [3, 6, 7, 8]) ?_
  refine T.loopi (fun i ρ σ' => σ' = σ ∧ (∀ j (hj : j < l.length), j < i → l[j] = 0) ∧ ρ = [.any, .any, .any, .int .i64 0, .any, .any, .sl (nums .i64 l) g, .int .i64 (l.length : Int), .int .i64 (i : Int)] ++ List.replicate 9 .any)
    l.length 0 (Nat.zero_le _) ⟨rfl, fun j _ h => by omega, rfl⟩ ?_
  rintro i ρ σ' hi ⟨rfl, hpre, rfl⟩
  refine T.seq_k (fun K_h2 h2 => ?_)
  refine T.regi hm ?_
  simp only [↓reduceIte, namesOf, List.any, I.names, aops, aopsI, aopsT, qstep, CPt, qget, Tbl.get, astep, ev, setd, List.set, List.getD, List.getElem?_cons_zero, List.getElem?_cons_succ, List.getElem?_nil, List.cons_append, List.nil_append, List.length_cons, List.length_nil, List.replicate, then_normal, inBlock_normal, Option.getD_some, Option.getD_none, Bool.or_false, Bool.or_true, Bool.true_or, Bool.false_or, Bool.false_eq_true, if_false, if_true, up_zero, Nat.reduceAdd, Nat.reduceSub, binv, ↓opt_def, AV.isAny, AV.cells, ldc, List.map_cons, List.map_nil, St.set_next, St.set_same, St.up_next, Int.natCast_nonneg, lt_len, le_len, Int.toNat_natCast, true_and, and_true, eq_self, reduceCtorEq, decide_true, List.length_singleton, er_int, er_bool, er_str]
  refine h2 _ _ ?_
  try clear h2 K_h2
  refine T.seq_k (fun K_h2 h2 => ?_)
  refine T.cond rfl (fun hb => ?_) (fun hb => ?_)
  · refine T.skip ?_
    refine h2 _ _ ?_
    try clear h2 K_h2
    have hil : i < l.length := by simpa using hb
    clear hb
    refine T.seq_k (fun K_h2 h2 => ?_)
    refine T.block ?_
    refine T.seq_k (fun K_h3 h3 => ?_)
    refine T.regi hm ?_
    simp only [↓reduceIte, namesOf, List.any, I.names, aops, aopsI, aopsT, qstep, CPt, qget, Tbl.get, astep, ev, setd, List.set, List.getD, List.getElem?_cons_zero, List.getElem?_cons_succ, List.getElem?_nil, List.cons_append, List.nil_append, List.length_cons, List.length_nil, List.replicate, then_normal, inBlock_normal, Option.getD_some, Option.getD_none, Bool.or_false, Bool.or_true, Bool.true_or, Bool.false_or, Bool.false_eq_true, if_false, if_true, up_zero, Nat.reduceAdd, Nat.reduceSub, binv, ↓opt_def, AV.isAny, AV.cells, ldc, List.map_cons, List.map_nil, St.set_next, St.set_same, St.up_next, Int.natCast_nonneg, lt_len, le_len, Int.toNat_natCast, true_and, and_true, eq_self, reduceCtorEq, decide_true, List.length_singleton, er_int, er_bool, er_str, nums_len, nums_get .i64 hil, hil]
    refine h3 _ _ ?_
    try clear h3 K_h3
    refine T.seq_k (fun K_h3 h3 => ?_)
    refine T.regi hm ?_
    simp only [↓reduceIte, namesOf, List.any, I.names, aops, aopsI, aopsT, qstep, CPt, qget, Tbl.get, astep, ev, setd, List.set, List.getD, List.getElem?_cons_zero, List.getElem?_cons_succ, List.getElem?_nil, List.cons_append, List.nil_append, List.length_cons, List.length_nil, List.replicate, then_normal, inBlock_normal, Option.getD_some, Option.getD_none, Bool.or_false, Bool.or_true, Bool.true_or, Bool.false_or, Bool.false_eq_true, if_false, if_true, up_zero, Nat.reduceAdd, Nat.reduceSub, binv, ↓opt_def, AV.isAny, AV.cells, ldc, List.map_cons, List.map_nil, St.set_next, St.set_same, St.up_next, Int.natCast_nonneg, lt_len, le_len, Int.toNat_natCast, true_and, and_true, eq_self, reduceCtorEq, decide_true, List.length_singleton, er_int, er_bool, er_str]
    refine h3 _ _ ?_
    try clear h3 K_h3
    refine T.cond rfl (fun hb => ?_) (fun hb => ?_)
    · refine T.seq_k (fun K_h3 h3 => ?_)
      refine T.regi hm ?_
      simp only [↓reduceIte, namesOf, List.any, I.names, aops, aopsI, aopsT, qstep, CPt, qget, Tbl.get, astep, ev, setd, List.set, List.getD, List.getElem?_cons_zero, List.getElem?_cons_succ, List.getElem?_nil, List.cons_append, List.nil_append, List.length_cons, List.length_nil, List.replicate, then_normal, inBlock_normal, Option.getD_some, Option.getD_none, Bool.or_false, Bool.or_true, Bool.true_or, Bool.false_or, Bool.false_eq_true, if_false, if_true, up_zero, Nat.reduceAdd, Nat.reduceSub, binv, ↓opt_def, AV.isAny, AV.cells, ldc, List.map_cons, List.map_nil, St.set_next, St.set_same, St.up_next, Int.natCast_nonneg, lt_len, le_len, Int.toNat_natCast, true_and, and_true, eq_self, reduceCtorEq, decide_true, List.length_singleton, er_int, er_bool, er_str]
      refine h3 _ _ ?_
      try clear h3 K_h3
      have hne : l[i] ≠ 0 := by simpa using hb
      refine T.ret (Fin.ret rfl ⟨?_, rfl⟩)
      rw [orI_take hil hpre, List.drop_eq_getElem_cons hil]
      simp [pack, orI, hne]
    · refine T.skip ?_
      refine h2 _ _ ?_
      try clear h2 K_h2
      have he : l[i] = 0 := by simpa using hb
      have hw := inc64 hil hl
      refine T.regi hm ?_
      simp only [↓reduceIte, namesOf, List.any, I.names, aops, aopsI, aopsT, qstep, CPt, qget, Tbl.get, astep, ev, setd, List.set, List.getD, List.getElem?_cons_zero, List.getElem?_cons_succ, List.getElem?_nil, List.cons_append, List.nil_append, List.length_cons, List.length_nil, List.replicate, then_normal, inBlock_normal, Option.getD_some, Option.getD_none, Bool.or_false, Bool.or_true, Bool.true_or, Bool.false_or, Bool.false_eq_true, if_false, if_true, up_zero, Nat.reduceAdd, Nat.reduceSub, binv, ↓opt_def, AV.isAny, AV.cells, ldc, List.map_cons, List.map_nil, St.set_next, St.set_same, St.up_next, Int.natCast_nonneg, lt_len, le_len, Int.toNat_natCast, true_and, and_true, eq_self, reduceCtorEq, decide_true, List.length_singleton, er_int, er_bool, er_str, hw]
      refine ⟨hil, _, _, Gh.keep [3, 6, 7, 8], rfl, fun j hj hji => ?_, rfl⟩
      by_cases hx : j = i
      · subst hx; exact he
      · exact hpre j hj (by omega)
  · refine T.exit ?_
    have : i = l.length := by simp at hb; omega
    subst this
    try simp only [↓reduceIte, namesOf, List.any, I.names, aops, aopsI, aopsT, qstep, CPt, qget, Tbl.get, astep, ev, setd, List.set, List.getD, List.getElem?_cons_zero, List.getElem?_cons_succ, List.getElem?_nil, List.cons_append, List.nil_append, List.length_cons, List.length_nil, List.replicate, then_normal, inBlock_normal, Option.getD_some, Option.getD_none, Bool.or_false, Bool.or_true, Bool.true_or, Bool.false_or, Bool.false_eq_true, if_false, if_true, up_zero, Nat.reduceAdd, Nat.reduceSub, binv, ↓opt_def, AV.isAny, AV.cells, ldc, List.map_cons, List.map_nil, St.set_next, St.set_same, St.up_next, Int.natCast_nonneg, lt_len, le_len, Int.toNat_natCast, true_and, and_true, eq_self, reduceCtorEq, decide_true, List.length_singleton, er_int, er_bool, er_str, inBlock_exit, then_exit]
    refine h1 _ _ ?_
    try clear h1 K_h1
    refine T.seq_k (fun K_h1 h1 => ?_)
    refine T.regi hm ?_
    simp only [↓reduceIte, namesOf, List.any, I.names, aops, aopsI, aopsT, qstep, CPt, qget, Tbl.get, astep, ev, setd, List.set, List.getD, List.getElem?_cons_zero, List.getElem?_cons_succ, List.getElem?_nil, List.cons_append, List.nil_append, List.length_cons, List.length_nil, List.replicate, then_normal, inBlock_normal, Option.getD_some, Option.getD_none, Bool.or_false, Bool.or_true, Bool.true_or, Bool.false_or, Bool.false_eq_true, if_false, if_true, up_zero, Nat.reduceAdd, Nat.reduceSub, binv, ↓opt_def, AV.isAny, AV.cells, ldc, List.map_cons, List.map_nil, St.set_next, St.set_same, St.up_next, Int.natCast_nonneg, lt_len, le_len, Int.toNat_natCast, true_and, and_true, eq_self, reduceCtorEq, decide_true, List.length_singleton, er_int, er_bool, er_str]
    refine h1 _ _ ?_
    try clear h1 K_h1
    refine T.ret (Fin.ret rfl ⟨?_, rfl⟩)
    have : orI l = 0 := orI_zero hpre
    rw [this]; rfl

def g_cmpi : List AV → Option AV
  | [.int .i64 a, .int .i64 b] => some (.int .i64 (cmp3 a b))
  | _ => none

theorem cmpi_pure : PureC Try.prog n_cmpi g_cmpi := by
  intro args σ v h
  unfold g_cmpi at h
  split at h
  · simp only [Option.some.injEq] at h; subst h; exact cmpi_ok
  · cases h

def g_cmpu : List AV → Option AV
  | [.int .u64 a, .int .u64 b] => some (.int .i64 (cmp3 a b))
  | _ => none

theorem cmpu_pure : PureC Try.prog n_cmpu g_cmpu := by
  intro args σ v h
  unfold g_cmpu at h
  split at h
  · simp only [Option.some.injEq] at h; subst h; exact cmpu_ok
  · cases h

def g_or3 : List AV → Option AV
  | [.sl [.int .i64 a, .int .i64 b, .int .i64 c] _] => some (.int .i64 (orI [a, b, c]))
  | _ => none

theorem or3_pure : PureC Try.prog n_cor g_or3 := by
  intro args σ v h
  unfold g_or3 at h
  split at h
  · rename_i a b c g
    simp only [Option.some.injEq] at h; subst h
    exact cor_ok (l := [a, b, c]) (by simp)
  · cases h

def tC : Tbl := [(n_cmpi, g_cmpi), (n_cmpu, g_cmpu), (n_cor, g_or3)]

theorem tC_ok : tC.ok Try.prog := Tbl.ok_cons cmpi_pure (Tbl.ok_cons cmpu_pure (Tbl.ok_cons or3_pure Tbl.ok_nil))

/-- how two spans stand, by (Start, Id, Trace) -/
def cmpS (s i t s' i' t' : Int) : Int := orI [cmp3 s s', cmp3 i i', cmp3 t t']

theorem set2_quiet {σ : St} (wf : WF σ) {k : Nat} (r r' : Res) {a b : Nat} (ha : σ.next ≤ a) (hb : σ.next ≤ b) : ∀ n x, σ.res n = some x → (((σ.up k).set a r).set b r').res n = some x := by
  intro n x hr
  have hn : n < σ.next := by
    rcases Nat.lt_or_ge n σ.next with h | h
    · exact h
    · rw [wf n h] at hr; cases hr
  rw [St.set_other _ _ (by omega), St.set_other _ _ (by omega)]; exact hr

theorem set1_quiet {σ : St} (wf : WF σ) {k : Nat} (r : Res) {a : Nat} (ha : σ.next ≤ a) : ∀ n x, σ.res n = some x → ((σ.up k).set a r).res n = some x := by
  intro n x hr
  have hn : n < σ.next := by
    rcases Nat.lt_or_ge n σ.next with h | h
    · exact h
    · rw [wf n h] at hr; cases hr
  rw [St.set_other _ _ (by omega)]; exact hr

theorem scmp_ok {t i s t' i' s' : Int} {x y x' y' : AV} {σ : St} : ACalls Try.prog n_scmp [.agg [.int .u64 t, .int .u64 i, .int .i64 s, x, y], .agg [.int .u64 t', .int .u64 i', .int .i64 s', x', y']] σ
    (fun v σ' => v = .int .i64 (cmpS s i t s' i' t') ∧ σ' = σ) := by
  refine s_scmp (fun wf => ?_)
  unfold c_scmp
  refine T.seq_k (fun K_h1 h1 => ?_)
  refine T.regi hm ?_
  simp only [↓reduceIte, namesOf, List.any, I.names, aops, aopsI, aopsT, qstep, CPt, qget, Tbl.get, astep, ev, setd, List.set, List.getD, List.getElem?_cons_zero, List.getElem?_cons_succ, List.getElem?_nil, List.cons_append, List.nil_append, List.length_cons, List.length_nil, List.replicate, then_normal, inBlock_normal, Option.getD_some, Option.getD_none, Bool.or_false, Bool.or_true, Bool.true_or, Bool.false_or, Bool.false_eq_true, if_false, if_true, up_zero, Nat.reduceAdd, Nat.reduceSub, binv, ↓opt_def, AV.isAny, AV.cells, ldc, List.map_cons, List.map_nil, St.set_next, St.set_same, St.up_next, Int.natCast_nonneg, lt_len, le_len, Int.toNat_natCast, true_and, and_true, eq_self, reduceCtorEq, decide_true, List.length_singleton, er_int, er_bool, er_str]
  have h0 : (((σ.up 3).set (σ.next + 0) (.obj [.int .u64 t, .int .u64 i, .int .i64 s, x, y])).set (σ.next + 1) (.obj [.int .u64 t', .int .u64 i', .int .i64 s', x', y'])).res (σ.next + 0) = some (.obj [.int .u64 t, .int .u64 i, .int .i64 s, x, y]) := by
    rw [St.set_other _ _ (by omega)]; simp
  have h0' : (((σ.up 3).set (σ.next + 0) (.obj [.int .u64 t, .int .u64 i, .int .i64 s, x, y])).set (σ.next + 1) (.obj [.int .u64 t', .int .u64 i', .int .i64 s', x', y'])).res (σ.next + 1) = some (.obj [.int .u64 t', .int .u64 i', .int .i64 s', x', y']) := by simp
  have hq := set2_quiet wf (k := 3) (.obj [.int .u64 t, .int .u64 i, .int .i64 s, x, y]) (.obj [.int .u64 t', .int .u64 i', .int .i64 s', x', y']) (a := σ.next + 0) (b := σ.next + 1) (by omega) (by omega)
  generalize (((σ.up 3).set (σ.next + 0) (.obj [.int .u64 t, .int .u64 i, .int .i64 s, x, y])).set (σ.next + 1) (.obj [.int .u64 t', .int .u64 i', .int .i64 s', x', y'])) = σ1 at h0 h0' hq ⊢
  refine h1 _ _ ?_
  try clear h1 K_h1
  refine T.seq_k (fun K_h1 h1 => ?_)
  refine T.regt hm tC_ok ?_
  simp only [↓reduceIte, namesOf, List.any, I.names, aops, aopsI, aopsT, qstep, CPt, qget, Tbl.get, astep, ev, setd, List.set, List.getD, List.getElem?_cons_zero, List.getElem?_cons_succ, List.getElem?_nil, List.cons_append, List.nil_append, List.length_cons, List.length_nil, List.replicate, then_normal, inBlock_normal, Option.getD_some, Option.getD_none, Bool.or_false, Bool.or_true, Bool.true_or, Bool.false_or, Bool.false_eq_true, if_false, if_true, up_zero, Nat.reduceAdd, Nat.reduceSub, binv, ↓opt_def, AV.isAny, AV.cells, ldc, List.map_cons, List.map_nil, St.set_next, St.set_same, St.up_next, Int.natCast_nonneg, lt_len, le_len, Int.toNat_natCast, true_and, and_true, eq_self, reduceCtorEq, decide_true, List.length_singleton, er_int, er_bool, er_str, Nat.reduceEqDiff, tC, h0, h0', g_cmpi, g_cmpu, g_or3, Nat.zero_add, Nat.reduceEqDiff, List.all_cons, List.all_nil, AV.fits, AV.one, Bool.not_false, Bool.and_self, beq_self_eq_true, held]
  refine h1 _ _ ?_
  try clear h1 K_h1
  exact T.ret (Fin.quiet rfl trivial hq ⟨rfl, rfl⟩)

def mayI (s e n : Int) : Bool := decide (0 ≤ s ∧ s ≤ e ∧ e ≤ 1099511627776 ∧ n ≤ 64)

theorem may_ok {t i : AV} {s e : Int} {xs : List AV} {g : Ver} {σ : St} : ACalls Try.prog n_may [.agg [t, i, .int .i64 s, .int .i64 e, .sl xs g]] σ (fun v σ' => v = .bool (mayI s e xs.length) ∧ σ' = σ) := by
  refine s_may (fun wf => ?_)
  unfold c_may
  refine T.seq_k (fun K_h1 h1 => ?_)
  refine T.regi hm ?_
  simp only [↓reduceIte, namesOf, List.any, I.names, aops, aopsI, aopsT, qstep, CPt, qget, Tbl.get, astep, ev, setd, List.set, List.getD, List.getElem?_cons_zero, List.getElem?_cons_succ, List.getElem?_nil, List.cons_append, List.nil_append, List.length_cons, List.length_nil, List.replicate, then_normal, inBlock_normal, Option.getD_some, Option.getD_none, Bool.or_false, Bool.or_true, Bool.true_or, Bool.false_or, Bool.false_eq_true, if_false, if_true, up_zero, Nat.reduceAdd, Nat.reduceSub, binv, ↓opt_def, AV.isAny, AV.cells, ldc, List.map_cons, List.map_nil, St.set_next, St.set_same, St.up_next, Int.natCast_nonneg, lt_len, le_len, Int.toNat_natCast, true_and, and_true, eq_self, reduceCtorEq, decide_true, List.length_singleton, er_int, er_bool, er_str]
  have h0 : ((σ.up 2).set (σ.next + 0) (.obj [t, i, .int .i64 s, .int .i64 e, .sl xs g])).res (σ.next + 0) = some (.obj [t, i, .int .i64 s, .int .i64 e, .sl xs g]) := by simp
  have hq := set1_quiet wf (k := 2) (.obj [t, i, .int .i64 s, .int .i64 e, .sl xs g]) (a := σ.next + 0) (by omega)
  generalize ((σ.up 2).set (σ.next + 0) (.obj [t, i, .int .i64 s, .int .i64 e, .sl xs g])) = σ1 at h0 hq ⊢
  refine h1 _ _ ?_
  try clear h1 K_h1
  refine T.seq_k (fun K_h1 h1 => ?_)
  by_cases c1 : 0 ≤ s
  case neg =>
    have e1 : decide (s ≥ 0) = false := decide_eq_false (by omega)
    refine T.regi hm ?_
    simp only [↓reduceIte, namesOf, List.any, I.names, aops, aopsI, aopsT, qstep, CPt, qget, Tbl.get, astep, ev, setd, List.set, List.getD, List.getElem?_cons_zero, List.getElem?_cons_succ, List.getElem?_nil, List.cons_append, List.nil_append, List.length_cons, List.length_nil, List.replicate, then_normal, inBlock_normal, Option.getD_some, Option.getD_none, Bool.or_false, Bool.or_true, Bool.true_or, Bool.false_or, Bool.false_eq_true, if_false, if_true, up_zero, Nat.reduceAdd, Nat.reduceSub, binv, ↓opt_def, AV.isAny, AV.cells, ldc, List.map_cons, List.map_nil, St.set_next, St.set_same, St.up_next, Int.natCast_nonneg, lt_len, le_len, Int.toNat_natCast, true_and, and_true, eq_self, reduceCtorEq, decide_true, List.length_singleton, er_int, er_bool, er_str, h0, e1, reduceCtorEq]
    refine h1 _ _ ?_
    try clear h1 K_h1
    exact T.ret (Fin.quiet rfl trivial hq ⟨by simp [pack, mayI, c1], rfl⟩)
  have e1 : decide (s ≥ 0) = true := decide_eq_true c1
  by_cases c2 : s ≤ e
  case neg =>
    have e2 : decide (s ≤ e) = false := decide_eq_false c2
    refine T.regi hm ?_
    simp only [↓reduceIte, namesOf, List.any, I.names, aops, aopsI, aopsT, qstep, CPt, qget, Tbl.get, astep, ev, setd, List.set, List.getD, List.getElem?_cons_zero, List.getElem?_cons_succ, List.getElem?_nil, List.cons_append, List.nil_append, List.length_cons, List.length_nil, List.replicate, then_normal, inBlock_normal, Option.getD_some, Option.getD_none, Bool.or_false, Bool.or_true, Bool.true_or, Bool.false_or, Bool.false_eq_true, if_false, if_true, up_zero, Nat.reduceAdd, Nat.reduceSub, binv, ↓opt_def, AV.isAny, AV.cells, ldc, List.map_cons, List.map_nil, St.set_next, St.set_same, St.up_next, Int.natCast_nonneg, lt_len, le_len, Int.toNat_natCast, true_and, and_true, eq_self, reduceCtorEq, decide_true, List.length_singleton, er_int, er_bool, er_str, h0, e1, e2, reduceCtorEq]
    refine h1 _ _ ?_
    try clear h1 K_h1
    exact T.ret (Fin.quiet rfl trivial hq ⟨by simp [pack, mayI, c2], rfl⟩)
  have e2 : decide (s ≤ e) = true := decide_eq_true c2
  by_cases c3 : e ≤ 1099511627776
  case neg =>
    have e3 : decide (e ≤ 1099511627776) = false := decide_eq_false c3
    refine T.regi hm ?_
    simp only [↓reduceIte, namesOf, List.any, I.names, aops, aopsI, aopsT, qstep, CPt, qget, Tbl.get, astep, ev, setd, List.set, List.getD, List.getElem?_cons_zero, List.getElem?_cons_succ, List.getElem?_nil, List.cons_append, List.nil_append, List.length_cons, List.length_nil, List.replicate, then_normal, inBlock_normal, Option.getD_some, Option.getD_none, Bool.or_false, Bool.or_true, Bool.true_or, Bool.false_or, Bool.false_eq_true, if_false, if_true, up_zero, Nat.reduceAdd, Nat.reduceSub, binv, ↓opt_def, AV.isAny, AV.cells, ldc, List.map_cons, List.map_nil, St.set_next, St.set_same, St.up_next, Int.natCast_nonneg, lt_len, le_len, Int.toNat_natCast, true_and, and_true, eq_self, reduceCtorEq, decide_true, List.length_singleton, er_int, er_bool, er_str, h0, e1, e2, e3, reduceCtorEq]
    refine h1 _ _ ?_
    try clear h1 K_h1
    exact T.ret (Fin.quiet rfl trivial hq ⟨by simp [pack, mayI, c3], rfl⟩)
  have e3 : decide (e ≤ 1099511627776) = true := decide_eq_true c3
  refine T.regi hm ?_
  simp only [↓reduceIte, namesOf, List.any, I.names, aops, aopsI, aopsT, qstep, CPt, qget, Tbl.get, astep, ev, setd, List.set, List.getD, List.getElem?_cons_zero, List.getElem?_cons_succ, List.getElem?_nil, List.cons_append, List.nil_append, List.length_cons, List.length_nil, List.replicate, then_normal, inBlock_normal, Option.getD_some, Option.getD_none, Bool.or_false, Bool.or_true, Bool.true_or, Bool.false_or, Bool.false_eq_true, if_false, if_true, up_zero, Nat.reduceAdd, Nat.reduceSub, binv, ↓opt_def, AV.isAny, AV.cells, ldc, List.map_cons, List.map_nil, St.set_next, St.set_same, St.up_next, Int.natCast_nonneg, lt_len, le_len, Int.toNat_natCast, true_and, and_true, eq_self, reduceCtorEq, decide_true, List.length_singleton, er_int, er_bool, er_str, h0, e1, e2, e3, reduceCtorEq]
  refine h1 _ _ ?_
  try clear h1 K_h1
  exact T.ret (Fin.quiet rfl trivial hq ⟨by simp [pack, mayI, c1, c2, c3], rfl⟩)

def g_scmp : List AV → Option AV
  | [.agg [.int .u64 t, .int .u64 i, .int .i64 s, _, _], .agg [.int .u64 t', .int .u64 i', .int .i64 s', _, _]] => some (.int .i64 (cmpS s i t s' i' t'))
  | _ => none

theorem scmp_pure : PureC Try.prog n_scmp g_scmp := by
  intro args σ v h
  unfold g_scmp at h
  split at h
  · simp only [Option.some.injEq] at h; subst h; exact scmp_ok
  · cases h

def g_may : List AV → Option AV
  | [.agg [_, _, .int .i64 s, .int .i64 e, .sl xs _]] => some (.bool (mayI s e xs.length))
  | _ => none

theorem may_pure : PureC Try.prog n_may g_may := by
  intro args σ v h
  unfold g_may at h
  split at h
  · simp only [Option.some.injEq] at h; subst h; exact may_ok
  · cases h

def tS : Tbl := [(n_scmp, g_scmp), (n_may, g_may)]

theorem tS_ok : tS.ok Try.prog := Tbl.ok_cons scmp_pure (Tbl.ok_cons may_pure Tbl.ok_nil)

end Go.VL

namespace Go.VL

open Go.Proofs

theorem spav (s : Sp) : s.av = .agg [.int .u64 (s.tr : Int), .int .u64 (s.id : Int), .int .i64 s.st, .int .i64 s.en, .sl (bytesAV s.da) .none] := rfl

def mayS (s : Sp) : Bool := mayI s.st s.en s.da.length

def cmpSp (a b : Sp) : Int := cmpS a.st a.id a.tr b.st b.id b.tr

def okAt (t : Tc) (i : Nat) : Bool := match t.sp[i]? with
  | some s => decide (s.tr = t.id) && mayS s && !((t.sp.take i).map Sp.id).contains s.id && (i == 0 || (match t.sp[i - 1]? with | some p => decide (cmpSp p s < 0) | none => false))
  | none => false

def oneB (t : Tc) : Bool := (List.range t.sp.length).all (okAt t) && decide (1 ≤ t.sp.length) && decide (t.sp.length ≤ 100)

def metAV (l : List Nat) : List (AV × AV) := l.map fun n : Nat => (.int .u64 (n : Int), .bool true)

theorem met_find (l : List Nat) (n : Nat) : mfind (.int .u64 (n : Int)) (metAV l) = some (if l.contains n then some (.bool true) else none) := by
  induction l with
  | nil => rfl
  | cons a r ih =>
    unfold metAV at ih ⊢
    by_cases h : n = a
    · subst h
      simp [mfind, keq]
    · have h1 : ((n : Int) == (a : Int)) = false := by simp; omega
      have h2 : (n == a) = false := by simpa using h
      have h3 : (a == n) = false := by simpa using fun e => h e.symm
      simp only [List.map_cons, mfind, keq, if_true, h1, ih, List.contains_cons, h2, Bool.false_or]

theorem met_put (l : List Nat) (n : Nat) (h : l.contains n = false) : mput (.int .u64 (n : Int)) (.bool true) (metAV l) = metAV (l ++ [n]) := by
  induction l with
  | nil => rfl
  | cons a r ih =>
    unfold metAV at ih ⊢
    simp only [List.contains_cons, Bool.or_eq_false_iff] at h
    have h1 : ((n : Int) == (a : Int)) = false := by have := h.1; simp at this ⊢; omega
    simp only [List.map_cons, mput, keq, if_true, h1, ih h.2, List.cons_append]

structure OneSt (σ σ' : St) (a m : Nat) (t : Tc) (l : List Nat) : Prop where
  a0 : σ.next ≤ a
  m0 : σ.next ≤ m
  a1 : a < σ'.next
  m1 : m < σ'.next
  obj : σ'.res a = some (.obj t.av.cells)
  map : σ'.res m = some (.map (metAV l) (List.range l.length) l.length)
  old : ∀ n r, σ.res n = some r → σ'.res n = some r

theorem OneSt.other {σ σ' : St} {a m : Nat} {t : Tc} {l : List Nat} (wf : WF σ) (h : OneSt σ σ' a m t l) {k b : Nat} (r : Res) (hb : σ'.next ≤ b) : OneSt σ ((σ'.up k).set b r) a m t l where
  a0 := h.a0
  m0 := h.m0
  a1 := Nat.lt_of_lt_of_le h.a1 (Nat.le_add_right _ _)
  m1 := Nat.lt_of_lt_of_le h.m1 (Nat.le_add_right _ _)
  obj := by rw [St.set_other _ _ (by have := h.a1; omega)]; exact h.obj
  map := by rw [St.set_other _ _ (by have := h.m1; omega)]; exact h.map
  old := fun n r' hr => by
    have hn : n < σ.next := by
      rcases Nat.lt_or_ge n σ.next with h' | h'
      · exact h'
      · rw [wf n h'] at hr; cases hr
    rw [St.set_other _ _ (by have := h.a0; have := h.a1; omega)]; exact h.old n r' hr

theorem OneSt.put {σ σ' : St} {a m : Nat} {t : Tc} {l : List Nat} {n : Nat} (wf : WF σ) (ham : a ≠ m) (h : OneSt σ σ' a m t l) (hn : l.contains n = false) : OneSt σ (σ'.set m (.map (mput (.int .u64 (n : Int)) (.bool true) (metAV l)) (List.range l.length ++ [l.length]) (l.length + 1))) a m t (l ++ [n]) where
  a0 := h.a0
  m0 := h.m0
  a1 := h.a1
  m1 := h.m1
  obj := by rw [St.set_other _ _ ham]; exact h.obj
  map := by rw [St.set_same, met_put l n hn, List.length_append, List.length_singleton, List.range_succ]
  old := fun n r' hr => by
    have hn : n < σ.next := by
      rcases Nat.lt_or_ge n σ.next with h' | h'
      · exact h'
      · rw [wf n h'] at hr; cases hr
    rw [St.set_other _ _ (by have := h.m0; omega)]; exact h.old n r' hr

theorem one_false {t : Tc} {i : Nat} (hi : i < t.sp.length) (h : okAt t i = false) : oneB t = false := by
  unfold oneB
  have : (List.range t.sp.length).all (okAt t) = false := by
    rw [Bool.eq_false_iff]
    intro hh
    have := List.all_eq_true.1 hh i (by simpa using hi)
    rw [h] at this; cases this
  rw [this]; rfl

set_option maxRecDepth 10000 in
set_option maxHeartbeats 4000000 in
theorem tone_ok {t : Tc} {σ : St} (hl : t.sp.length ≤ 9223372036854775807) : ACalls Try.prog n_one [.agg [.int .u64 (t.id : Int), .sl (spsAV t.sp) .none]] σ (fun v σ' => v = .bool (oneB t) ∧ σ' = σ) := by
  refine s_one (fun wf => ?_)
  unfold c_one
  refine T.seq_k (fun K_h1 h1 => ?_)
  refine T.regi hm ?_
  simp only [↓reduceIte, namesOf, List.any, I.names, aops, aopsI, aopsT, qstep, CPt, qget, Tbl.get, astep, ev, setd, List.set, List.getD, List.getElem?_cons_zero, List.getElem?_cons_succ, List.getElem?_nil, List.cons_append, List.nil_append, List.length_cons, List.length_nil, List.replicate, then_normal, inBlock_normal, Option.getD_some, Option.getD_none, Bool.or_false, Bool.or_true, Bool.true_or, Bool.false_or, Bool.false_eq_true, if_false, if_true, up_zero, Nat.reduceAdd, Nat.reduceSub, binv, ↓opt_def, AV.isAny, AV.cells, ldc, List.map_cons, List.map_nil, St.set_next, St.set_same, St.up_next, Int.natCast_nonneg, lt_len, le_len, Int.toNat_natCast, true_and, and_true, eq_self, reduceCtorEq, decide_true, List.length_singleton, er_int, er_bool, er_str]
  refine h1 _ _ ?_
  try clear h1 K_h1
  refine T.seq_k (fun K_h1 h1 => ?_)
  refine T.regi hm ?_
  simp only [↓reduceIte, namesOf, List.any, I.names, aops, aopsI, aopsT, qstep, CPt, qget, Tbl.get, astep, ev, setd, List.set, List.getD, List.getElem?_cons_zero, List.getElem?_cons_succ, List.getElem?_nil, List.cons_append, List.nil_append, List.length_cons, List.length_nil, List.replicate, then_normal, inBlock_normal, Option.getD_some, Option.getD_none, Bool.or_false, Bool.or_true, Bool.true_or, Bool.false_or, Bool.false_eq_true, if_false, if_true, up_zero, Nat.reduceAdd, Nat.reduceSub, binv, ↓opt_def, AV.isAny, AV.cells, ldc, List.map_cons, List.map_nil, St.set_next, St.set_same, St.up_next, Int.natCast_nonneg, lt_len, le_len, Int.toNat_natCast, true_and, and_true, eq_self, reduceCtorEq, decide_true, List.length_singleton, er_int, er_bool, er_str]
  have o0 : OneSt σ ((((σ.up 2).set (σ.next + 0) (.obj [.int .u64 (t.id : Int), .sl (spsAV t.sp) .none])).up 2).set (σ.next + 2 + 0) (.map [] [] 0)) (σ.next + 0) (σ.next + 2 + 0) t [] := by
    refine ⟨by omega, by omega, by simp; omega, by simp, ?_, by simp [metAV], fun n r hr => ?_⟩
    · rw [St.set_other _ _ (by omega)]; simp [tccells]
    · have hn : n < σ.next := by
        rcases Nat.lt_or_ge n σ.next with h' | h'
        · exact h'
        · rw [wf n h'] at hr; cases hr
      rw [St.set_other _ _ (by omega), St.up_res, St.set_other _ _ (by omega)]; exact hr
  have ham : σ.next + 0 ≠ σ.next + 2 + 0 := by omega
  generalize ((((σ.up 2).set (σ.next + 0) (.obj [.int .u64 (t.id : Int), .sl (spsAV t.sp) .none])).up 2).set (σ.next + 2 + 0) (.map [] [] 0)) = σ1 at o0 ⊢
  generalize σ.next + 0 = a at o0 ham ⊢
  generalize σ.next + 2 + 0 = m at o0 ham ⊢
  refine h1 _ _ ?_
  try clear h1 K_h1
  refine T.seq_k (fun K_h1 h1 => ?_)
  refine T.seq_k (fun K_h2 h2 => ?_)
  have ha := o0.obj
  rw [tccells] at ha
  refine T.regi hm ?_
  simp only [↓reduceIte, namesOf, List.any, I.names, aops, aopsI, aopsT, qstep, CPt, qget, Tbl.get, astep, ev, setd, List.set, List.getD, List.getElem?_cons_zero, List.getElem?_cons_succ, List.getElem?_nil, List.cons_append, List.nil_append, List.length_cons, List.length_nil, List.replicate, then_normal, inBlock_normal, Option.getD_some, Option.getD_none, Bool.or_false, Bool.or_true, Bool.true_or, Bool.false_or, Bool.false_eq_true, if_false, if_true, up_zero, Nat.reduceAdd, Nat.reduceSub, binv, ↓opt_def, AV.isAny, AV.cells, ldc, List.map_cons, List.map_nil, St.set_next, St.set_same, St.up_next, Int.natCast_nonneg, lt_len, le_len, Int.toNat_natCast, true_and, and_true, eq_self, reduceCtorEq, decide_true, List.length_singleton, er_int, er_bool, er_str, ha, sps_len]
  refine h2 _ _ ?_
  try clear h2 K_h2
  clear ha
  refine T.block ?_
  refine T.gh (Gh.keep [1, 3, 8, 9, 10]) ?_
  refine T.loopi (fun i ρ σ' => OneSt σ σ' a m t ((t.sp.take i).map Sp.id) ∧ (List.range i).all (okAt t) = true ∧ ρ = [.any, .ptr a 0, .any, .map m, .any, .any, .any, .any, .sl (spsAV t.sp) .none, .int .i64 (t.sp.length : Int), .int .i64 (i : Int)] ++ List.replicate 49 .any)
    t.sp.length 0 (Nat.zero_le _) ⟨o0, rfl, rfl⟩ ?_
  clear o0 σ1
  rintro i ρ σ' hi ⟨o1, hpre, rfl⟩
  refine T.seq_k (fun K_h2 h2 => ?_)
  refine T.regi hm ?_
  simp only [↓reduceIte, namesOf, List.any, I.names, aops, aopsI, aopsT, qstep, CPt, qget, Tbl.get, astep, ev, setd, List.set, List.getD, List.getElem?_cons_zero, List.getElem?_cons_succ, List.getElem?_nil, List.cons_append, List.nil_append, List.length_cons, List.length_nil, List.replicate, then_normal, inBlock_normal, Option.getD_some, Option.getD_none, Bool.or_false, Bool.or_true, Bool.true_or, Bool.false_or, Bool.false_eq_true, if_false, if_true, up_zero, Nat.reduceAdd, Nat.reduceSub, binv, ↓opt_def, AV.isAny, AV.cells, ldc, List.map_cons, List.map_nil, St.set_next, St.set_same, St.up_next, Int.natCast_nonneg, lt_len, le_len, Int.toNat_natCast, true_and, and_true, eq_self, reduceCtorEq, decide_true, List.length_singleton, er_int, er_bool, er_str]
  refine h2 _ _ ?_
  try clear h2 K_h2
  refine T.seq_k (fun K_h2 h2 => ?_)
  refine T.cond rfl (fun hb => ?_) (fun hb => ?_)
  · refine T.skip ?_
    refine h2 _ _ ?_
    try clear h2 K_h2
    have hil : i < t.sp.length := by simpa using hb
    clear hb
    generalize hs : t.sp[i] = s
    have hsi : t.sp[i]? = some s := by rw [← hs]; simp [hil]
    refine T.seq_k (fun K_h2 h2 => ?_)
    refine T.block ?_
    refine T.seq_k (fun K_h3 h3 => ?_)
    refine T.regi hm ?_
    simp only [↓reduceIte, namesOf, List.any, I.names, aops, aopsI, aopsT, qstep, CPt, qget, Tbl.get, astep, ev, setd, List.set, List.getD, List.getElem?_cons_zero, List.getElem?_cons_succ, List.getElem?_nil, List.cons_append, List.nil_append, List.length_cons, List.length_nil, List.replicate, then_normal, inBlock_normal, Option.getD_some, Option.getD_none, Bool.or_false, Bool.or_true, Bool.true_or, Bool.false_or, Bool.false_eq_true, if_false, if_true, up_zero, Nat.reduceAdd, Nat.reduceSub, binv, ↓opt_def, AV.isAny, AV.cells, ldc, List.map_cons, List.map_nil, St.set_next, St.set_same, St.up_next, Int.natCast_nonneg, lt_len, le_len, Int.toNat_natCast, true_and, and_true, eq_self, reduceCtorEq, decide_true, List.length_singleton, er_int, er_bool, er_str, sps_len, sps_get hil, hil, hs, spav, AV.fits, AV.one, List.all_cons, List.all_nil, Nat.reduceBEq, Bool.and_true, Bool.not_false, Bool.and_self, Nat.zero_add, splice, List.take, List.drop, Nat.reduceLeDiff, St.set_set]
    have o2 := o1.other wf (k := 6) (.obj [.int .u64 (s.tr : Int), .int .u64 (s.id : Int), .int .i64 s.st, .int .i64 s.en, .sl (bytesAV s.da) .none]) (b := σ'.next + 3) (by omega)
    have hb5 : ((σ'.up 6).set (σ'.next + 3) (.obj [.int .u64 (s.tr : Int), .int .u64 (s.id : Int), .int .i64 s.st, .int .i64 s.en, .sl (bytesAV s.da) .none])).res (σ'.next + 3) = some (.obj [.int .u64 (s.tr : Int), .int .u64 (s.id : Int), .int .i64 s.st, .int .i64 s.en, .sl (bytesAV s.da) .none]) := by simp
    have hbn : σ'.next + 3 < ((σ'.up 6).set (σ'.next + 3) (.obj [.int .u64 (s.tr : Int), .int .u64 (s.id : Int), .int .i64 s.st, .int .i64 s.en, .sl (bytesAV s.da) .none])).next := by simp
    have hbm : σ'.next + 3 ≠ m := by have := o1.m1; omega
    clear o1
    generalize ((σ'.up 6).set (σ'.next + 3) (.obj [.int .u64 (s.tr : Int), .int .u64 (s.id : Int), .int .i64 s.st, .int .i64 s.en, .sl (bytesAV s.da) .none])) = σ2 at o2 hb5 hbn ⊢
    generalize σ'.next + 3 = b at hb5 hbn hbm ⊢
    refine h3 _ _ ?_
    try clear h3 K_h3
    have ha := o2.obj
    rw [tccells] at ha
    have hm2 := o2.map
    refine T.seq_k (fun K_h3 h3 => ?_)
    refine T.seq_k (fun K_h4 h4 => ?_)
    -- the four parts
    have fin : okAt t i = false → ∀ ρ' : List AV, ρ'.getD 2 .any = .bool false → Fin σ [.t 2] (fun v σ' => v = .bool (oneB t) ∧ σ' = σ) .ret ρ' σ2 := by
      intro hf ρ' hρ
      refine Fin.quiet (xs := [ρ'.getD 2 .any]) rfl (by rw [hρ]; trivial) o2.old ⟨?_, rfl⟩
      rw [one_false hil hf, hρ]; rfl
    by_cases c1 : s.tr = t.id
    case neg =>
      have e1 : ((s.tr : Int) != (t.id : Int)) = true := by simp; omega
      refine T.regt hm tS_ok ?_
      simp only [↓reduceIte, namesOf, List.any, I.names, aops, aopsI, aopsT, qstep, CPt, qget, Tbl.get, astep, ev, setd, List.set, List.getD, List.getElem?_cons_zero, List.getElem?_cons_succ, List.getElem?_nil, List.cons_append, List.nil_append, List.length_cons, List.length_nil, List.replicate, then_normal, inBlock_normal, Option.getD_some, Option.getD_none, Bool.or_false, Bool.or_true, Bool.true_or, Bool.false_or, Bool.false_eq_true, if_false, if_true, up_zero, Nat.reduceAdd, Nat.reduceSub, binv, ↓opt_def, AV.isAny, AV.cells, ldc, List.map_cons, List.map_nil, St.set_next, St.set_same, St.up_next, Int.natCast_nonneg, lt_len, le_len, Int.toNat_natCast, true_and, and_true, eq_self, reduceCtorEq, decide_true, List.length_singleton, er_int, er_bool, er_str, Nat.reduceEqDiff, tS, n_scmp, n_may, hb5, ha, e1, reduceCtorEq]
      refine h4 _ _ ?_
      try clear h4 K_h4
      refine T.cond rfl (fun _ => ?_) (fun h => by cases h)
      refine T.seq_k (fun K_h4 h4 => ?_)
      refine T.regi hm ?_
      simp only [↓reduceIte, namesOf, List.any, I.names, aops, aopsI, aopsT, qstep, CPt, qget, Tbl.get, astep, ev, setd, List.set, List.getD, List.getElem?_cons_zero, List.getElem?_cons_succ, List.getElem?_nil, List.cons_append, List.nil_append, List.length_cons, List.length_nil, List.replicate, then_normal, inBlock_normal, Option.getD_some, Option.getD_none, Bool.or_false, Bool.or_true, Bool.true_or, Bool.false_or, Bool.false_eq_true, if_false, if_true, up_zero, Nat.reduceAdd, Nat.reduceSub, binv, ↓opt_def, AV.isAny, AV.cells, ldc, List.map_cons, List.map_nil, St.set_next, St.set_same, St.up_next, Int.natCast_nonneg, lt_len, le_len, Int.toNat_natCast, true_and, and_true, eq_self, reduceCtorEq, decide_true, List.length_singleton, er_int, er_bool, er_str]
      refine h4 _ _ ?_
      try clear h4 K_h4
      exact T.ret (fin (by unfold okAt; simp [hsi, c1]) _ rfl)
    have e1 : ((s.tr : Int) != (t.id : Int)) = false := by simp; omega
    cases c2 : mayS s with
    | false =>
      have e2 : mayI s.st s.en (bytesAV s.da).length = false := by rw [bytesAV_len]; exact c2
      refine T.regt hm tS_ok ?_
      simp only [↓reduceIte, namesOf, List.any, I.names, aops, aopsI, aopsT, qstep, CPt, qget, Tbl.get, astep, ev, setd, List.set, List.getD, List.getElem?_cons_zero, List.getElem?_cons_succ, List.getElem?_nil, List.cons_append, List.nil_append, List.length_cons, List.length_nil, List.replicate, then_normal, inBlock_normal, Option.getD_some, Option.getD_none, Bool.or_false, Bool.or_true, Bool.true_or, Bool.false_or, Bool.false_eq_true, if_false, if_true, up_zero, Nat.reduceAdd, Nat.reduceSub, binv, ↓opt_def, AV.isAny, AV.cells, ldc, List.map_cons, List.map_nil, St.set_next, St.set_same, St.up_next, Int.natCast_nonneg, lt_len, le_len, Int.toNat_natCast, true_and, and_true, eq_self, reduceCtorEq, decide_true, List.length_singleton, er_int, er_bool, er_str, Nat.reduceEqDiff, tS, n_scmp, n_may, hb5, ha, e1, g_may, e2, AV.fits, AV.one, List.all_cons, List.all_nil, Nat.reduceBEq, Bool.and_true, Bool.not_false, Bool.and_self, Nat.zero_add, splice, List.take, List.drop, Nat.reduceLeDiff, Bool.not_false, reduceCtorEq]
      refine h4 _ _ ?_
      try clear h4 K_h4
      refine T.cond rfl (fun _ => ?_) (fun h => by cases h)
      refine T.seq_k (fun K_h4 h4 => ?_)
      refine T.regi hm ?_
      simp only [↓reduceIte, namesOf, List.any, I.names, aops, aopsI, aopsT, qstep, CPt, qget, Tbl.get, astep, ev, setd, List.set, List.getD, List.getElem?_cons_zero, List.getElem?_cons_succ, List.getElem?_nil, List.cons_append, List.nil_append, List.length_cons, List.length_nil, List.replicate, then_normal, inBlock_normal, Option.getD_some, Option.getD_none, Bool.or_false, Bool.or_true, Bool.true_or, Bool.false_or, Bool.false_eq_true, if_false, if_true, up_zero, Nat.reduceAdd, Nat.reduceSub, binv, ↓opt_def, AV.isAny, AV.cells, ldc, List.map_cons, List.map_nil, St.set_next, St.set_same, St.up_next, Int.natCast_nonneg, lt_len, le_len, Int.toNat_natCast, true_and, and_true, eq_self, reduceCtorEq, decide_true, List.length_singleton, er_int, er_bool, er_str]
      refine h4 _ _ ?_
      try clear h4 K_h4
      exact T.ret (fin (by unfold okAt; simp [hsi, c2]) _ rfl)
    | true =>
    have e2 : mayI s.st s.en (bytesAV s.da).length = true := by rw [bytesAV_len]; exact c2
    cases c3 : ((t.sp.take i).map Sp.id).contains s.id with
    | true =>
      have e3 : mfind (.int .u64 (s.id : Int)) (metAV ((t.sp.take i).map Sp.id)) = some (some (.bool true)) := by rw [met_find, c3]; rfl
      refine T.regt hm tS_ok ?_
      simp only [↓reduceIte, namesOf, List.any, I.names, aops, aopsI, aopsT, qstep, CPt, qget, Tbl.get, astep, ev, setd, List.set, List.getD, List.getElem?_cons_zero, List.getElem?_cons_succ, List.getElem?_nil, List.cons_append, List.nil_append, List.length_cons, List.length_nil, List.replicate, then_normal, inBlock_normal, Option.getD_some, Option.getD_none, Bool.or_false, Bool.or_true, Bool.true_or, Bool.false_or, Bool.false_eq_true, if_false, if_true, up_zero, Nat.reduceAdd, Nat.reduceSub, binv, ↓opt_def, AV.isAny, AV.cells, ldc, List.map_cons, List.map_nil, St.set_next, St.set_same, St.up_next, Int.natCast_nonneg, lt_len, le_len, Int.toNat_natCast, true_and, and_true, eq_self, reduceCtorEq, decide_true, List.length_singleton, er_int, er_bool, er_str, Nat.reduceEqDiff, tS, n_scmp, n_may, hb5, ha, e1, g_may, e2, hm2, e3, kshape, AV.fits, AV.one, List.all_cons, List.all_nil, Nat.reduceBEq, Bool.and_true, Bool.not_false, Bool.and_self, Nat.zero_add, splice, List.take, List.drop, Nat.reduceLeDiff, Bool.not_true, reduceCtorEq]
      refine h4 _ _ ?_
      try clear h4 K_h4
      refine T.cond rfl (fun _ => ?_) (fun h => by cases h)
      refine T.seq_k (fun K_h4 h4 => ?_)
      refine T.regi hm ?_
      simp only [↓reduceIte, namesOf, List.any, I.names, aops, aopsI, aopsT, qstep, CPt, qget, Tbl.get, astep, ev, setd, List.set, List.getD, List.getElem?_cons_zero, List.getElem?_cons_succ, List.getElem?_nil, List.cons_append, List.nil_append, List.length_cons, List.length_nil, List.replicate, then_normal, inBlock_normal, Option.getD_some, Option.getD_none, Bool.or_false, Bool.or_true, Bool.true_or, Bool.false_or, Bool.false_eq_true, if_false, if_true, up_zero, Nat.reduceAdd, Nat.reduceSub, binv, ↓opt_def, AV.isAny, AV.cells, ldc, List.map_cons, List.map_nil, St.set_next, St.set_same, St.up_next, Int.natCast_nonneg, lt_len, le_len, Int.toNat_natCast, true_and, and_true, eq_self, reduceCtorEq, decide_true, List.length_singleton, er_int, er_bool, er_str]
      refine h4 _ _ ?_
      try clear h4 K_h4
      exact T.ret (fin (by unfold okAt; simp only [hsi, c3, Bool.not_true, Bool.and_false, Bool.false_and]) _ rfl)
    | false =>
    have e3 : mfind (.int .u64 (s.id : Int)) (metAV ((t.sp.take i).map Sp.id)) = some none := by rw [met_find, c3]; rfl
    -- what comes behind a good one
    have cont : okAt t i = true → OneSt σ (σ2.set m (.map (mput (.int .u64 (s.id : Int)) (.bool true) (metAV ((t.sp.take i).map Sp.id))) (List.range ((t.sp.take i).map Sp.id).length ++ [((t.sp.take i).map Sp.id).length]) (((t.sp.take i).map Sp.id).length + 1))) a m t ((t.sp.take (i + 1)).map Sp.id) ∧ (List.range (i + 1)).all (okAt t) = true := by
      intro hk
      refine ⟨?_, ?_⟩
      · rw [List.take_succ_eq_append_getElem hil, List.map_append, hs]
        exact o2.put wf ham c3
      · rw [List.range_succ, List.all_append, hpre]; simp [hk]
    have hw := inc64 hil hl
    cases i with
    | zero =>
      have hok : okAt t 0 = true := by unfold okAt; rw [hsi]; simp [c1, c2]
      have hz : decide (((0 : Nat) : Int) > 0) = false := rfl
      refine T.regt hm tS_ok ?_
      simp only [↓reduceIte, namesOf, List.any, I.names, aops, aopsI, aopsT, qstep, CPt, qget, Tbl.get, astep, ev, setd, List.set, List.getD, List.getElem?_cons_zero, List.getElem?_cons_succ, List.getElem?_nil, List.cons_append, List.nil_append, List.length_cons, List.length_nil, List.replicate, then_normal, inBlock_normal, Option.getD_some, Option.getD_none, Bool.or_false, Bool.or_true, Bool.true_or, Bool.false_or, Bool.false_eq_true, if_false, if_true, up_zero, Nat.reduceAdd, Nat.reduceSub, binv, ↓opt_def, AV.isAny, AV.cells, ldc, List.map_cons, List.map_nil, St.set_next, St.set_same, St.up_next, Int.natCast_nonneg, lt_len, le_len, Int.toNat_natCast, true_and, and_true, eq_self, reduceCtorEq, decide_true, List.length_singleton, er_int, er_bool, er_str, Nat.reduceEqDiff, tS, n_scmp, n_may, hb5, ha, e1, g_may, e2, hm2, e3, kshape, AV.fits, AV.one, List.all_cons, List.all_nil, Nat.reduceBEq, Bool.and_true, Bool.not_false, Bool.and_self, Nat.zero_add, splice, List.take, List.drop, Nat.reduceLeDiff, Bool.not_true, reduceCtorEq, hz]
      refine h4 _ _ ?_
      try clear h4 K_h4
      refine T.cond rfl (fun h => by cases h) (fun _ => ?_)
      refine T.skip ?_
      refine h3 _ _ ?_
      try clear h3 K_h3
      refine T.regi hm ?_
      simp only [↓reduceIte, namesOf, List.any, I.names, aops, aopsI, aopsT, qstep, CPt, qget, Tbl.get, astep, ev, setd, List.set, List.getD, List.getElem?_cons_zero, List.getElem?_cons_succ, List.getElem?_nil, List.cons_append, List.nil_append, List.length_cons, List.length_nil, List.replicate, then_normal, inBlock_normal, Option.getD_some, Option.getD_none, Bool.or_false, Bool.or_true, Bool.true_or, Bool.false_or, Bool.false_eq_true, if_false, if_true, up_zero, Nat.reduceAdd, Nat.reduceSub, binv, ↓opt_def, AV.isAny, AV.cells, ldc, List.map_cons, List.map_nil, St.set_next, St.set_same, St.up_next, Int.natCast_nonneg, lt_len, le_len, Int.toNat_natCast, true_and, and_true, eq_self, reduceCtorEq, decide_true, List.length_singleton, er_int, er_bool, er_str, hb5, hm2, e3, kshape]
      refine h2 _ _ ?_
      try clear h2 K_h2
      obtain ⟨k1, k2⟩ := cont hok
      refine T.regi hm ?_
      simp only [↓reduceIte, namesOf, List.any, I.names, aops, aopsI, aopsT, qstep, CPt, qget, Tbl.get, astep, ev, setd, List.set, List.getD, List.getElem?_cons_zero, List.getElem?_cons_succ, List.getElem?_nil, List.cons_append, List.nil_append, List.length_cons, List.length_nil, List.replicate, then_normal, inBlock_normal, Option.getD_some, Option.getD_none, Bool.or_false, Bool.or_true, Bool.true_or, Bool.false_or, Bool.false_eq_true, if_false, if_true, up_zero, Nat.reduceAdd, Nat.reduceSub, binv, ↓opt_def, AV.isAny, AV.cells, ldc, List.map_cons, List.map_nil, St.set_next, St.set_same, St.up_next, Int.natCast_nonneg, lt_len, le_len, Int.toNat_natCast, true_and, and_true, eq_self, reduceCtorEq, decide_true, List.length_singleton, er_int, er_bool, er_str, hw]
      exact ⟨hil, _, _, Gh.keep [1, 3, 8, 9, 10], k1, k2, rfl⟩
    | succ j =>
      have hjl : j < t.sp.length := by omega
      generalize hp : t.sp[j] = p
      have hpj : t.sp[j]? = some p := by rw [← hp]; simp [hjl]
      have hz : decide (((j + 1 : Nat) : Int) > 0) = true := decide_eq_true (by omega)
      have hd : IntKind.i64.wrap (((j + 1 : Nat) : Int) - 1) = (j : Int) := by rw [wrap64 (by omega) (by omega)]; omega
      by_cases c4 : cmpSp p s < 0
      · have hok : okAt t (j + 1) = true := by unfold okAt; rw [hsi]; simp [c1, c2, hpj, c4]; simpa using c3
        have e4 : decide (cmpS p.st p.id p.tr s.st s.id s.tr ≥ 0) = false := decide_eq_false (by have : cmpS p.st p.id p.tr s.st s.id s.tr < 0 := c4; omega)
        refine T.regt hm tS_ok ?_
        simp only [↓reduceIte, namesOf, List.any, I.names, aops, aopsI, aopsT, qstep, CPt, qget, Tbl.get, astep, ev, setd, List.set, List.getD, List.getElem?_cons_zero, List.getElem?_cons_succ, List.getElem?_nil, List.cons_append, List.nil_append, List.length_cons, List.length_nil, List.replicate, then_normal, inBlock_normal, Option.getD_some, Option.getD_none, Bool.or_false, Bool.or_true, Bool.true_or, Bool.false_or, Bool.false_eq_true, if_false, if_true, up_zero, Nat.reduceAdd, Nat.reduceSub, binv, ↓opt_def, AV.isAny, AV.cells, ldc, List.map_cons, List.map_nil, St.set_next, St.set_same, St.up_next, Int.natCast_nonneg, lt_len, le_len, Int.toNat_natCast, true_and, and_true, eq_self, reduceCtorEq, decide_true, List.length_singleton, er_int, er_bool, er_str, Nat.reduceEqDiff, tS, n_scmp, n_may, hb5, ha, e1, g_may, g_scmp, e2, hm2, e3, kshape, AV.fits, AV.one, List.all_cons, List.all_nil, Nat.reduceBEq, Bool.and_true, Bool.not_false, Bool.and_self, Nat.zero_add, splice, List.take, List.drop, Nat.reduceLeDiff, Bool.not_true, reduceCtorEq, hz, hd, sps_len, sps_get hjl, hjl, hp, spav, e4]
        refine h4 _ _ ?_
        try clear h4 K_h4
        refine T.cond rfl (fun h => by cases h) (fun _ => ?_)
        refine T.skip ?_
        refine h3 _ _ ?_
        try clear h3 K_h3
        refine T.regi hm ?_
        simp only [↓reduceIte, namesOf, List.any, I.names, aops, aopsI, aopsT, qstep, CPt, qget, Tbl.get, astep, ev, setd, List.set, List.getD, List.getElem?_cons_zero, List.getElem?_cons_succ, List.getElem?_nil, List.cons_append, List.nil_append, List.length_cons, List.length_nil, List.replicate, then_normal, inBlock_normal, Option.getD_some, Option.getD_none, Bool.or_false, Bool.or_true, Bool.true_or, Bool.false_or, Bool.false_eq_true, if_false, if_true, up_zero, Nat.reduceAdd, Nat.reduceSub, binv, ↓opt_def, AV.isAny, AV.cells, ldc, List.map_cons, List.map_nil, St.set_next, St.set_same, St.up_next, Int.natCast_nonneg, lt_len, le_len, Int.toNat_natCast, true_and, and_true, eq_self, reduceCtorEq, decide_true, List.length_singleton, er_int, er_bool, er_str, hb5, hm2, e3, kshape]
        refine h2 _ _ ?_
        try clear h2 K_h2
        obtain ⟨k1, k2⟩ := cont hok
        refine T.regi hm ?_
        simp only [↓reduceIte, namesOf, List.any, I.names, aops, aopsI, aopsT, qstep, CPt, qget, Tbl.get, astep, ev, setd, List.set, List.getD, List.getElem?_cons_zero, List.getElem?_cons_succ, List.getElem?_nil, List.cons_append, List.nil_append, List.length_cons, List.length_nil, List.replicate, then_normal, inBlock_normal, Option.getD_some, Option.getD_none, Bool.or_false, Bool.or_true, Bool.true_or, Bool.false_or, Bool.false_eq_true, if_false, if_true, up_zero, Nat.reduceAdd, Nat.reduceSub, binv, ↓opt_def, AV.isAny, AV.cells, ldc, List.map_cons, List.map_nil, St.set_next, St.set_same, St.up_next, Int.natCast_nonneg, lt_len, le_len, Int.toNat_natCast, true_and, and_true, eq_self, reduceCtorEq, decide_true, List.length_singleton, er_int, er_bool, er_str, hw]
        exact ⟨hil, _, _, Gh.keep [1, 3, 8, 9, 10], k1, k2, rfl⟩
      · have e4 : decide (cmpS p.st p.id p.tr s.st s.id s.tr ≥ 0) = true := decide_eq_true (by have : ¬ cmpS p.st p.id p.tr s.st s.id s.tr < 0 := c4; omega)
        refine T.regt hm tS_ok ?_
        simp only [↓reduceIte, namesOf, List.any, I.names, aops, aopsI, aopsT, qstep, CPt, qget, Tbl.get, astep, ev, setd, List.set, List.getD, List.getElem?_cons_zero, List.getElem?_cons_succ, List.getElem?_nil, List.cons_append, List.nil_append, List.length_cons, List.length_nil, List.replicate, then_normal, inBlock_normal, Option.getD_some, Option.getD_none, Bool.or_false, Bool.or_true, Bool.true_or, Bool.false_or, Bool.false_eq_true, if_false, if_true, up_zero, Nat.reduceAdd, Nat.reduceSub, binv, ↓opt_def, AV.isAny, AV.cells, ldc, List.map_cons, List.map_nil, St.set_next, St.set_same, St.up_next, Int.natCast_nonneg, lt_len, le_len, Int.toNat_natCast, true_and, and_true, eq_self, reduceCtorEq, decide_true, List.length_singleton, er_int, er_bool, er_str, Nat.reduceEqDiff, tS, n_scmp, n_may, hb5, ha, e1, g_may, g_scmp, e2, hm2, e3, kshape, AV.fits, AV.one, List.all_cons, List.all_nil, Nat.reduceBEq, Bool.and_true, Bool.not_false, Bool.and_self, Nat.zero_add, splice, List.take, List.drop, Nat.reduceLeDiff, Bool.not_true, reduceCtorEq, hz, hd, sps_len, sps_get hjl, hjl, hp, spav, e4]
        refine h4 _ _ ?_
        try clear h4 K_h4
        refine T.cond rfl (fun _ => ?_) (fun h => by cases h)
        refine T.seq_k (fun K_h4 h4 => ?_)
        refine T.regi hm ?_
        simp only [↓reduceIte, namesOf, List.any, I.names, aops, aopsI, aopsT, qstep, CPt, qget, Tbl.get, astep, ev, setd, List.set, List.getD, List.getElem?_cons_zero, List.getElem?_cons_succ, List.getElem?_nil, List.cons_append, List.nil_append, List.length_cons, List.length_nil, List.replicate, then_normal, inBlock_normal, Option.getD_some, Option.getD_none, Bool.or_false, Bool.or_true, Bool.true_or, Bool.false_or, Bool.false_eq_true, if_false, if_true, up_zero, Nat.reduceAdd, Nat.reduceSub, binv, ↓opt_def, AV.isAny, AV.cells, ldc, List.map_cons, List.map_nil, St.set_next, St.set_same, St.up_next, Int.natCast_nonneg, lt_len, le_len, Int.toNat_natCast, true_and, and_true, eq_self, reduceCtorEq, decide_true, List.length_singleton, er_int, er_bool, er_str]
        refine h4 _ _ ?_
        try clear h4 K_h4
        exact T.ret (fin (by unfold okAt; rw [hsi]; simp [hpj, c4]) _ rfl)
  · refine T.exit ?_
    have : i = t.sp.length := by simp at hb; omega
    subst this
    try simp only [↓reduceIte, namesOf, List.any, I.names, aops, aopsI, aopsT, qstep, CPt, qget, Tbl.get, astep, ev, setd, List.set, List.getD, List.getElem?_cons_zero, List.getElem?_cons_succ, List.getElem?_nil, List.cons_append, List.nil_append, List.length_cons, List.length_nil, List.replicate, then_normal, inBlock_normal, Option.getD_some, Option.getD_none, Bool.or_false, Bool.or_true, Bool.true_or, Bool.false_or, Bool.false_eq_true, if_false, if_true, up_zero, Nat.reduceAdd, Nat.reduceSub, binv, ↓opt_def, AV.isAny, AV.cells, ldc, List.map_cons, List.map_nil, St.set_next, St.set_same, St.up_next, Int.natCast_nonneg, lt_len, le_len, Int.toNat_natCast, true_and, and_true, eq_self, reduceCtorEq, decide_true, List.length_singleton, er_int, er_bool, er_str, inBlock_exit, then_exit]
    refine h1 _ _ ?_
    try clear h1 K_h1
    have ha := o1.obj
    rw [tccells] at ha
    refine T.seq_k (fun K_h1 h1 => ?_)
    have fin : ∀ (x : Bool) (ρ' : List AV), oneB t = x → ρ'.getD 2 .any = .bool x → Fin σ [.t 2] (fun v σ' => v = .bool (oneB t) ∧ σ' = σ) .ret ρ' σ' := by
      intro x ρ' hx hρ
      refine Fin.quiet (xs := [ρ'.getD 2 .any]) rfl (by rw [hρ]; trivial) o1.old ⟨?_, rfl⟩
      rw [hx, hρ]; rfl
    by_cases c1 : 1 ≤ t.sp.length
    · have e1 : decide ((t.sp.length : Int) ≥ 1) = true := decide_eq_true (by omega)
      refine T.regi hm ?_
      simp only [↓reduceIte, namesOf, List.any, I.names, aops, aopsI, aopsT, qstep, CPt, qget, Tbl.get, astep, ev, setd, List.set, List.getD, List.getElem?_cons_zero, List.getElem?_cons_succ, List.getElem?_nil, List.cons_append, List.nil_append, List.length_cons, List.length_nil, List.replicate, then_normal, inBlock_normal, Option.getD_some, Option.getD_none, Bool.or_false, Bool.or_true, Bool.true_or, Bool.false_or, Bool.false_eq_true, if_false, if_true, up_zero, Nat.reduceAdd, Nat.reduceSub, binv, ↓opt_def, AV.isAny, AV.cells, ldc, List.map_cons, List.map_nil, St.set_next, St.set_same, St.up_next, Int.natCast_nonneg, lt_len, le_len, Int.toNat_natCast, true_and, and_true, eq_self, reduceCtorEq, decide_true, List.length_singleton, er_int, er_bool, er_str, ha, sps_len, e1]
      refine h1 _ _ ?_
      try clear h1 K_h1
      refine T.ret (fin _ _ ?_ rfl)
      unfold oneB
      rw [hpre, decide_eq_true c1]
      have : decide ((t.sp.length : Int) ≤ 100) = decide (t.sp.length ≤ 100) := by rw [decide_eq_decide]; omega
      rw [this]; rfl
    · have e1 : decide ((t.sp.length : Int) ≥ 1) = false := decide_eq_false (by omega)
      refine T.regi hm ?_
      simp only [↓reduceIte, namesOf, List.any, I.names, aops, aopsI, aopsT, qstep, CPt, qget, Tbl.get, astep, ev, setd, List.set, List.getD, List.getElem?_cons_zero, List.getElem?_cons_succ, List.getElem?_nil, List.cons_append, List.nil_append, List.length_cons, List.length_nil, List.replicate, then_normal, inBlock_normal, Option.getD_some, Option.getD_none, Bool.or_false, Bool.or_true, Bool.true_or, Bool.false_or, Bool.false_eq_true, if_false, if_true, up_zero, Nat.reduceAdd, Nat.reduceSub, binv, ↓opt_def, AV.isAny, AV.cells, ldc, List.map_cons, List.map_nil, St.set_next, St.set_same, St.up_next, Int.natCast_nonneg, lt_len, le_len, Int.toNat_natCast, true_and, and_true, eq_self, reduceCtorEq, decide_true, List.length_singleton, er_int, er_bool, er_str, ha, sps_len, e1]
      refine h1 _ _ ?_
      try clear h1 K_h1
      refine T.ret (fin _ _ ?_ rfl)
      unfold oneB
      rw [hpre, decide_eq_false c1]; rfl

end Go.VL

namespace Go.VL

open Go.Proofs

theorem bytesAV_inj {a b : List UInt8} (h : bytesAV a = bytesAV b) : a = b := by
  have := congrArg toBytes h
  rw [toBytes_bytes, toBytes_bytes] at this
  exact Option.some.inj this

theorem spav_inj {a b : Sp} (h : a.av = b.av) : a = b := by
  obtain ⟨a1, a2, a3, a4, a5⟩ := a
  obtain ⟨b1, b2, b3, b4, b5⟩ := b
  simp only [Sp.av, AV.agg.injEq, List.cons.injEq, AV.int.injEq, true_and, AV.sl.injEq, and_true] at h
  obtain ⟨h1, h2, h3, h4, h5⟩ := h
  simp only [Sp.mk.injEq]
  exact ⟨by omega, by omega, h3, h4, bytesAV_inj h5⟩

theorem spsAV_inj : ∀ {a b : List Sp}, spsAV a = spsAV b → a = b
  | [], [], _ => rfl
  | [], _ :: _, h => by cases h
  | _ :: _, [], h => by cases h
  | x :: a, y :: b, h => by
    simp only [spsAV, List.map_cons, List.cons.injEq] at h
    rw [spav_inj h.1, spsAV_inj (a := a) (b := b) h.2]

open Classical in
noncomputable def g_one (args : List AV) : Option AV :=
  if h : ∃ t : Tc, args = [.agg [.int .u64 (t.id : Int), .sl (spsAV t.sp) .none]] ∧ t.sp.length ≤ 9223372036854775807 then some (.bool (oneB h.choose)) else none

theorem one_inj {t c : Tc} (h : [AV.agg [.int .u64 (t.id : Int), .sl (spsAV t.sp) .none]] = [.agg [.int .u64 (c.id : Int), .sl (spsAV c.sp) .none]]) : c = t := by
  simp only [List.cons.injEq, and_true, AV.agg.injEq, AV.int.injEq, true_and, AV.sl.injEq] at h
  obtain ⟨i, sp⟩ := t
  obtain ⟨j, sq⟩ := c
  simp only at h
  have e1 : i = j := Int.ofNat.inj h.1
  have e2 := spsAV_inj h.2
  rw [e1, e2]

theorem g_one_eq {t : Tc} (hl : t.sp.length ≤ 9223372036854775807) : g_one [.agg [.int .u64 (t.id : Int), .sl (spsAV t.sp) .none]] = some (.bool (oneB t)) := by
  unfold g_one
  have hex : ∃ t' : Tc, [AV.agg [.int .u64 (t.id : Int), .sl (spsAV t.sp) .none]] = [.agg [.int .u64 (t'.id : Int), .sl (spsAV t'.sp) .none]] ∧ t'.sp.length ≤ 9223372036854775807 := ⟨t, rfl, hl⟩
  rw [dif_pos hex]
  have this : hex.choose = t := one_inj hex.choose_spec.1
  rw [this]

theorem one_pure : PureC Try.prog n_one g_one := by
  intro args σ v h
  unfold g_one at h
  split at h
  · rename_i hex
    simp only [Option.some.injEq] at h; subst h
    have hc := hex.choose_spec
    generalize hex.choose = c at hc
    obtain ⟨rfl, hl⟩ := hc
    exact tone_ok hl
  · cases h

noncomputable def tO : Tbl := [(n_one, g_one)]

theorem tO_ok : tO.ok Try.prog := Tbl.ok_cons one_pure Tbl.ok_nil

def isAt (l : List Tc) (i : Nat) : Bool := match l[i]? with
  | some t => oneB t && (i == 0 || (match l[i - 1]? with | some p => decide (p.id < t.id) | none => false))
  | none => false

def isB (l : List Tc) : Bool := (List.range l.length).all (isAt l)

theorem is_false {l : List Tc} {i : Nat} (hi : i < l.length) (h : isAt l i = false) : isB l = false := by
  unfold isB
  rw [Bool.eq_false_iff]
  intro hh
  have := List.all_eq_true.1 hh i (by simpa using hi)
  rw [h] at this; cases this

theorem tcav' (t : Tc) : t.av = .agg [.int .u64 (t.id : Int), .sl (spsAV t.sp) .none] := rfl

set_option maxRecDepth 10000 in
theorem is_ok {l : List Tc} {g : Ver} {σ : St} (hl : l.length ≤ 9223372036854775807) (hs : ∀ t ∈ l, t.sp.length ≤ 9223372036854775807) : ACalls Try.prog n_is [.sl (tcsAV l) g] σ (fun v σ' => v = .bool (isB l) ∧ σ' = σ) := by
  refine s_is (fun wf => ?_)
  unfold c_is
  refine T.seq_k (fun K_h1 h1 => ?_)
  refine T.regi hm ?_
  simp only [↓reduceIte, namesOf, List.any, I.names, aops, aopsI, aopsT, qstep, CPt, qget, Tbl.get, astep, ev, setd, List.set, List.getD, List.getElem?_cons_zero, List.getElem?_cons_succ, List.getElem?_nil, List.cons_append, List.nil_append, List.length_cons, List.length_nil, List.replicate, then_normal, inBlock_normal, Option.getD_some, Option.getD_none, Bool.or_false, Bool.or_true, Bool.true_or, Bool.false_or, Bool.false_eq_true, if_false, if_true, up_zero, Nat.reduceAdd, Nat.reduceSub, binv, ↓opt_def, AV.isAny, AV.cells, ldc, List.map_cons, List.map_nil, St.set_next, St.set_same, St.up_next, Int.natCast_nonneg, lt_len, le_len, Int.toNat_natCast, true_and, and_true, eq_self, reduceCtorEq, decide_true, List.length_singleton, er_int, er_bool, er_str]
  refine h1 _ _ ?_
  try clear h1 K_h1
  refine T.seq_k (fun K_h1 h1 => ?_)
  refine T.seq_k (fun K_h2 h2 => ?_)
  refine T.regi hm ?_
  simp only [↓reduceIte, namesOf, List.any, I.names, aops, aopsI, aopsT, qstep, CPt, qget, Tbl.get, astep, ev, setd, List.set, List.getD, List.getElem?_cons_zero, List.getElem?_cons_succ, List.getElem?_nil, List.cons_append, List.nil_append, List.length_cons, List.length_nil, List.replicate, then_normal, inBlock_normal, Option.getD_some, Option.getD_none, Bool.or_false, Bool.or_true, Bool.true_or, Bool.false_or, Bool.false_eq_true, if_false, if_true, up_zero, Nat.reduceAdd, Nat.reduceSub, binv, ↓opt_def, AV.isAny, AV.cells, ldc, List.map_cons, List.map_nil, St.set_next, St.set_same, St.up_next, Int.natCast_nonneg, lt_len, le_len, Int.toNat_natCast, true_and, and_true, eq_self, reduceCtorEq, decide_true, List.length_singleton, er_int, er_bool, er_str, tcs_len]
  refine h2 _ _ ?_
  try clear h2 K_h2
  refine T.block ?_
  refine T.gh (Gh.keep [0, 5, 6, 7]) ?_
  refine T.loopi (fun i ρ σ' => σ.next ≤ σ'.next ∧ (∀ n x, σ.res n = some x → σ'.res n = some x) ∧ (List.range i).all (isAt l) = true ∧ ρ = [.sl (tcsAV l) g, .any, .any, .any, .any, .sl (tcsAV l) g, .int .i64 (l.length : Int), .int .i64 (i : Int)] ++ List.replicate 23 .any)
    l.length 0 (Nat.zero_le _) ⟨Nat.le_refl _, fun _ _ h => h, rfl, rfl⟩ ?_
  rintro i ρ σ' hi ⟨hn, ho, hpre, rfl⟩
  refine T.seq_k (fun K_h2 h2 => ?_)
  refine T.regi hm ?_
  simp only [↓reduceIte, namesOf, List.any, I.names, aops, aopsI, aopsT, qstep, CPt, qget, Tbl.get, astep, ev, setd, List.set, List.getD, List.getElem?_cons_zero, List.getElem?_cons_succ, List.getElem?_nil, List.cons_append, List.nil_append, List.length_cons, List.length_nil, List.replicate, then_normal, inBlock_normal, Option.getD_some, Option.getD_none, Bool.or_false, Bool.or_true, Bool.true_or, Bool.false_or, Bool.false_eq_true, if_false, if_true, up_zero, Nat.reduceAdd, Nat.reduceSub, binv, ↓opt_def, AV.isAny, AV.cells, ldc, List.map_cons, List.map_nil, St.set_next, St.set_same, St.up_next, Int.natCast_nonneg, lt_len, le_len, Int.toNat_natCast, true_and, and_true, eq_self, reduceCtorEq, decide_true, List.length_singleton, er_int, er_bool, er_str]
  refine h2 _ _ ?_
  try clear h2 K_h2
  refine T.seq_k (fun K_h2 h2 => ?_)
  refine T.cond rfl (fun hb => ?_) (fun hb => ?_)
  · refine T.skip ?_
    refine h2 _ _ ?_
    try clear h2 K_h2
    have hil : i < l.length := by simpa using hb
    clear hb
    generalize ht : l[i] = t
    have hti : l[i]? = some t := by rw [← ht]; simp [hil]
    have htl : t.sp.length ≤ 9223372036854775807 := by rw [← ht]; exact hs _ (List.getElem_mem hil)
    refine T.seq_k (fun K_h2 h2 => ?_)
    refine T.block ?_
    refine T.seq_k (fun K_h3 h3 => ?_)
    refine T.regi hm ?_
    simp only [↓reduceIte, namesOf, List.any, I.names, aops, aopsI, aopsT, qstep, CPt, qget, Tbl.get, astep, ev, setd, List.set, List.getD, List.getElem?_cons_zero, List.getElem?_cons_succ, List.getElem?_nil, List.cons_append, List.nil_append, List.length_cons, List.length_nil, List.replicate, then_normal, inBlock_normal, Option.getD_some, Option.getD_none, Bool.or_false, Bool.or_true, Bool.true_or, Bool.false_or, Bool.false_eq_true, if_false, if_true, up_zero, Nat.reduceAdd, Nat.reduceSub, binv, ↓opt_def, AV.isAny, AV.cells, ldc, List.map_cons, List.map_nil, St.set_next, St.set_same, St.up_next, Int.natCast_nonneg, lt_len, le_len, Int.toNat_natCast, true_and, and_true, eq_self, reduceCtorEq, decide_true, List.length_singleton, er_int, er_bool, er_str, tcs_len, tcs_get hil, hil, ht, tcav', AV.fits, AV.one, List.all_cons, List.all_nil, Nat.reduceBEq, Bool.and_true, Bool.not_false, Bool.and_self, Nat.zero_add, splice, List.take, List.drop, Nat.reduceLeDiff, St.set_set]
    have ho2 := set_quiet wf hn ho (k := 6) (.obj [.int .u64 (t.id : Int), .sl (spsAV t.sp) .none]) (a := σ'.next + 3) (by omega)
    have hb5 : ((σ'.up 6).set (σ'.next + 3) (.obj [.int .u64 (t.id : Int), .sl (spsAV t.sp) .none])).res (σ'.next + 3) = some (.obj [.int .u64 (t.id : Int), .sl (spsAV t.sp) .none]) := by simp
    have hn2 : σ.next ≤ ((σ'.up 6).set (σ'.next + 3) (.obj [.int .u64 (t.id : Int), .sl (spsAV t.sp) .none])).next := by simp; omega
    generalize ((σ'.up 6).set (σ'.next + 3) (.obj [.int .u64 (t.id : Int), .sl (spsAV t.sp) .none])) = σ2 at ho2 hb5 hn2 ⊢
    generalize σ'.next + 3 = b at hb5 ⊢
    refine h3 _ _ ?_
    try clear h3 K_h3
    have fin : isAt l i = false → ∀ ρ' : List AV, ρ'.getD 2 .any = .bool false → Fin σ [.t 2] (fun v σ' => v = .bool (isB l) ∧ σ' = σ) .ret ρ' σ2 := by
      intro hf ρ' hρ
      refine Fin.quiet (xs := [ρ'.getD 2 .any]) rfl (by rw [hρ]; trivial) ho2 ⟨?_, rfl⟩
      rw [is_false hil hf, hρ]; rfl
    have hge := g_one_eq (t := t) htl
    have hw := inc64 hil hl
    refine T.seq_k (fun K_h3 h3 => ?_)
    cases c1 : oneB t with
    | false =>
      refine T.regt hm tO_ok ?_
      simp only [↓reduceIte, namesOf, List.any, I.names, aops, aopsI, aopsT, qstep, CPt, qget, Tbl.get, astep, ev, setd, List.set, List.getD, List.getElem?_cons_zero, List.getElem?_cons_succ, List.getElem?_nil, List.cons_append, List.nil_append, List.length_cons, List.length_nil, List.replicate, then_normal, inBlock_normal, Option.getD_some, Option.getD_none, Bool.or_false, Bool.or_true, Bool.true_or, Bool.false_or, Bool.false_eq_true, if_false, if_true, up_zero, Nat.reduceAdd, Nat.reduceSub, binv, ↓opt_def, AV.isAny, AV.cells, ldc, List.map_cons, List.map_nil, St.set_next, St.set_same, St.up_next, Int.natCast_nonneg, lt_len, le_len, Int.toNat_natCast, true_and, and_true, eq_self, reduceCtorEq, decide_true, List.length_singleton, er_int, er_bool, er_str, Nat.reduceEqDiff, tO, hb5, hge, c1, AV.fits, AV.one, List.all_cons, List.all_nil, Nat.reduceBEq, Bool.and_true, Bool.not_false, Bool.and_self, Nat.zero_add, splice, List.take, List.drop, Nat.reduceLeDiff, Bool.not_false, reduceCtorEq]
      refine h3 _ _ ?_
      try clear h3 K_h3
      refine T.cond rfl (fun _ => ?_) (fun h => by cases h)
      refine T.seq_k (fun K_h3 h3 => ?_)
      refine T.regi hm ?_
      simp only [↓reduceIte, namesOf, List.any, I.names, aops, aopsI, aopsT, qstep, CPt, qget, Tbl.get, astep, ev, setd, List.set, List.getD, List.getElem?_cons_zero, List.getElem?_cons_succ, List.getElem?_nil, List.cons_append, List.nil_append, List.length_cons, List.length_nil, List.replicate, then_normal, inBlock_normal, Option.getD_some, Option.getD_none, Bool.or_false, Bool.or_true, Bool.true_or, Bool.false_or, Bool.false_eq_true, if_false, if_true, up_zero, Nat.reduceAdd, Nat.reduceSub, binv, ↓opt_def, AV.isAny, AV.cells, ldc, List.map_cons, List.map_nil, St.set_next, St.set_same, St.up_next, Int.natCast_nonneg, lt_len, le_len, Int.toNat_natCast, true_and, and_true, eq_self, reduceCtorEq, decide_true, List.length_singleton, er_int, er_bool, er_str]
      refine h3 _ _ ?_
      try clear h3 K_h3
      exact T.ret (fin (by unfold isAt; simp only [hti, c1, Bool.false_and]) _ rfl)
    | true =>
    cases i with
    | zero =>
      have hz : decide (((0 : Nat) : Int) > 0) = false := rfl
      refine T.regt hm tO_ok ?_
      simp only [↓reduceIte, namesOf, List.any, I.names, aops, aopsI, aopsT, qstep, CPt, qget, Tbl.get, astep, ev, setd, List.set, List.getD, List.getElem?_cons_zero, List.getElem?_cons_succ, List.getElem?_nil, List.cons_append, List.nil_append, List.length_cons, List.length_nil, List.replicate, then_normal, inBlock_normal, Option.getD_some, Option.getD_none, Bool.or_false, Bool.or_true, Bool.true_or, Bool.false_or, Bool.false_eq_true, if_false, if_true, up_zero, Nat.reduceAdd, Nat.reduceSub, binv, ↓opt_def, AV.isAny, AV.cells, ldc, List.map_cons, List.map_nil, St.set_next, St.set_same, St.up_next, Int.natCast_nonneg, lt_len, le_len, Int.toNat_natCast, true_and, and_true, eq_self, reduceCtorEq, decide_true, List.length_singleton, er_int, er_bool, er_str, Nat.reduceEqDiff, tO, hb5, hge, c1, AV.fits, AV.one, List.all_cons, List.all_nil, Nat.reduceBEq, Bool.and_true, Bool.not_false, Bool.and_self, Nat.zero_add, splice, List.take, List.drop, Nat.reduceLeDiff, Bool.not_true, reduceCtorEq, hz]
      refine h3 _ _ ?_
      try clear h3 K_h3
      refine T.cond rfl (fun h => by cases h) (fun _ => ?_)
      refine T.skip ?_
      refine h2 _ _ ?_
      try clear h2 K_h2
      refine T.regi hm ?_
      simp only [↓reduceIte, namesOf, List.any, I.names, aops, aopsI, aopsT, qstep, CPt, qget, Tbl.get, astep, ev, setd, List.set, List.getD, List.getElem?_cons_zero, List.getElem?_cons_succ, List.getElem?_nil, List.cons_append, List.nil_append, List.length_cons, List.length_nil, List.replicate, then_normal, inBlock_normal, Option.getD_some, Option.getD_none, Bool.or_false, Bool.or_true, Bool.true_or, Bool.false_or, Bool.false_eq_true, if_false, if_true, up_zero, Nat.reduceAdd, Nat.reduceSub, binv, ↓opt_def, AV.isAny, AV.cells, ldc, List.map_cons, List.map_nil, St.set_next, St.set_same, St.up_next, Int.natCast_nonneg, lt_len, le_len, Int.toNat_natCast, true_and, and_true, eq_self, reduceCtorEq, decide_true, List.length_singleton, er_int, er_bool, er_str, hw]
      exact ⟨hil, _, _, Gh.keep [0, 5, 6, 7], hn2, ho2, by simp [isAt, hti, c1], rfl⟩
    | succ j =>
      have hjl : j < l.length := by omega
      generalize hp : l[j] = p
      have hpj : l[j]? = some p := by rw [← hp]; simp [hjl]
      have hz : decide (((j + 1 : Nat) : Int) > 0) = true := decide_eq_true (by omega)
      have hd : IntKind.i64.wrap (((j + 1 : Nat) : Int) - 1) = (j : Int) := by rw [wrap64 (by omega) (by omega)]; omega
      by_cases c4 : p.id < t.id
      · have e4 : decide ((p.id : Int) ≥ (t.id : Int)) = false := decide_eq_false (by omega)
        refine T.regt hm tO_ok ?_
        simp only [↓reduceIte, namesOf, List.any, I.names, aops, aopsI, aopsT, qstep, CPt, qget, Tbl.get, astep, ev, setd, List.set, List.getD, List.getElem?_cons_zero, List.getElem?_cons_succ, List.getElem?_nil, List.cons_append, List.nil_append, List.length_cons, List.length_nil, List.replicate, then_normal, inBlock_normal, Option.getD_some, Option.getD_none, Bool.or_false, Bool.or_true, Bool.true_or, Bool.false_or, Bool.false_eq_true, if_false, if_true, up_zero, Nat.reduceAdd, Nat.reduceSub, binv, ↓opt_def, AV.isAny, AV.cells, ldc, List.map_cons, List.map_nil, St.set_next, St.set_same, St.up_next, Int.natCast_nonneg, lt_len, le_len, Int.toNat_natCast, true_and, and_true, eq_self, reduceCtorEq, decide_true, List.length_singleton, er_int, er_bool, er_str, Nat.reduceEqDiff, tO, hb5, hge, c1, AV.fits, AV.one, List.all_cons, List.all_nil, Nat.reduceBEq, Bool.and_true, Bool.not_false, Bool.and_self, Nat.zero_add, splice, List.take, List.drop, Nat.reduceLeDiff, Bool.not_true, reduceCtorEq, hz, hd, tcs_len, tcs_get hjl, hjl, hp, tcav', e4]
        refine h3 _ _ ?_
        try clear h3 K_h3
        refine T.cond rfl (fun h => by cases h) (fun _ => ?_)
        refine T.skip ?_
        refine h2 _ _ ?_
        try clear h2 K_h2
        refine T.regi hm ?_
        simp only [↓reduceIte, namesOf, List.any, I.names, aops, aopsI, aopsT, qstep, CPt, qget, Tbl.get, astep, ev, setd, List.set, List.getD, List.getElem?_cons_zero, List.getElem?_cons_succ, List.getElem?_nil, List.cons_append, List.nil_append, List.length_cons, List.length_nil, List.replicate, then_normal, inBlock_normal, Option.getD_some, Option.getD_none, Bool.or_false, Bool.or_true, Bool.true_or, Bool.false_or, Bool.false_eq_true, if_false, if_true, up_zero, Nat.reduceAdd, Nat.reduceSub, binv, ↓opt_def, AV.isAny, AV.cells, ldc, List.map_cons, List.map_nil, St.set_next, St.set_same, St.up_next, Int.natCast_nonneg, lt_len, le_len, Int.toNat_natCast, true_and, and_true, eq_self, reduceCtorEq, decide_true, List.length_singleton, er_int, er_bool, er_str, hw]
        refine ⟨hil, _, _, Gh.keep [0, 5, 6, 7], hn2, ho2, ?_, rfl⟩
        rw [List.range_succ, List.all_append, hpre]; simp [isAt, hti, c1, hpj, c4]
      · have e4 : decide ((p.id : Int) ≥ (t.id : Int)) = true := decide_eq_true (by omega)
        refine T.regt hm tO_ok ?_
        simp only [↓reduceIte, namesOf, List.any, I.names, aops, aopsI, aopsT, qstep, CPt, qget, Tbl.get, astep, ev, setd, List.set, List.getD, List.getElem?_cons_zero, List.getElem?_cons_succ, List.getElem?_nil, List.cons_append, List.nil_append, List.length_cons, List.length_nil, List.replicate, then_normal, inBlock_normal, Option.getD_some, Option.getD_none, Bool.or_false, Bool.or_true, Bool.true_or, Bool.false_or, Bool.false_eq_true, if_false, if_true, up_zero, Nat.reduceAdd, Nat.reduceSub, binv, ↓opt_def, AV.isAny, AV.cells, ldc, List.map_cons, List.map_nil, St.set_next, St.set_same, St.up_next, Int.natCast_nonneg, lt_len, le_len, Int.toNat_natCast, true_and, and_true, eq_self, reduceCtorEq, decide_true, List.length_singleton, er_int, er_bool, er_str, Nat.reduceEqDiff, tO, hb5, hge, c1, AV.fits, AV.one, List.all_cons, List.all_nil, Nat.reduceBEq, Bool.and_true, Bool.not_false, Bool.and_self, Nat.zero_add, splice, List.take, List.drop, Nat.reduceLeDiff, Bool.not_true, reduceCtorEq, hz, hd, tcs_len, tcs_get hjl, hjl, hp, tcav', e4]
        refine h3 _ _ ?_
        try clear h3 K_h3
        refine T.cond rfl (fun _ => ?_) (fun h => by cases h)
        refine T.seq_k (fun K_h3 h3 => ?_)
        refine T.regi hm ?_
        simp only [↓reduceIte, namesOf, List.any, I.names, aops, aopsI, aopsT, qstep, CPt, qget, Tbl.get, astep, ev, setd, List.set, List.getD, List.getElem?_cons_zero, List.getElem?_cons_succ, List.getElem?_nil, List.cons_append, List.nil_append, List.length_cons, List.length_nil, List.replicate, then_normal, inBlock_normal, Option.getD_some, Option.getD_none, Bool.or_false, Bool.or_true, Bool.true_or, Bool.false_or, Bool.false_eq_true, if_false, if_true, up_zero, Nat.reduceAdd, Nat.reduceSub, binv, ↓opt_def, AV.isAny, AV.cells, ldc, List.map_cons, List.map_nil, St.set_next, St.set_same, St.up_next, Int.natCast_nonneg, lt_len, le_len, Int.toNat_natCast, true_and, and_true, eq_self, reduceCtorEq, decide_true, List.length_singleton, er_int, er_bool, er_str]
        refine h3 _ _ ?_
        try clear h3 K_h3
        exact T.ret (fin (by unfold isAt; simp [hti, hpj, c4]) _ rfl)
  · refine T.exit ?_
    have : i = l.length := by simp at hb; omega
    subst this
    try simp only [↓reduceIte, namesOf, List.any, I.names, aops, aopsI, aopsT, qstep, CPt, qget, Tbl.get, astep, ev, setd, List.set, List.getD, List.getElem?_cons_zero, List.getElem?_cons_succ, List.getElem?_nil, List.cons_append, List.nil_append, List.length_cons, List.length_nil, List.replicate, then_normal, inBlock_normal, Option.getD_some, Option.getD_none, Bool.or_false, Bool.or_true, Bool.true_or, Bool.false_or, Bool.false_eq_true, if_false, if_true, up_zero, Nat.reduceAdd, Nat.reduceSub, binv, ↓opt_def, AV.isAny, AV.cells, ldc, List.map_cons, List.map_nil, St.set_next, St.set_same, St.up_next, Int.natCast_nonneg, lt_len, le_len, Int.toNat_natCast, true_and, and_true, eq_self, reduceCtorEq, decide_true, List.length_singleton, er_int, er_bool, er_str, inBlock_exit, then_exit]
    refine h1 _ _ ?_
    try clear h1 K_h1
    refine T.seq_k (fun K_h1 h1 => ?_)
    refine T.regi hm ?_
    simp only [↓reduceIte, namesOf, List.any, I.names, aops, aopsI, aopsT, qstep, CPt, qget, Tbl.get, astep, ev, setd, List.set, List.getD, List.getElem?_cons_zero, List.getElem?_cons_succ, List.getElem?_nil, List.cons_append, List.nil_append, List.length_cons, List.length_nil, List.replicate, then_normal, inBlock_normal, Option.getD_some, Option.getD_none, Bool.or_false, Bool.or_true, Bool.true_or, Bool.false_or, Bool.false_eq_true, if_false, if_true, up_zero, Nat.reduceAdd, Nat.reduceSub, binv, ↓opt_def, AV.isAny, AV.cells, ldc, List.map_cons, List.map_nil, St.set_next, St.set_same, St.up_next, Int.natCast_nonneg, lt_len, le_len, Int.toNat_natCast, true_and, and_true, eq_self, reduceCtorEq, decide_true, List.length_singleton, er_int, er_bool, er_str]
    refine h1 _ _ ?_
    try clear h1 K_h1
    exact T.ret (Fin.quiet rfl trivial ho ⟨by rw [show isB l = true from hpre]; rfl, rfl⟩)

/-! ### Rows put together -/

end Go.VL

namespace Go.VL

/-- does a span stand ahead of another one? -/
def aheadS (a b : Sp) : Bool := if a.st ≠ b.st then decide (a.st < b.st) else if a.id ≠ b.id then decide (a.id < b.id) else decide (a.tr < b.tr)

/-- of two of one Trace and one Id: is the first one the lesser one? -/
def lessS (a b : Sp) : Bool := if a.st ≠ b.st then decide (a.st < b.st) else if a.en ≠ b.en then decide (a.en < b.en) else Op.bytesLess a.da b.da

/-- does a span of l count? -/
def outAt (l : List Sp) (x : Sp) (i k : Nat) : Bool := match l[k]? with
  | some y => decide (y.tr = x.tr) && decide (y.id = x.id) && (lessS y x || (decide (y = x) && decide (k < i)))
  | none => false

def countsB (l : List Sp) (i : Nat) : Bool := match l[i]? with
  | some x => (List.range l.length).all fun k => !outAt l x i k
  | none => false

def lastAt (out : List Sp) (x : Sp) : Nat → Nat
  | 0 => 0
  | k + 1 => match out[k]? with
    | some y => if aheadS y x then k + 1 else lastAt out x k
    | none => lastAt out x k

def insS (out : List Sp) (x : Sp) : List Sp := out.take (lastAt out x out.length) ++ [x] ++ out.drop (lastAt out x out.length)

/-- what is gathered of the first n -/
def gatherN (l : List Sp) : Nat → List Sp
  | 0 => []
  | n + 1 => match l[n]? with
    | some x => if countsB l n then insS (gatherN l n) x else gatherN l n
    | none => gatherN l n

def gatherL (l : List Sp) : List Sp := gatherN l l.length

theorem ahead_irr (a : Sp) : aheadS a a = false := by unfold aheadS; simp

theorem ahead_trans {a b c : Sp} (h : aheadS a b = true) (k : aheadS b c = true) : aheadS a c = true := by
  unfold aheadS at *
  by_cases h1 : a.st = b.st
  · by_cases h2 : b.st = c.st
    · by_cases h3 : a.id = b.id
      · by_cases h4 : b.id = c.id
        · simp only [h1, h2, h3, h4, ne_eq, not_true_eq_false, if_false, decide_eq_true_eq] at h k ⊢; omega
        · simp only [h1, h2, h3, h4, ne_eq, not_true_eq_false, not_false_eq_true, if_false, if_true, decide_eq_true_eq] at h k ⊢; omega
      · by_cases h4 : b.id = c.id
        · simp only [h1, h2, ← h4, h3, ne_eq, not_true_eq_false, not_false_eq_true, if_false, if_true, decide_eq_true_eq] at h k ⊢; omega
        · have h5 : a.id ≠ c.id := by
            simp only [h1, h2, h3, h4, ne_eq, not_true_eq_false, not_false_eq_true, if_false, if_true, decide_eq_true_eq] at h k; omega
          simp only [h1, h2, h3, h4, h5, ne_eq, not_true_eq_false, not_false_eq_true, if_false, if_true, decide_eq_true_eq] at h k ⊢; omega
    · simp only [h1, h2, ne_eq, not_false_eq_true, if_true, decide_eq_true_eq] at k ⊢; exact k
  · by_cases h2 : b.st = c.st
    · simp only [← h2, h1, ne_eq, not_false_eq_true, if_true, decide_eq_true_eq] at h ⊢; exact h
    · have h3 : a.st ≠ c.st := by
        simp only [h1, h2, ne_eq, not_false_eq_true, if_true, decide_eq_true_eq] at h k; omega
      simp only [h1, h2, h3, ne_eq, not_false_eq_true, if_true, decide_eq_true_eq] at h k ⊢; omega

theorem bytes_irr : ∀ a : List UInt8, Op.bytesLess a a = false
  | [] => by simp [Op.bytesLess]
  | x :: r => by simp [Op.bytesLess, bytes_irr r]

theorem bytes_total : ∀ a b : List UInt8, Op.bytesLess a b = false → Op.bytesLess b a = false → a = b
  | [], [], _, _ => rfl
  | [], _ :: _, h, _ => by simp [Op.bytesLess] at h
  | _ :: _, [], _, h => by simp [Op.bytesLess] at h
  | x :: r, y :: s, h, k => by
    simp only [Op.bytesLess, Bool.or_eq_false_iff, Bool.and_eq_false_iff, decide_eq_false_iff_not, beq_eq_false_iff_ne] at h k
    by_cases hxy : x = y
    · subst hxy
      rw [bytes_total r s (by simpa using h.2) (by simpa using k.2)]
    · exfalso
      have h1 := h.1
      have k1 := k.1
      have : x.toNat ≠ y.toNat := fun e => hxy (UInt8.toNat_inj.1 e)
      rw [UInt8.lt_iff_toNat_lt] at h1 k1
      omega

theorem less_irr (a : Sp) : lessS a a = false := by unfold lessS; simp [bytes_irr]

theorem less_total {a b : Sp} (ht : a.tr = b.tr) (hi : a.id = b.id) (h : lessS a b = false) (k : lessS b a = false) : a = b := by
  unfold lessS at h k
  by_cases h1 : a.st = b.st
  · by_cases h2 : a.en = b.en
    · simp only [h1, h2, ne_eq, not_true_eq_false, if_false] at h k
      have h3 := bytes_total _ _ h k
      obtain ⟨a1, a2, a3, a4, a5⟩ := a
      obtain ⟨b1, b2, b3, b4, b5⟩ := b
      simp only at *
      subst ht hi h1 h2 h3; rfl
    · have h3 : b.en ≠ a.en := fun e => h2 e.symm
      simp only [h1, h2, h3, ne_eq, not_true_eq_false, not_false_eq_true, if_false, if_true, decide_eq_false_iff_not] at h k; omega
  · have h3 : b.st ≠ a.st := fun e => h1 e.symm
    simp only [h1, h3, ne_eq, not_false_eq_true, if_true, decide_eq_false_iff_not] at h k; omega

theorem lastAt_le (out : List Sp) (x : Sp) : ∀ k, lastAt out x k ≤ k
  | 0 => Nat.le_refl _
  | k + 1 => by
    have := lastAt_le out x k
    unfold lastAt
    split
    · split <;> omega
    · omega

/-- all behind the last one ahead are not ahead -/
theorem lastAt_no (out : List Sp) (x : Sp) : ∀ k j (hj : j < out.length), lastAt out x k ≤ j → j < k → aheadS out[j] x = false
  | 0, j, _, _, h => by omega
  | k + 1, j, hj, h, hjk => by
    unfold lastAt at h
    split at h
    · rename_i y hy
      split at h
      · omega
      · rename_i hy2
        by_cases hx : j = k
        · subst hx
          have : out[j] = y := by simpa [hj] using hy
          rw [this]; simpa using hy2
        · exact lastAt_no out x k j hj h (by omega)
    · rename_i hy
      have : k ≥ out.length := by simpa using hy
      exact lastAt_no out x k j hj h (by omega)

/-- the last one ahead is ahead -/
theorem lastAt_is (out : List Sp) (x : Sp) : ∀ k, k ≤ out.length → 0 < lastAt out x k → ∃ j, ∃ h : j < out.length, lastAt out x k = j + 1 ∧ aheadS out[j] x = true
  | 0, _, h => by simp [lastAt] at h
  | k + 1, hk, h => by
    unfold lastAt at h ⊢
    have hkl : k < out.length := by omega
    have e : out[k]? = some out[k] := by simp [hkl]
    rw [e] at h ⊢
    simp only at h ⊢
    split at h
    · rename_i ha; rw [if_pos ha]; exact ⟨k, hkl, rfl, ha⟩
    · rename_i ha; rw [if_neg ha]; exact lastAt_is out x k (by omega) h

abbrev SortedS (l : List Sp) : Prop := l.Pairwise (fun a b => aheadS a b = true)

theorem ins_mem {out : List Sp} {x y : Sp} : y ∈ insS out x ↔ y = x ∨ y ∈ out := by
  have : y ∈ out ↔ y ∈ out.take (lastAt out x out.length) ∨ y ∈ out.drop (lastAt out x out.length) := by
    rw [← List.mem_append, List.take_append_drop]
  unfold insS
  simp only [List.mem_append, List.mem_singleton, this]
  constructor
  · rintro ((h | h) | h)
    · exact .inr (.inl h)
    · exact .inl h
    · exact .inr (.inr h)
  · rintro (h | h | h)
    · exact .inl (.inr h)
    · exact .inl (.inl h)
    · exact .inr h

theorem ins_len (out : List Sp) (x : Sp) : (insS out x).length = out.length + 1 := by
  have := lastAt_le out x out.length
  unfold insS; simp only [List.length_append, List.length_take, List.length_drop, List.length_singleton]; omega

theorem gatherN_le (l : List Sp) : ∀ n, (gatherN l n).length ≤ n
  | 0 => Nat.le_refl _
  | n + 1 => by
    have := gatherN_le l n
    unfold gatherN
    split
    · split
      · rw [ins_len]; omega
      · omega
    · omega

end Go.VL
