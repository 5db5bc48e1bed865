/- The value logic, part R: ghost steps, and from a function's body to a call of it. -/
import Derived.Test.YtlbnimbgodmagaaVlQ
namespace Go.VL

/-! ### Names in values -/
def Ver.nb (m : Nat) : Ver → Prop
  | .tip h => h < m
  | _ => True

mutual
def AV.nb (m : Nat) : AV → Prop
  | .any | .bool _ | .int _ _ | .str _ | .nilp | .nilm | .nilf | .nili => True
  | .ptr n _ => n < m
  | .eptr cs => nbs m cs
  | .sl xs g => nbs m xs ∧ g.nb m
  | .ref n _ _ => n < m
  | .room g _ => g < m
  | .map n => n < m
  | .func _ a b => nbs m a ∧ nbs m b
  | .iface _ x => x.nb m
  | .agg cs => nbs m cs
  | .tup xs => nbs m xs
def nbs (m : Nat) : List AV → Prop
  | [] => True
  | x :: r => x.nb m ∧ nbs m r
end

theorem nbs_iff {m : Nat} : ∀ {xs : List AV}, nbs m xs ↔ ∀ x ∈ xs, x.nb m
  | [] => by simp [nbs]
  | x :: r => by simp [nbs, nbs_iff (xs := r)]
theorem nb_cells {m : Nat} (x : AV) : nbs m x.cells ↔ x.nb m := by
  cases x <;> simp [AV.cells, nbs, AV.nb]
theorem nbs_flat {m : Nat} : ∀ {xs : List AV}, nbs m (xs.flatMap AV.cells) ↔ nbs m xs
  | [] => by simp [nbs]
  | x :: r => by
    have := nbs_flat (m := m) (xs := r)
    simp only [nbs_iff] at this ⊢
    simp only [List.flatMap_cons, List.mem_append, List.mem_cons]
    constructor
    · intro h y hy
      rcases hy with rfl | hy
      · exact (nb_cells y).1 (nbs_iff.2 fun z hz => h z (.inl hz))
      · exact this.1 (fun z hz => h z (.inr hz)) y hy
    · intro h y hy
      rcases hy with hy | hy
      · exact nbs_iff.1 ((nb_cells x).2 (h x (.inl rfl))) y hy
      · exact this.2 (fun z hz => h z (.inr hz)) y hy

mutual
theorem V.nb {κ : Kx} {w : World} {m : Nat} (hd : ∀ n, κ.dom n → n < m) : ∀ {v : Value} {x : AV}, V κ w v x → x.nb m
  | _, _, .any _ | _, _, .bool _ | _, _, .int _ _ | _, _, .str _ | _, _, .nilp | _, _, .nilm | _, _, .nilf | _, _, .nili => by simp [AV.nb]
  | _, _, .ptr n off h => by simpa [AV.nb] using hd n h
  | _, _, .eptr b o cs h => by simpa [AV.nb] using Vs.nb hd h
  | _, _, .slnil g hg => by rcases hg with rfl | rfl | rfl <;> simp [AV.nb, nbs, Ver.nb]
  | _, _, .slz a g hg => by rcases hg with rfl | rfl <;> simp [AV.nb, nbs, Ver.nb]
  | _, _, .sl b o cap k xs hk hc h => by simpa [AV.nb, Ver.nb] using nbs_flat.1 (Vs.nb hd h)
  | _, _, .tip o cap g xs hk hc hg he hr h => by simpa [AV.nb, Ver.nb] using ⟨nbs_flat.1 (Vs.nb hd h), hd g hg⟩
  | _, _, .ref n off len cap h hc => by simpa [AV.nb] using hd n h
  | _, _, .room o cap g n hg hc he hr => by simpa [AV.nb] using hd g hg
  | _, _, .map n h => by simpa [AV.nb] using hd n h
  | _, _, .func f a b x y h1 h2 => by simpa [AV.nb] using ⟨Vl.nb hd h1, Vl.nb hd h2⟩
  | _, _, .iface t v x h => by simpa [AV.nb] using V.nb hd h
  | _, _, .agg a x h => by simpa [AV.nb] using Vl.nb hd h
  | _, _, .tup a x h => by simpa [AV.nb] using Vl.nb hd h
theorem Vs.nb {κ : Kx} {w : World} {m : Nat} (hd : ∀ n, κ.dom n → n < m) : ∀ {b o : Nat} {xs : List AV}, Vs κ w b o xs → nbs m xs
  | _, _, _, .nil b o => by simp [nbs]
  | _, _, _, .cons b o u x xs hI hc hu ht => by simpa [nbs] using ⟨V.nb hd hu, Vs.nb hd ht⟩
theorem Vl.nb {κ : Kx} {w : World} {m : Nat} (hd : ∀ n, κ.dom n → n < m) : ∀ {vs : List Value} {xs : List AV}, Vl κ w vs xs → nbs m xs
  | _, _, .nil => by simp [nbs]
  | _, _, .cons v x vs xs h t => by simpa [nbs] using ⟨V.nb hd h, Vl.nb hd t⟩
end

def Kx.cut (κ : Kx) (m : Nat) : Kx := { κ with dom := fun n => κ.dom n ∧ n < m }

mutual
theorem V.cut {κ : Kx} {w : World} {m : Nat} : ∀ {v : Value} {x : AV}, V κ w v x → x.nb m → V (κ.cut m) w v x
  | _, _, .any _, _ => .any _
  | _, _, .bool _, _ => .bool _
  | _, _, .int _ _, _ => .int _ _
  | _, _, .str _, _ => .str _
  | _, _, .nilp, _ => .nilp
  | _, _, .nilm, _ => .nilm
  | _, _, .nilf, _ => .nilf
  | _, _, .nili, _ => .nili
  | _, _, .ptr n off h, hb => V.ptr (κ := κ.cut m) n off ⟨h, by simpa [AV.nb] using hb⟩
  | _, _, .eptr b o cs h, hb => .eptr b o cs (Vs.cut h (by simpa [AV.nb] using hb))
  | _, _, .slnil g hg, _ => .slnil g hg
  | _, _, .slz a g hg, _ => .slz a g hg
  | _, _, .sl b o cap k xs hk hc h, hb => .sl b o cap k xs hk hc (Vs.cut h (nbs_flat.2 (by simp only [AV.nb] at hb; exact hb.1)))
  | _, _, .tip o cap g xs hk hc hg he hr h, hb => V.tip (κ := κ.cut m) o cap g xs hk hc ⟨hg, by simp only [AV.nb, Ver.nb] at hb; exact hb.2⟩ he hr (Vs.cut h (nbs_flat.2 (by simp only [AV.nb] at hb; exact hb.1)))
  | _, _, .ref n off len cap h hc, hb => V.ref (κ := κ.cut m) n off len cap ⟨h, by simpa [AV.nb] using hb⟩ hc
  | _, _, .room o cap g n hg hc he hr, hb => V.room (κ := κ.cut m) o cap g n ⟨hg, by simpa [AV.nb] using hb⟩ hc he hr
  | _, _, .map n h, hb => V.map (κ := κ.cut m) n ⟨h, by simpa [AV.nb] using hb⟩
  | _, _, .func f a b x y h1 h2, hb => .func f a b x y (Vl.cut h1 (by simp only [AV.nb] at hb; exact hb.1)) (Vl.cut h2 (by simp only [AV.nb] at hb; exact hb.2))
  | _, _, .iface t v x h, hb => .iface t v x (V.cut h (by simpa [AV.nb] using hb))
  | _, _, .agg a x h, hb => .agg a x (Vl.cut h (by simpa [AV.nb] using hb))
  | _, _, .tup a x h, hb => .tup a x (Vl.cut h (by simpa [AV.nb] using hb))
theorem Vs.cut {κ : Kx} {w : World} {m : Nat} : ∀ {b o : Nat} {xs : List AV}, Vs κ w b o xs → nbs m xs → Vs (κ.cut m) w b o xs
  | _, _, _, .nil b o, _ => .nil b o
  | _, _, _, .cons b o u x xs hI hc hu ht, hb => .cons b o u x xs hI hc (V.cut hu (by simp only [nbs] at hb; exact hb.1)) (Vs.cut ht (by simp only [nbs] at hb; exact hb.2))
theorem Vl.cut {κ : Kx} {w : World} {m : Nat} : ∀ {vs : List Value} {xs : List AV}, Vl κ w vs xs → nbs m xs → Vl (κ.cut m) w vs xs
  | _, _, .nil, _ => .nil
  | _, _, .cons v x vs xs h t, hb => .cons v x vs xs (V.cut h (by simp only [nbs] at hb; exact hb.1)) (Vl.cut t (by simp only [nbs] at hb; exact hb.2))
end

def enb (m : Nat) : List (AV × AV) → Prop
  | [] => True
  | e :: r => (e.1.nb m ∧ e.2.nb m) ∧ enb m r
def Res.nb (m : Nat) : Res → Prop
  | .obj cs => nbs m cs
  | .tip _ => True
  | .map es _ _ => enb m es
  | .iter n _ _ _ => ∀ n', n = some n' → n' < m
  | .siter _ _ => True

theorem Vm.cut {κ : Kx} {w : World} {m : Nat} : ∀ {es : List MapEntry} {ps : List (AV × AV)}, Vm κ w es ps → enb m ps → Vm (κ.cut m) w es ps
  | _, _, .nil, _ => .nil
  | _, _, .cons e p es ps hk hv t, hb => .cons e p es ps (hk.cut hb.1.1) (hv.cut hb.1.2) (t.cut hb.2)
theorem Vm.nb {κ : Kx} {w : World} {m : Nat} (hd : ∀ n, κ.dom n → n < m) : ∀ {es : List MapEntry} {ps : List (AV × AV)}, Vm κ w es ps → enb m ps
  | _, _, .nil => trivial
  | _, _, .cons e p es ps hk hv t => ⟨⟨hk.nb hd, hv.nb hd⟩, t.nb hd⟩
theorem Owns.cut {κ : Kx} {w : World} {n m : Nat} {r : Res} (h : Owns κ w n r) (hb : r.nb m) : Owns (κ.cut m) w n r := by
  cases r with
  | obj cs => obtain ⟨us, rest, t, fz, h1, h2, h3, h4⟩ := h; exact ⟨us, rest, t, fz, h1, h2, h3.cut hb, h4⟩
  | tip k => exact h
  | map es ts clk => obtain ⟨ents, h1, h2, h4⟩ := h; exact ⟨ents, h1, h2.cut hb, h4⟩
  | iter n' since seen last => exact ⟨h.1, fun m' hm => ⟨h.2.1 m' hm, hb m' hm⟩, h.2.2⟩
  | siter s p => exact h
theorem Owns.nb {κ : Kx} {w : World} {n m : Nat} {r : Res} (hd : ∀ n, κ.dom n → n < m) (h : Owns κ w n r) : r.nb m := by
  cases r with
  | obj cs => obtain ⟨us, rest, t, fz, h1, h2, h3, h4⟩ := h; exact h3.nb hd
  | tip k => trivial
  | map es ts clk => obtain ⟨ents, h1, h2, h4⟩ := h; exact h2.nb hd
  | iter n' since seen last => exact fun n' hn => hd n' (h.2.1 n' hn)
  | siter s p => trivial

/-! ### Ghost steps -/
theorem R.fewer {B : Nat} {F : Nat → Prop} {κ : Kx} {w : World} {σ σ' : St} (h : R B F κ w σ) (hn : σ.next ≤ σ'.next) (hr : ∀ n r, σ'.res n = some r → σ.res n = some r) : R B F κ w σ' :=
  ⟨fun n hd => Nat.lt_of_lt_of_le (h.dom n hd) hn, fun n r hx => h.own n r (hr n r hx), fun n m r s hx hy => h.apart n m r s (hr n r hx) (hr m s hy), h.imm, fun n r hx => h.foot n r (hr n r hx)⟩

theorem Gh.drop {ρ : List AV} {σ σ' : St} (hn : σ'.next = σ.next) (hr : ∀ n r, σ'.res n = some r → σ.res n = some r) : Gh ρ σ ρ σ' := fun κ0 w0 σ0 F κ a w h =>
  ⟨κ, ⟨h.inv.r.fewer (Nat.le_of_eq hn.symm) hr, h.inv.fr, h.inv.env, h.inv.defers⟩, h.ext, h.dom, by rw [hn]; exact h.next⟩

/-- a weaker view of one value -/
def Wk (x y : AV) : Prop := ∀ (κ : Kx) (w : World) (v : Value), V κ w v x → V κ w v y
theorem Wk.refl (x : AV) : Wk x x := fun _ _ _ h => h
theorem Wk.any (x : AV) : Wk x .any := fun _ _ v _ => .any v
theorem Wk.sl (xs : List AV) (g : Ver) : Wk (.sl xs g) (.sl xs .none) := fun _ _ _ h => h.weak

inductive Wks : List AV → List AV → Prop where
  | nil : Wks [] []
  | cons {x y : AV} {xs ys : List AV} (h : Wk x y) (t : Wks xs ys) : Wks (x :: xs) (y :: ys)
theorem Wks.vl {κ : Kx} {w : World} : ∀ {xs ys : List AV}, Wks xs ys → ∀ {vs : List Value}, Vl κ w vs xs → Vl κ w vs ys
  | _, _, .nil, _, h => h
  | _, _, .cons h t, _, k => by
    cases k with
    | cons v x vs xs hv ht => exact .cons _ _ _ _ (h κ w v hv) (t.vl ht)
theorem Wks.refl : ∀ xs, Wks xs xs
  | [] => .nil
  | x :: xs => .cons (.refl x) (Wks.refl xs)

theorem Gh.env {ρ ρ' : List AV} {σ : St} (h : Wks ρ ρ') : Gh ρ σ ρ' σ := fun _ _ _ _ κ _ _ hR =>
  ⟨κ, ⟨hR.inv.r, hR.inv.fr, h.vl hR.inv.env, hR.inv.defers⟩, hR.ext, hR.dom, hR.next⟩

/-- only what is listed is kept -/
def keep (l : List Nat) (k : Nat) : List AV → List AV
  | [] => []
  | x :: r => (if l.contains k then x else .any) :: keep l (k + 1) r
theorem keep_wks (l : List Nat) : ∀ (k : Nat) (ρ : List AV), Wks ρ (keep l k ρ)
  | _, [] => .nil
  | k, x :: r => .cons (by split; exact .refl x; exact .any x) (keep_wks l (k + 1) r)
theorem Gh.keep (l : List Nat) {ρ : List AV} {σ : St} : Gh ρ σ (keep l 0 ρ) σ := .env (keep_wks l 0 ρ)

/-- an owned row that is told to be a value -/
theorem Gh.freeze {ρ : List AV} {σ : St} {t n off len k : Nat} {cs xs : List AV} (ht : ρ[t]? = some (.ref n off len)) (hr : σ.res n = some (.obj cs)) (hlen : xs.length = len) (hk : ∀ x ∈ xs, x.cells.length = k)
    (hx : xs.flatMap AV.cells = (cs.drop off).take (len * k)) (_ : off ≤ cs.length) : Gh ρ σ (ρ.set t (.sl xs .none)) (σ.del n) := by
  intro κ0 w0 σ0 F κ a w h
  obtain ⟨hd, us, rest, ty, fz, h1, h2, h3, h4⟩ := h.inv.r.own n _ hr
  have e : Ext κ w { κ with I := fun b o => κ.I b o ∨ (b = κ.φ n ∧ o < us.length) } w := ⟨fun _ _ x => .inl x, fun _ _ => rfl, fun _ _ => rfl, fun _ _ => rfl, fun _ _ => rfl, fun _ x => x, fun _ _ _ => rfl⟩
  have hlt := h.inv.r.lt hr
  have hR : R w0.heap.size F { κ with I := fun b o => κ.I b o ∨ (b = κ.φ n ∧ o < us.length) } w (σ.del n) := by
    refine h.inv.r.step e (fun m hm => h.inv.r.dom m hm) (fun b o hi => ?_) (fun m r hm => ?_)
    · rcases hi with hi | ⟨rfl, _⟩
      · exact h.inv.r.imm b o hi
      · exact hlt
    · have hmn : m ≠ n := by intro e; subst e; simp [St.del] at hm
      have hm' : σ.res m = some r := by simpa [St.del, hmn] using hm
      refine .inl ⟨hm', rfl, fun o hi => ?_⟩
      rcases hi with hi | ⟨hx, _⟩
      · exact hi
      · exact absurd (h.inv.r.apart _ _ _ _ hm' hr hx) hmn
  refine ⟨_, ⟨hR, h.inv.fr, ?_, h.inv.defers⟩, h.ext.trans e, h.dom, h.next⟩
  obtain ⟨v, hv, hvv⟩ := h.inv.env.get? t _ ht
  have henv := h.inv.env.mono e
  obtain ⟨cap, rfl, hcap, _⟩ := hvv.ref_inv
  have hset : a.tmps.toList.set t (.slice (some ⟨κ.φ n, off, none⟩) len cap) = a.tmps.toList := by
    apply List.ext_getElem?
    intro i
    rw [List.getElem?_set]
    split
    · rename_i hi; subst hi
      split
      · rw [hv]
      · rename_i hge; rw [List.getElem?_eq_none (by omega)] at hv; cases hv
    · rfl
  rw [← hset]
  refine henv.set t ?_
  rw [← hlen]
  refine .sl _ _ cap k xs hk (by rw [hlen]; exact hcap) ?_
  rw [hx]
  have hlen' : us.length = cs.length := h3.length
  refine Vs.mk (us := (us.drop off).take (len * k)) (((h3.mono e).drop off).take _) (fun i u hu => ?_)
  have hu2 : us[off + i]? = some u := by
    rw [List.getElem?_take] at hu
    split at hu
    · simpa using hu
    · cases hu
  have hil : off + i < us.length := (List.getElem?_eq_some_iff.1 hu2).1
  exact ⟨.inr ⟨rfl, hil⟩, by rw [cell_of h1, List.getElem?_append_left hil]; exact hu2⟩

/-! ### Results -/
inductive RX where
  | t (i : Nat)
  | cell (a : Nat) (k : Option Nat)

def resX1 (P : Program) : ResultVar → Option RX
  | .tmp t => some (.t t)
  | .cell a ty => (kindOf P ty).map fun k => .cell a k
def resX (P : Program) : List ResultVar → Option (List RX)
  | [] => some []
  | r :: rest => match resX1 P r, resX P rest with
    | some x, some y => some (x :: y)
    | _, _ => none

def rval (ρ : List AV) (σ : St) : RX → Option AV
  | .t i => some (ρ.getD i .any)
  | .cell a k => match ρ.getD a .any with
    | .ptr n off => match σ.res n with
      | some (.obj cs) => ldc cs off k
      | _ => none
    | _ => none
def rvals (ρ : List AV) (σ : St) : List RX → Option (List AV)
  | [] => some []
  | r :: rest => match rval ρ σ r, rvals ρ σ rest with
    | some x, some y => some (x :: y)
    | _, _ => none
def pack : List AV → AV
  | [x] => x
  | xs => .tup xs

section
variable {P : Program} {κ0 : Kx} {w0 : World} {σ0 : St} {F : Nat → Prop} {a : Act} {w : World} {κ : Kx} {ρ : List AV} {σ : St}

def resOne (tmps : Array Value) : ResultVar → Sem Value
  | .tmp t => pure (tmps.getD t undef)
  | .cell a t => do loadVar t (← asAddr (tmps.getD a undef))
theorem results_eq (fn : Func) (tmps : Array Value) : results fn tmps = (do let vs ← fn.results.mapM (resOne tmps); pure (if h : vs.size = 1 then vs[0] else .tuple vs)) := rfl

theorem res1_ok (h : Inv w0 F κ a w ρ σ) {r : ResultVar} {x : RX} (hx : resX1 P r = some x) {y : AV} (hy : rval ρ σ x = some y) :
    ∃ v, (resOne a.tmps r).run P w = .ok v w ∧ V κ w v y := by
  cases r with
  | tmp t =>
    simp only [resX1, Option.some.injEq] at hx; subst hx
    simp only [rval, Option.some.injEq] at hy; subst hy
    exact ⟨a.tmps.getD t undef, by simp [resOne], by simpa using h.env.get t⟩
  | cell b ty =>
    simp only [resX1, Option.map_eq_some_iff] at hx
    obtain ⟨k, hk, rfl⟩ := hx
    simp only [rval] at hy
    split at hy
    · rename_i n off hp
      split at hy
      · rename_i cs hr
        have hv := h.env.get b
        rw [hp] at hv
        have e1 : a.tmps.getD b undef = .pointer (some ⟨κ.φ n, off, none⟩) := by
          have := hv.ptr_inv.1
          simpa using this
        have hrow := (Row.of_own (h.r.own n _ hr).2).drop off
        rw [Nat.zero_add] at hrow
        obtain ⟨u, g1, g2⟩ := run_loadVar (P := P) hk hrow (ldc_drop hy)
        exact ⟨u, by simp only [resOne, e1]; simpa [asAddr] using g1, g2⟩
      · cases hy
    · cases hy

theorem res_ok (h : Inv w0 F κ a w ρ σ) : ∀ {rs : List ResultVar} {xs : List RX} {ys : List AV}, resX P rs = some xs → rvals ρ σ xs = some ys →
    ∃ vs, (List.mapM (m := Sem) (resOne a.tmps) rs).run P w = .ok vs w ∧ Vl κ w vs ys
  | [], xs, ys, hx, hy => by
    simp only [resX, Option.some.injEq] at hx; subst hx
    simp only [rvals, Option.some.injEq] at hy; subst hy
    exact ⟨[], by simp, .nil⟩
  | r :: rs, xs, ys, hx, hy => by
    simp only [resX] at hx
    split at hx
    · rename_i x xs' h1 h2
      simp only [Option.some.injEq] at hx; subst hx
      simp only [rvals] at hy
      split at hy
      · rename_i y ys' k1 k2
        simp only [Option.some.injEq] at hy; subst hy
        obtain ⟨v, g1, g2⟩ := res1_ok h h1 k1
        obtain ⟨vs, g3, g4⟩ := res_ok h h2 k2
        refine ⟨v :: vs, ?_, .cons _ _ _ _ g2 g4⟩
        rw [List.mapM_cons]
        simp only [Sem.run_bind]
        rw [g1]
        simp only [Result.andThen_ok]
        rw [g3]
        simp
      · cases hy
    · cases hx

theorem results_ok (h : Inv w0 F κ a w ρ σ) {fn : Func} {xs : List RX} {ys : List AV} (hx : resX P fn.results.toList = some xs) (hy : rvals ρ σ xs = some ys) :
    ∃ v, (results fn a.tmps).run P w = .ok v w ∧ V κ w v (pack ys) := by
  obtain ⟨vs, g1, g2⟩ := res_ok h hx hy
  have g3 := run_mapM_arr (P := P) (w := w) _ fn.results vs g1
  rw [results_eq]
  simp only [Sem.run_bind]
  rw [g3]
  simp only [Result.andThen_ok, Sem.run_pure]
  refine ⟨_, rfl, ?_⟩
  cases g2 with
  | nil => simpa [pack] using V.tup [] [] .nil
  | cons v x vs xs hv t =>
    cases t with
    | nil => simpa [pack] using hv
    | cons v' x' vs' xs' hv' t' => simpa [pack] using V.tup (v :: v' :: vs') (x :: x' :: xs') (.cons _ _ _ _ hv (.cons _ _ _ _ hv' t'))
end

/-- names ahead are free -/
def WF (σ : St) : Prop := ∀ n, σ.next ≤ n → σ.res n = none

/-- What a call leaves may be told in another way. -/
def Gv (σ0 : St) (x : AV) (σ : St) (x' : AV) (σ' : St) : Prop :=
  ∀ (κ0 : Kx) (w0 : World) (B0 : Nat) (F0 F : Nat → Prop) (κ : Kx) (w : World) (v : Value), R B0 F0 κ0 w0 σ0 → R w0.heap.size F κ w σ → Ext κ0 w0 κ w → (∀ n, κ.dom n → κ0.dom n ∨ σ0.next ≤ n) → σ0.next ≤ σ.next → V κ w v x →
    ∃ κ', R w0.heap.size F κ' w σ' ∧ Ext κ0 w0 κ' w ∧ (∀ n, κ'.dom n → κ0.dom n ∨ σ0.next ≤ n) ∧ σ0.next ≤ σ'.next ∧ V κ' w v x'

theorem Gv.refl {σ0 σ : St} {x : AV} : Gv σ0 x σ x σ := fun _ _ _ _ _ κ _ _ _ h1 h2 h3 h4 h5 => ⟨κ, h1, h2, h3, h4, h5⟩
theorem Gv.wk {σ0 σ : St} {x y : AV} (h : Wk x y) : Gv σ0 x σ y σ := fun _ _ _ _ _ κ _ _ _ h1 h2 h3 h4 h5 => ⟨κ, h1, h2, h3, h4, h _ _ _ h5⟩

/-- names that nobody needs any more are given back -/
theorem Gv.cut {σ0 σ σ' : St} {x : AV} (hm0 : σ0.next ≤ σ'.next) (hx : x.nb σ'.next) (hr : ∀ n r, σ'.res n = some r → σ.res n = some r ∧ (σ0.res n = some r ∨ (n < σ'.next ∧ r.nb σ'.next))) : Gv σ0 x σ x σ' := by
  intro κ0 w0 B0 F0 F κ w v h0 hR he hd hn hv
  have hd0 : ∀ n, κ0.dom n → n < σ'.next := fun n h => Nat.lt_of_lt_of_le (h0.dom n h) hm0
  refine ⟨κ.cut σ'.next, ⟨fun n h => h.2, fun n r hnr => ?_, fun n m r s hx hy => hR.apart n m r s (hr n r hx).1 (hr m s hy).1, hR.imm, fun n r hx => hR.foot n r (hr n r hx).1⟩, ?_, fun n h => hd n h.1, hm0, hv.cut hx⟩
  · obtain ⟨h1, h2⟩ := hr n r hnr
    obtain ⟨k1, k2⟩ := hR.own n r h1
    rcases h2 with h2 | ⟨h2, h3⟩
    · obtain ⟨g1, g2⟩ := h0.own n r h2
      exact ⟨⟨k1, hd0 n g1⟩, k2.cut (g2.nb hd0)⟩
    · exact ⟨⟨k1, h2⟩, k2.cut h3⟩
  · exact ⟨he.I, he.φ, he.ψ, he.χ, he.ξ, fun n h => ⟨he.dom n h, hd0 n h⟩, he.cell⟩

theorem Gv.quiet {σ0 σ : St} {x : AV} (hx : x.nb σ0.next) (hr : ∀ n r, σ0.res n = some r → σ.res n = some r) : Gv σ0 x σ x σ0 :=
  .cut (Nat.le_refl _) hx (fun n r h => ⟨hr n r h, .inl h⟩)

theorem Gv.trans {σ0 σ σ1 σ2 : St} {x x1 x2 : AV} (h : Gv σ0 x σ x1 σ1) (k : Gv σ0 x1 σ1 x2 σ2) : Gv σ0 x σ x2 σ2 := by
  intro κ0 w0 B0 F0 F κ w v h0 h1 h2 h3 h4 h5
  obtain ⟨κ1, g1, g2, g3, g4, g5⟩ := h κ0 w0 B0 F0 F κ w v h0 h1 h2 h3 h4 h5
  exact k κ0 w0 B0 F0 F κ1 w v h0 g1 g2 g3 g4 g5

/-- WHERE A FUNCTION ENDS -/
def Fin (σ0 : St) (rs : List RX) (K : AV → St → Prop) : Ex → List AV → St → Prop
  | .exit _, _, _ => False
  | _, ρ, σ => ∃ ρ' σ' xs x σ'', Gh ρ σ ρ' σ' ∧ rvals ρ' σ' rs = some xs ∧ Gv σ0 (pack xs) σ' x σ'' ∧ K x σ''

theorem calls_ok {P : Program} {A : Ann} {f : Nat} {fn : Func} {code : Code} {c : C} {rs : List RX} {nt : Nat} (hf : P.funcs[f]? = some fn) (hb : fn.body = some code) (hnm : (fn.name == "runtime.NumGoroutine") = false)
    (hc : compileC P A code = some c) (hr : resX P fn.results.toList = some rs) (hnt : fn.ntmps = nt) {args : List AV} {σ : St} {K : AV → St → Prop}
    (h : WF σ → T P A c (Fin σ rs K) (args ++ List.replicate (nt - args.length) (.tup [])) σ) : ACalls P f args σ K := by
  refine ⟨⟨fn, hf, by simp [hb], hnm⟩, fun κ w vs B F hR hv => ?_⟩
  have hwf : WF σ := fun n hn => by
    cases hx : σ.res n with
    | none => rfl
    | some r => have := hR.dom n (hR.own n r hx).1; omega
  have hlen := hv.length
  have hR' : R w.heap.size (ownd κ σ) κ w σ := ⟨hR.dom, hR.own, hR.apart, hR.imm, fun n r hx => .inl ⟨n, r, hx, rfl⟩⟩
  have hanys : ∀ k, Vl κ w (List.replicate k undef) (List.replicate k (.tup [])) := by
    intro k
    induction k with
    | zero => exact .nil
    | succ k ih => exact .cons _ _ _ _ (.tup [] [] .nil) ih
  refine calls_of_wp hf hb ?_
  have hrun : Run κ w σ (ownd κ σ) κ { tmps := (⟨vs⟩ : Array Value) ++ Array.replicate (fn.ntmps - (⟨vs⟩ : Array Value).size) undef, defers := [] } w (args ++ List.replicate (nt - args.length) (.tup [])) σ := by
    refine ⟨⟨hR', .refl _ _, ?_, rfl⟩, .refl _ _, fun n h => .inl h, Nat.le_refl _⟩
    have : ((⟨vs⟩ : Array Value) ++ Array.replicate (fn.ntmps - (⟨vs⟩ : Array Value).size) undef).toList = vs ++ List.replicate (nt - args.length) undef := by
      rw [Array.toList_append, Array.toList_replicate, hnt, ← hlen]
      simp
    rw [this]
    exact hv.append (hanys _)
  refine wp_mono (h hwf code hc κ w σ _ κ _ w hrun) ?_
  rintro e a' w' ⟨e', κ', ρ', σ', rfl, hR1, hq⟩
  have fin : (∃ ρ1 σ1 xs x σ'', Gh ρ' σ' ρ1 σ1 ∧ rvals ρ1 σ1 rs = some xs ∧ Gv σ (pack xs) σ1 x σ'' ∧ K x σ'') → a'.defers = [] ∧ ∃ v, (results fn a'.tmps).run P w' = .ok v w' ∧
      (∃ v' x κ' σ', Ending.returned v = .returned v' ∧ Ext κ w κ' w' ∧ (∀ n, κ'.dom n → κ.dom n ∨ σ.next ≤ n) ∧ R w.heap.size (ownd κ σ) κ' w' σ' ∧ Fr (ownd κ σ) w w' ∧ σ.next ≤ σ'.next ∧ V κ' w' v' x ∧ K x σ') := by
    rintro ⟨ρ1, σ1, xs, x, σ'', hg, hxs, hgv, hk⟩
    obtain ⟨κ1, hR2⟩ := hg κ w σ (ownd κ σ) κ' a' w' hR1
    obtain ⟨v, hv1, hv2⟩ := results_ok hR2.inv hr hxs
    obtain ⟨κ2, g1, g2, g3, g4, g5⟩ := hgv κ w B F (ownd κ σ) κ1 w' v hR hR2.inv.r hR2.ext hR2.dom hR2.next hv2
    exact ⟨hR2.inv.defers, v, hv1, v, x, κ2, σ'', rfl, g2, g3, g1, hR2.inv.fr, g4, g5, hk⟩
  cases e' with
  | normal => exact fin hq
  | exit id => exact hq.elim
  | ret => exact fin hq

end Go.VL
