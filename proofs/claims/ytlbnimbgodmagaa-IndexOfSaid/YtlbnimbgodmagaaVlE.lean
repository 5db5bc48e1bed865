/- The value logic, part E: each operation of the code comes to what its instruction says. -/
import Derived.Test.YtlbnimbgodmagaaVlD
import Derived.Laws.Strings
namespace Go.VL

def ownd (κ : Kx) (σ : St) (b : Nat) : Prop := ∃ n r, σ.res n = some r ∧ κ.φ n = b

/-- a function with a body of its own -/
def Enters (P : Program) (f : Nat) : Prop := ∃ fn, P.funcs[f]? = some fn ∧ fn.body.isNone = false ∧ (fn.name == "runtime.NumGoroutine") = false

/-- WHAT A CALL COMES TO, over values: from whatever memory that the owned things fit, it returns what K tells. -/
def ACalls (P : Program) (f : Nat) (args : List AV) (σ : St) (K : AV → St → Prop) : Prop :=
  Enters P f ∧ ∀ (κ : Kx) (w : World) (vs : List Value) (B : Nat) (F : Nat → Prop), R B F κ w σ → Vl κ w vs args →
    Calls P f ⟨vs⟩ w fun e w' => ∃ v x κ' σ', e = .returned v ∧ Ext κ w κ' w' ∧ (∀ n, κ'.dom n → κ.dom n ∨ σ.next ≤ n) ∧ R w.heap.size (ownd κ σ) κ' w' σ' ∧ Fr (ownd κ σ) w w' ∧
      σ.next ≤ σ'.next ∧ V κ' w' v x ∧ K x σ'

theorem ACalls.mono {P : Program} {f : Nat} {args : List AV} {σ : St} {K K' : AV → St → Prop} (h : ACalls P f args σ K) (hk : ∀ x σ', K x σ' → K' x σ') : ACalls P f args σ K' :=
  ⟨h.1, fun κ w vs B F hr hv => (h.2 κ w vs B F hr hv).mono fun _ _ ⟨v, x, κ', σ', h1, h2, h3, h4, h5, h6, h7, h8⟩ => ⟨v, x, κ', σ', h1, h2, h3, h4, h5, h6, h7, hk _ _ h8⟩⟩

structure Post (w0 : World) (F : Nat → Prop) (κ : Kx) (w : World) (σ : St) (nm : Nat) (κ' : Kx) (w' : World) (σ' : St) : Prop where
  ext : Ext κ w κ' w'
  dom : ∀ n, κ'.dom n → κ.dom n ∨ n = nm ∨ σ.next ≤ n
  r : R w0.heap.size F κ' w' σ'
  fr : Fr F w0 w'
  next : σ.next ≤ σ'.next

structure Inv (w0 : World) (F : Nat → Prop) (κ : Kx) (a : Act) (w : World) (ρ : List AV) (σ : St) : Prop where
  r : R w0.heap.size F κ w σ
  fr : Fr F w0 w
  env : Vl κ w a.tmps.toList ρ
  defers : a.defers = []

theorem R.widen {B : Nat} {F : Nat → Prop} {κ κ' : Kx} {w w' : World} {σ σ' : St} (h : R B F κ w σ) (hB : B ≤ w.heap.size) (h' : R w.heap.size (ownd κ σ) κ' w' σ') : R B F κ' w' σ' where
  dom := h'.dom
  own := h'.own
  apart := h'.apart
  imm := h'.imm
  foot := fun n r hr => by
    rcases h'.foot n r hr with ⟨m, s, hs, hm⟩ | hx
    · rw [← hm]; exact h.foot m s hs
    · exact .inr (Nat.le_trans hB hx)
theorem Fr.widen {B : Nat} {F : Nat → Prop} {κ : Kx} {w0 w w' : World} {σ : St} (h : Fr F w0 w) (hr : R B F κ w σ) (hB : B = w0.heap.size) (h' : Fr (ownd κ σ) w w') : Fr F w0 w' where
  os := h'.os.trans h.os
  tape := h'.tape.trans h.tape
  output := h'.output.trans h.output
  size := Nat.le_trans h.size h'.size
  block := fun b hb hF => by
    rw [h'.block b (Nat.lt_of_lt_of_le hb h.size) ?_, h.block b hb hF]
    rintro ⟨n, r, hn, rfl⟩
    rcases hr.foot n r hn with hx | hx
    · exact hF hx
    · omega


/-! ### What a value of a shape is -/
section
variable {κ : Kx} {w : World} {v : Value}
theorem V.ptr_inv {n off : Nat} (h : V κ w v (.ptr n off)) : v = .pointer (some ⟨κ.φ n, off, none⟩) ∧ κ.dom n := by cases h; exact ⟨rfl, by assumption⟩
theorem V.eptr_inv {cs : List AV} (h : V κ w v (.eptr cs)) : ∃ b i, v = .pointer (some ⟨b, i, none⟩) ∧ Vs κ w b i cs := by cases h; exact ⟨_, _, rfl, by assumption⟩
theorem V.int_inv {k : IntKind} {n : Int} (h : V κ w v (.int k n)) : v = .int k n := by cases h; rfl
theorem V.bool_inv {b : Bool} (h : V κ w v (.bool b)) : v = .bool b := by cases h; rfl
theorem V.str_inv {s : ByteArray} (h : V κ w v (.str s)) : v = .string s := by cases h; rfl
theorem V.nilp_inv (h : V κ w v .nilp) : v = .pointer none := by cases h; rfl
theorem V.nilm_inv (h : V κ w v .nilm) : v = .map none := by cases h; rfl
theorem V.nili_inv (h : V κ w v .nili) : v = .nilIface := by cases h; rfl
theorem V.nilf_inv (h : V κ w v .nilf) : v = .nilFunc := by cases h; rfl
theorem V.room_inv {g n : Nat} (h : V κ w v (.room g n)) : ∃ o cap, v = .slice (some ⟨κ.φ g, o, none⟩) n cap ∧ κ.dom g ∧ n ≤ cap ∧ κ.ψ g = o ∧ κ.χ g = o + cap * κ.ξ g := by cases h; exact ⟨_, _, rfl, by assumption, by assumption, by assumption, by assumption⟩
theorem V.map_inv {n : Nat} (h : V κ w v (.map n)) : v = .map (some (κ.φ n)) ∧ κ.dom n := by cases h; exact ⟨rfl, by assumption⟩
theorem V.agg_inv {x : List AV} (h : V κ w v (.agg x)) : ∃ u, v = .agg ⟨u⟩ ∧ Vl κ w u x := by cases h; exact ⟨_, rfl, by assumption⟩
theorem V.tup_inv {x : List AV} (h : V κ w v (.tup x)) : ∃ u, v = .tuple ⟨u⟩ ∧ Vl κ w u x := by cases h; exact ⟨_, rfl, by assumption⟩
theorem V.iface_inv {t : Nat} {x : AV} (h : V κ w v (.iface t x)) : ∃ u, v = .iface t u ∧ V κ w u x := by cases h; exact ⟨_, rfl, by assumption⟩
theorem V.func_inv {f : Nat} {x y : List AV} (h : V κ w v (.func f x y)) : ∃ p q, v = .func (.func f) ⟨p⟩ ⟨q⟩ ∧ Vl κ w p x ∧ Vl κ w q y := by cases h; exact ⟨_, _, rfl, by assumption, by assumption⟩
theorem V.ref_inv {n off len : Nat} (h : V κ w v (.ref n off len)) : ∃ cap, v = .slice (some ⟨κ.φ n, off, none⟩) len cap ∧ len ≤ cap ∧ κ.dom n := by cases h; exact ⟨_, rfl, by assumption, by assumption⟩
theorem V.sl_inv {xs : List AV} {g : Ver} (h : V κ w v (.sl xs g)) : (∃ base, v = .slice base 0 0 ∧ xs = []) ∨
    ∃ b i cap k, v = .slice (some ⟨b, i, none⟩) xs.length cap ∧ (∀ x ∈ xs, x.cells.length = k) ∧ xs.length ≤ cap ∧ Vs κ w b i (xs.flatMap AV.cells) := by
  cases h with
  | slnil g hg => exact .inl ⟨_, rfl, rfl⟩
  | slz a g hg => exact .inl ⟨_, rfl, rfl⟩
  | sl b o cap k xs hk hc h => exact .inr ⟨b, o, cap, k, rfl, hk, hc, h⟩
  | tip o cap g xs hk hc hg he hr h => exact .inr ⟨_, o, cap, _, rfl, hk, hc, h⟩
end

theorem ba_beq (a b : ByteArray) : (a == b) = decide (a = b) := by
  obtain ⟨x⟩ := a
  obtain ⟨y⟩ := b
  by_cases h : x = y
  · subst h
    simp
    show (x == x) = true
    simp
  · have h1 : ¬ (ByteArray.mk x = ByteArray.mk y) := fun e => h (by injection e)
    rw [decide_eq_false h1]
    show (x == y) = false
    simpa using h
theorem bl_beq (a b : ByteArray) : (a.toList == b.toList) = decide (a = b) := by
  rw [ByteArray.toList_eq, ByteArray.toList_eq]
  by_cases h : a = b
  · subst h; simp
  · rw [decide_eq_false h]
    simp only [beq_eq_false_iff_ne, ne_eq]
    exact fun e => h (ByteArray.ext (Array.toList_inj.mp e))

/-- another count of draws -/
def World.drawnTo (w : World) (n : Nat) : World := { w with drawn := n }

/-- The operation o, at this frame and in this memory, does what K tells. -/
def Good (P : Program) (w0 : World) (F : Nat → Prop) (o : Oper) (a : Act) (w : World) (κ : Kx) (σ : St) (nm : Nat) (K : AV → St → Prop) : Prop :=
  ∀ (next : Act → World → Prop) (Q : Exit → Act → World → Prop), (∀ v w' κ' x σ', Post w0 F κ w σ nm κ' w' σ' → V κ' w' v x → K x σ' → next (a.put o.dst v) w') → o.wp P a w next Q

section
variable {P : Program} {w0 : World} {F : Nat → Prop} {o : Oper} {a : Act} {w : World} {κ : Kx} {ρ : List AV} {σ : St} {nm : Nat} {K : AV → St → Prop}

theorem Inv.refl (h : Inv w0 F κ a w ρ σ) : Post w0 F κ w σ nm κ w σ := ⟨.refl _ _, fun _ h => .inl h, h.r, h.fr, Nat.le_refl _⟩
theorem Inv.hB (h : Inv w0 F κ a w ρ σ) : w0.heap.size ≤ w.heap.size := h.fr.size

theorem Good.value {v : Value} {x : AV} (hI : Inv w0 F κ a w ρ σ) (he : (execOp a.eval o).run P w = .ok (.value v) w) (hv : V κ w v x) (hk : K x σ) : Good P w0 F o a w κ σ nm K := by
  intro next Q hn
  unfold Oper.wp
  rw [he]
  exact hn v w κ x σ hI.refl hv hk
theorem Good.value' {v : Value} {x : AV} {w' : World} {κ' : Kx} {σ' : St} (hp : Post w0 F κ w σ nm κ' w' σ') (he : (execOp a.eval o).run P w = .ok (.value v) w') (hv : V κ' w' v x) (hk : K x σ') : Good P w0 F o a w κ σ nm K := by
  intro next Q hn
  unfold Oper.wp
  rw [he]
  exact hn v w' κ' x σ' hp hv hk
theorem Good.skip' {w' : World} {κ' : Kx} {σ' : St} (hp : Post w0 F κ w σ nm κ' w' σ') (he : (execOp a.eval o).run P w = .ok .skip w') (hk : K (.tup []) σ') : Good P w0 F o a w κ σ nm K := by
  intro next Q hn
  unfold Oper.wp
  rw [he]
  exact hn undef w' κ' (.tup []) σ' hp (.tup [] [] .nil) hk

theorem Fr.drawn (h : Fr F w0 w) (n : Nat) : Fr F w0 { w with drawn := n } := ⟨h.os, h.tape, h.output, h.size, h.block⟩
theorem Fr.alloc (h : Fr F w0 w) (ob : Obj) : Fr F w0 (w.alloc ob) :=
  ⟨h.os, h.tape, h.output, by rw [size_alloc]; exact Nat.le_succ_of_le h.size, fun b hb hF => by rw [heap_alloc _ _ _ (Nat.lt_of_lt_of_le hb h.size)]; exact h.block b hb hF⟩
theorem Fr.owned {B : Nat} (h : Fr F w0 w) (hr : R B F κ w σ) (hB : B = w0.heap.size) {n : Nat} {r : Res} (hn : σ.res n = some r) {w' : World} (h1 : w'.os = w.os) (h2 : w'.tape = w.tape) (h3 : w'.output = w.output)
    (h4 : w'.heap.size = w.heap.size) (h5 : ∀ b, b ≠ κ.φ n → w'.heap[b]? = w.heap[b]?) : Fr F w0 w' :=
  ⟨h1.trans h.os, h2.trans h.tape, h3.trans h.output, by rw [h4]; exact h.size, fun b hb hF => by
    rw [h5 b ?_]; exact h.block b hb hF
    rintro rfl
    rcases hr.foot n r hn with hx | hx
    · exact hF hx
    · omega⟩

/-! ### Operands -/
theorem constCs_ok : ∀ {vs : List Value} {xs : List AV}, constCs vs = some xs → Vl κ w vs xs
  | [], xs, h => by simp [constCs] at h; subst h; exact .nil
  | v :: r, xs, h => by
    unfold constCs at h
    split at h
    · rename_i x y hx hy
      simp only [Option.some.injEq] at h
      subst h
      refine .cons _ _ _ _ ?_ (constCs_ok hy)
      unfold constAV at hx
      split at hx <;> simp only [Option.some.injEq, reduceCtorEq] at hx <;> subst hx <;> first | (constructor; done) | exact .slnil _ (.inl rfl)
    · cases h
theorem constAV_ok {v : Value} {x : AV} (h : constAV v = some x) : V κ w v x := by
  have : constCs [v] = some [x] := by simp [constCs, h]
  cases constCs_ok (κ := κ) (w := w) this with
  | cons _ _ _ _ h _ => exact h
theorem constV_ok {v : Value} {x : AV} (h : constV v = some x) : V κ w v x := by
  unfold constV at h
  split at h
  · rename_i cs
    rw [Option.map_eq_some_iff] at h
    obtain ⟨ys, hy, rfl⟩ := h
    exact .agg _ _ (constCs_ok hy)
  · exact constAV_ok h

theorem Inv.opX (h : Inv w0 F κ a w ρ σ) {y : Operand} {x : X} (hx : opX y = some x) : V κ w (a.eval y) (ev ρ x) := by
  cases y with
  | tmp t =>
    simp only [VL.opX, Option.some.injEq] at hx
    subst hx
    have := h.env.get t
    simpa [Act.eval, ev] using this
  | const v =>
    simp only [VL.opX, Option.map_eq_some_iff] at hx
    obtain ⟨z, hz, rfl⟩ := hx
    exact constV_ok hz
  | global g => simp [VL.opX] at hx
  | func f =>
    simp only [VL.opX, Option.some.injEq] at hx
    subst hx
    exact .func f [] [] [] [] .nil .nil
theorem Inv.opXs (h : Inv w0 F κ a w ρ σ) : ∀ {ys : List Operand} {xs : List X}, opXs ys = some xs → Vl κ w (ys.map a.eval) (xs.map (ev ρ))
  | [], xs, hx => by simp only [VL.opXs, Option.some.injEq] at hx; subst hx; exact .nil
  | y :: r, xs, hx => by
    unfold VL.opXs at hx
    split at hx
    · rename_i x z h1 h2
      simp only [Option.some.injEq] at hx
      subst hx
      exact .cons _ _ _ _ (h.opX h1) (h.opXs h2)
    · cases hx

/-! ### A row of cells that can be read -/
def Row (κ : Kx) (w : World) (b o : Nat) (cs : List AV) : Prop := ∃ us, Vl κ w us cs ∧ ∀ i u, us[i]? = some u → w.cell? ⟨b, o + i, none⟩ = some u
theorem Row.of_vs {b i : Nat} {cs : List AV} (h : Vs κ w b i cs) : Row κ w b i cs := by
  obtain ⟨us, h1, _, h3⟩ := h.row
  exact ⟨us, h1, h3⟩
theorem Row.drop {b i : Nat} {cs : List AV} (h : Row κ w b i cs) (j : Nat) : Row κ w b (i + j) (cs.drop j) := by
  obtain ⟨us, h1, h3⟩ := h
  exact ⟨us.drop j, h1.drop j, fun k u hk => by rw [Nat.add_assoc]; exact h3 _ u (by simpa using hk)⟩
theorem Row.of_own {n : Nat} {cs : List AV} (h : Owns κ w n (.obj cs)) : Row κ w (κ.φ n) 0 cs := by
  obtain ⟨us, rest, t, fz, h1, _, h3, _⟩ := h
  exact ⟨us, h3, fun i u hu => by
    have hi : i < us.length := (List.getElem?_eq_some_iff.1 hu).1
    rw [cell_of h1, Nat.zero_add, List.getElem?_append_left hi]; exact hu⟩

theorem add_spot (b i j : Nat) : (⟨b, i, none⟩ : Addr).add j = ⟨b, i + j, none⟩ := by
  unfold Addr.add; split
  · simp_all
  · rfl

theorem run_isAgg {t : TypeId} {k : Option Nat} (h : kindOf P t = some k) : (isAgg t).run P w = .ok k.isSome w ∧ (∀ n, k = some n → (sizeOf t).run P w = .ok n w) := by
  unfold kindOf at h
  split at h
  · rename_i h1 h2
    simp only [Option.some.injEq] at h; subst h
    exact ⟨by simp [isAgg, underlying, h1], fun n hn => by simp [sizeOf, typeInfo, h2] at hn ⊢; exact hn⟩
  · rename_i h1 h2
    simp only [Option.some.injEq] at h; subst h
    exact ⟨by simp [isAgg, underlying, h1], fun n hn => by simp [sizeOf, typeInfo, h2] at hn ⊢; exact hn⟩
  · rename_i d i h1 h2 hs ha
    split at h
    · simp only [Option.some.injEq] at h; subst h
      refine ⟨?_, fun n hn => by cases hn⟩
      simp only [isAgg, underlying, Sem.run_bind, run_program, Result.andThen_ok, hs]
      cases d <;> first | rfl | (exact (h1 _ rfl).elim) | (exact (h2 _ _ rfl).elim)
    · cases h
  · cases h

theorem run_loadVar {t : TypeId} {k : Option Nat} (hk : kindOf P t = some k) {b i : Nat} {cs : List AV} (h : Row κ w b i cs) {x : AV} (hx : ldc cs 0 k = some x) :
    ∃ u, (loadVar t ⟨b, i, none⟩).run P w = .ok u w ∧ V κ w u x := by
  obtain ⟨us, h1, h3⟩ := h
  obtain ⟨e1, e2⟩ := run_isAgg (w := w) hk
  cases k with
  | none =>
    obtain ⟨u, hu, hv⟩ := h1.get? 0 x (by simpa [ldc] using hx)
    refine ⟨u, ?_, hv⟩
    have := h3 0 u hu
    simp only [Nat.add_zero] at this
    simp [loadVar, e1, this]
  | some n =>
    simp only [ldc, Nat.zero_add] at hx
    split at hx
    · rename_i hn
      simp only [List.drop_zero, Option.some.injEq] at hx
      subst hx
      refine ⟨.agg ⟨us.take n⟩, ?_, .agg _ _ (h1.take n)⟩
      have hl := h1.length
      have hr := run_loadCells_list (P := P) (w := w) ⟨b, i, none⟩ (us.take n) (fun j v hj => by
        rw [add_spot]; exact h3 j v (by rw [List.getElem?_take] at hj; split at hj <;> simp_all))
      rw [List.length_take, Nat.min_eq_left (by omega)] at hr
      simp [loadVar, e1, e2 n rfl, hr]
    · cases hx

end
end Go.VL
