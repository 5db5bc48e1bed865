/- The value logic, part G: operations that make memory, or write it. -/
import Derived.Test.YtlbnimbgodmagaaVlF
namespace Go.VL
section
variable {P : Program} {w0 : World} {F : Nat → Prop} {o : Oper} {a : Act} {w : World} {κ : Kx} {ρ : List AV} {σ : St} {nm : Nat} {K : AV → St → Prop}

theorem V.one {v : Value} {x : AV} (h : V κ w v x) (hx : x.one = true) : v.oneCell' = true := by
  cases h <;> first | rfl | (simp [AV.one] at hx)

theorem Vl.ones : ∀ {vs : List Value} {xs : List AV}, Vl κ w vs xs → xs.all AV.one = true → ∀ u ∈ vs, u.oneCell' = true
  | _, _, .nil, _, u, hu => by simp at hu
  | _, _, .cons v x vs xs h t, ha, u, hu => by
    simp only [List.all_cons, Bool.and_eq_true] at ha
    rcases List.mem_cons.1 hu with rfl | hu
    · exact h.one ha.1
    · exact Vl.ones t ha.2 u hu

theorem fits_iff {k : Nat} {x : AV} (h : x.fits k = true) : x ≠ .any ∧ x.cells.length = k ∧ x.cells.all AV.one = true := by
  simp only [AV.fits, Bool.and_eq_true, beq_iff_eq] at h
  refine ⟨?_, h.1.2, h.2⟩
  rintro rfl
  simp [AV.isAny] at h

structure Same (w w' : World) (b : Nat) : Prop where
  os : w'.os = w.os
  tape : w'.tape = w.tape
  output : w'.output = w.output
  size : w'.heap.size = w.heap.size
  block : ∀ b', b' ≠ b → w'.heap[b']? = w.heap[b']?

theorem Same.trans {w w1 w2 : World} {b : Nat} (h : Same w w1 b) (k : Same w1 w2 b) : Same w w2 b :=
  ⟨k.os.trans h.os, k.tape.trans h.tape, k.output.trans h.output, k.size.trans h.size, fun b' hb => (k.block b' hb).trans (h.block b' hb)⟩

theorem heap_setCell {b i : Nat} {vs : List Value} {t : TypeId} {fz : Nat × Nat} (h : w.heap[b]? = some (.cells ⟨vs⟩ t fz)) (u : Value) :
    (w.setCell ⟨b, i, none⟩ u).heap[b]? = some (.cells ⟨vs.set i u⟩ t fz) ∧ Same w (w.setCell ⟨b, i, none⟩ u) b := by
  have hlt := (Array.getElem?_eq_some_iff.1 h).1
  refine ⟨?_, rfl, rfl, rfl, ?_, fun b' hb => ?_⟩
  · simp [World.setCell, Array.getElem?_modify, h]
  · simp [World.setCell]
  · have : ¬ b = b' := fun e => hb e.symm
    simp [World.setCell, Array.getElem?_modify, this]

theorem run_storeCells {b : Nat} {t : TypeId} {fz : Nat × Nat} {N : Nat} : ∀ (us : List Value) (off : Nat) (w : World) (vs : List Value), w.heap[b]? = some (.cells ⟨vs⟩ t fz) → fzOk N fz →
    off + us.length ≤ N → N ≤ vs.length → (∀ u ∈ us, u.oneCell' = true) → ∀ base j, base + j = off →
    ∃ w', (storeCells ⟨b, base, none⟩ us j).run P w = .ok () w' ∧ w'.heap[b]? = some (.cells ⟨vs.take off ++ us ++ vs.drop (off + us.length)⟩ t fz) ∧ Same w w' b
  | [], off, w, vs, hb, hf, hle, hN, ho, base, j, hj => ⟨w, by simp [storeCells], by simpa using hb, rfl, rfl, rfl, rfl, fun _ _ => rfl⟩
  | u :: us, off, w, vs, hb, hf, hle, hN, ho, base, j, hj => by
    simp only [List.length_cons] at hle
    have hlt : off < vs.length := by omega
    have hc : w.cell? ⟨b, off, none⟩ = some vs[off] := by rw [cell_of hb]; simp [hlt]
    have hfz := frozen_of hb hf (show off < N by omega)
    obtain ⟨h1, h2⟩ := heap_setCell (i := off) hb u
    obtain ⟨w', e1, e2, e3⟩ := run_storeCells us (off + 1) (w.setCell ⟨b, off, none⟩ u) (vs.set off u) h1 hf (by omega) (by simpa using hN) (fun x hx => ho x (List.mem_cons_of_mem _ hx)) base (j + 1) (by omega)
    refine ⟨w', ?_, ?_, h2.trans e3⟩
    · have : (⟨b, base, none⟩ : Addr).add j = ⟨b, off, none⟩ := by rw [add_spot, hj]
      simp only [storeCells, Sem.run_bind, this, run_store P w _ _ _ (ho u (List.mem_cons_self ..)), hc, hfz]
      simpa using e1
    · rw [e2]
      congr 2
      have e : (vs.set off u).take (off + 1) = vs.take off ++ [u] := by
        rw [List.take_add_one, List.take_set_of_le (Nat.le_refl _)]
        simp [hlt]
      have e' : (vs.set off u).drop (off + 1 + us.length) = vs.drop (off + (us.length + 1)) := by
        rw [List.drop_set_of_lt (by omega)]
        congr 1
        omega
      rw [e, e']
      simp

theorem Post.own {κ' : Kx} {w' : World} {σ' : St} (e : Ext κ w κ' w') (hd : κ'.dom = κ.dom) (hr : R w0.heap.size F κ' w' σ') (hf : Fr F w0 w') (hn : σ'.next = σ.next) : Post w0 F κ w σ nm κ' w' σ' :=
  ⟨e, fun n h => .inl (by rwa [hd] at h), hr, hf, by rw [hn]; exact Nat.le_refl _⟩

theorem ok_box (hI : Inv w0 F κ a w ρ σ) (hn : ¬ κ.dom nm) (hlt : nm < σ.next) {t : TypeId} {y : Operand} {x : X} (hop : o.op = .box t y) (hx : opX y = some x)
    (h : astep (ACalls P) nm ρ σ K (.box x)) : Good P w0 F o a w κ σ nm K := by
  have v1 := hI.opX hx
  simp only [astep] at h
  split at h
  · exact h.elim
  · rename_i ha
    have hv := v1.cells (by intro e; rw [e] at ha; exact ha rfl)
    obtain ⟨e, hr⟩ := hI.r.new_obj hI.hB hn hlt t [] (0, 0) (.inl rfl) hv
    simp only [List.append_nil] at e hr
    refine .value' (κ' := κ.name nm w.heap.size) ⟨e, fun n hd => hd.imp id .inl, hr, hI.fr.alloc _, Nat.le_refl _⟩ (v := .pointer (some ⟨w.heap.size, 0, none⟩)) ?_ ?_ h
    · have : (⟨(a.eval y).cells.toList⟩ : Array Value) = (a.eval y).cells := by simp
      simp [execOp, hop, Instr.box, newVar, newRow]
    · have := V.ptr (κ := κ.name nm w.heap.size) (w := w.alloc (.cells ⟨(a.eval y).cells.toList⟩ t)) nm 0 (.inr rfl)
      simpa [Kx.name] using this

theorem zeroOf_ok {t : TypeId} {z : AV} (h : zeroOf P t = some z) : ∃ i v, P.info? t = some i ∧ i.zero = some v ∧ constV v = some z := by
  unfold zeroOf at h
  split at h
  · rename_i i hi
    split at h
    · rename_i v hv; exact ⟨i, v, hi, hv, h⟩
    · cases h
  · cases h

theorem constAV_ne {v : Value} {z : AV} (h : constAV v = some z) : z ≠ .any := by
  unfold constAV at h
  split at h <;> simp only [Option.some.injEq, reduceCtorEq] at h <;> subst h <;> simp
theorem constV_ne {v : Value} {z : AV} (h : constV v = some z) : z ≠ .any := by
  unfold constV at h
  split at h
  · rw [Option.map_eq_some_iff] at h
    obtain ⟨ys, _, rfl⟩ := h
    simp
  · exact constAV_ne h

theorem ok_alloc (hI : Inv w0 F κ a w ρ σ) (hn : ¬ κ.dom nm) (hlt : nm < σ.next) {t : TypeId} {z : AV} (hop : o.op = .alloc t) (hz : zeroOf P t = some z)
    (h : astep (ACalls P) nm ρ σ K (.alloc z.cells)) : Good P w0 F o a w κ σ nm K := by
  obtain ⟨i, v, h1, h2, h3⟩ := zeroOf_ok hz
  simp only [astep] at h
  have hv := (constV_ok (κ := κ) (w := w) h3).cells (constV_ne h3)
  obtain ⟨e, hr⟩ := hI.r.new_obj hI.hB hn hlt t [] (0, 0) (.inl rfl) hv
  simp only [List.append_nil] at e hr
  refine .value' (κ' := κ.name nm w.heap.size) ⟨e, fun n hd => hd.imp id .inl, hr, hI.fr.alloc _, Nat.le_refl _⟩ (v := .pointer (some ⟨w.heap.size, 0, none⟩)) ?_ ?_ h
  · simp [execOp, hop, Instr.alloc, zeroValue, typeInfo, h1, h2, newVar, newRow]
  · have := V.ptr (κ := κ.name nm w.heap.size) (w := w.alloc (.cells ⟨v.cells.toList⟩ t)) nm 0 (.inr rfl)
    simpa [Kx.name] using this

theorem ok_store (hI : Inv w0 F κ a w ρ σ) {t : TypeId} {y z : Operand} {x x' : X} {k : Nat} (hop : o.op = .store t y z) (hk : sizeOf' P t = some k) (hx : opX y = some x) (hx' : opX z = some x')
    (h : astep (ACalls P) nm ρ σ K (.store k x x')) : Good P w0 F o a w κ σ nm K := by
  have v1 := hI.opX hx
  have v2 := hI.opX hx'
  simp only [astep] at h
  split at h
  · rename_i n off hn
    rw [hn] at v1
    obtain ⟨e1, hd⟩ := v1.ptr_inv
    split at h
    · rename_i cs hr
      split at h
      · rename_i hc
        simp only [Bool.and_eq_true, decide_eq_true_eq] at hc
        obtain ⟨hfit, hle⟩ := hc
        obtain ⟨f1, f2, f3⟩ := fits_iff hfit
        have hv := v2.cells f1
        obtain ⟨hdom, us, rest, tt, fz, g1, g2, g3, g4⟩ := hI.r.own n _ hr
        have hl := g3.length
        have hl2 := hv.length
        obtain ⟨w', r1, r2, r3⟩ := run_storeCells (P := P) (N := us.length) (a.eval z).cells.toList off w (us ++ rest) g1 g2 (by omega) (by simp) (hv.ones f3) off 0 rfl
        have hsp : (us ++ rest).take off ++ (a.eval z).cells.toList ++ (us ++ rest).drop (off + (a.eval z).cells.toList.length) = (us.take off ++ (a.eval z).cells.toList ++ us.drop (off + (a.eval z).cells.toList.length)) ++ rest := by
          rw [List.take_append_of_le_length (by omega), List.drop_append_of_le_length (by omega), List.append_assoc _ _ rest]
        rw [hsp] at r2
        obtain ⟨e, hr'⟩ := hI.r.set_obj (cs' := splice cs off (ev ρ x').cells) hr r2 (by
            refine g2.imp id (fun hx => Nat.le_trans ?_ hx)
            simp only [List.length_append, List.length_take, List.length_drop]
            omega) r3.block r3.size
          (((g3.take off).append hv).append (by have := g3.drop (off + (ev ρ x').cells.length); rwa [← hl2] at this ⊢))
        refine .skip' (.own e rfl hr' (hI.fr.owned hI.r rfl hr r3.os r3.tape r3.output r3.size r3.block) rfl) ?_ h
        have hsz : (a.eval z).cells.size = k := by rw [← f2, ← hl2]; simp
        simp only [execOp, hop, e1, Instr.storeAt, Instr.sureAddr, storeVar, Sem.run_bind, Sem.run_pure, Result.andThen_ok, run_sizeOf hk, hsz]
        simp [r1]
      · exact h.elim
    · exact h.elim
  · exact h.elim

theorem ok_mkMap (hI : Inv w0 F κ a w ρ σ) (hn : ¬ κ.dom nm) (hlt : nm < σ.next) {t : TypeId} (hop : o.op = .makeMap t none)
    (h : astep (ACalls P) nm ρ σ K .mkMap) : Good P w0 F o a w κ σ nm K := by
  simp only [astep] at h
  obtain ⟨e, hr⟩ := hI.r.new_map hI.hB hn hlt
  refine .value' (κ' := κ.name nm w.heap.size) ⟨e, fun n hd => hd.imp id .inl, hr, hI.fr.alloc _, Nat.le_refl _⟩ (v := .map (some w.heap.size)) ?_ ?_ h
  · simp [execOp, hop, Instr.makeMap]
  · have := V.map (κ := κ.name nm w.heap.size) (w := w.alloc (.map #[] 0)) nm (.inr rfl)
    simpa [Kx.name] using this
end
end Go.VL
