/- Texts put together: The value logic, part H: structs and slices that are built. The value logic, part J: slices that are cut, and grown. The value logic, part K: append. The value logic, part L: texts and bytes, make, maps, comparing, calls. The value logic, part M: equality, least and greatest, delete, and calls. The value logic, part W: nil slices, room, copy, and walks over maps and texts. The value logic, part N: each operation of the code comes to what its instruction says, all together. -/
import Derived.Test.YtlbnimbgodmagaaGa
import Derived.Laws.BytesArg
import Derived.Lib.ConvBytes
import Derived.Laws.NewFold

/- The value logic, part H: structs and slices that are built. -/
namespace Go.VL
section
variable {P : Program} {w0 : World} {F : Nat → Prop} {o : Oper} {a : Act} {w : World} {κ : Kx} {ρ : List AV} {σ : St} {nm : Nat} {K : AV → St → Prop}

theorem foldl_set : ∀ (us : List Value) (k off : Nat) (cs : List Value), off + k + us.length ≤ cs.length →
    ((us.zipIdx k).foldl (fun (cs : Array Value) (p : Value × Nat) => cs.setIfInBounds (off + p.2) p.1) ⟨cs⟩) = ⟨cs.take (off + k) ++ us ++ cs.drop (off + k + us.length)⟩
  | [], k, off, cs, _ => by simp
  | u :: us, k, off, cs, h => by
    simp only [List.length_cons] at h
    simp only [List.zipIdx_cons, List.foldl_cons]
    have e0 : (⟨cs⟩ : Array Value).setIfInBounds (off + k) u = ⟨cs.set (off + k) u⟩ := by simp
    rw [e0, foldl_set us (k + 1) off (cs.set (off + k) u) (by simp; omega)]
    have e : (cs.set (off + k) u).take (off + (k + 1)) = cs.take (off + k) ++ [u] := by
      rw [show off + (k + 1) = off + k + 1 by omega, List.take_add_one, List.take_set_of_le (Nat.le_refl _)]
      have : off + k < cs.length := by omega
      simp [this]
    have e' : (cs.set (off + k) u).drop (off + (k + 1) + us.length) = cs.drop (off + k + (us.length + 1)) := by
      rw [List.drop_set_of_lt (by omega)]
      congr 1
      omega
    rw [e, e']
    simp

theorem fill_cons {place : Nat → Option (Nat × Nat)} {cs : List Value} {i off size : Nat} {v : Value} {r : List (Nat × Value)} (hp : place i = some (off, size)) (hs : v.cells.size = size) (hl : off + size ≤ cs.length) :
    Instr.fill place ⟨cs⟩ ((i, v) :: r) = Instr.fill place ⟨cs.take off ++ v.cells.toList ++ cs.drop (off + size)⟩ r := by
  have e := foldl_set v.cells.toList 0 off cs (by simp only [Array.length_toList]; omega)
  have e2 : v.cells.zipIdx.foldl (fun (cs : Array Value) (p : Value × Nat) => cs.setIfInBounds (off + p.2) p.1) ⟨cs⟩ = ⟨cs.take off ++ v.cells.toList ++ cs.drop (off + size)⟩ := by
    rw [← Array.foldl_toList, Array.toList_zipIdx, e]
    simp only [Array.length_toList, hs, Nat.add_zero]
  simp only [Instr.fill, hp]
  have h1 : ¬ (v.cells.size ≠ size) := by simp [hs]
  have h2 : ¬ (off + v.cells.size > cs.length) := by omega
  have hs' : (⟨cs⟩ : Array Value).size = cs.length := by simp
  rw [if_neg (by simp [hs]; omega)]
  exact congrArg (fun z => Instr.fill place z r) e2

theorem tabOf_get : ∀ {fs : List Field} {tab : List (Nat × Nat)}, tabOf P fs = some tab → (List.mapM (m := Sem) (fun f => do pure (f.offset, ← sizeOf f.type)) fs).run P w = .ok tab w
  | [], tab, h => by simp only [tabOf, Option.some.injEq] at h; subst h; simp
  | f :: r, tab, h => by
    simp only [tabOf] at h
    split at h
    · rename_i k y h1 h2
      simp only [Option.some.injEq] at h; subst h
      have := tabOf_get h2
      simp only [List.mapM_cons, Sem.run_bind, run_sizeOf h1, Result.andThen_ok, Sem.run_pure] at this ⊢
      rw [this]
      simp
    · cases h

theorem run_mapM_arr {α β : Type} (f : α → Sem β) (xs : Array α) (ys : List β) (h : (List.mapM (m := Sem) f xs.toList).run P w = .ok ys w) : (xs.mapM f).run P w = .ok ⟨ys⟩ w := by
  rw [Array.mapM_eq_mapM_toList]
  simp [h]

theorem fillA_ok (hI : Inv w0 F κ a w ρ σ) {tab : List (Nat × Nat)} : ∀ {parts : List (Nat × Operand)} {ps : List (Nat × Nat × X)} {us : List Value} {cs zs : List AV}, placesOf tab parts = some ps → Vl κ w us cs →
    fillA ρ cs ps = some zs → ∃ us', Instr.fill ((⟨tab⟩ : Array (Nat × Nat))[·]?) ⟨us⟩ (parts.map fun (i, x) => (i, a.eval x)) = some ⟨us'⟩ ∧ Vl κ w us' zs
  | [], ps, us, cs, zs, h, hv, hf => by
    simp only [placesOf, Option.some.injEq] at h; subst h
    simp only [fillA, Option.some.injEq] at hf; subst hf
    exact ⟨us, by simp [Instr.fill], hv⟩
  | (i, y) :: r, ps, us, cs, zs, h, hv, hf => by
    simp only [placesOf] at h
    split at h
    · rename_i f x z h1 h2 h3
      simp only [Option.some.injEq] at h; subst h
      simp only [fillA] at hf
      split at hf
      · rename_i hc
        obtain ⟨f1, f2, f3⟩ := fits_iff hc.1
        have vx := (hI.opX h2).cells f1
        have hl := vx.length
        have hl2 := hv.length
        have hsz : (a.eval y).cells.size = f.2 := by rw [← f2, ← hl]; simp
        obtain ⟨us', e1, e2⟩ := fillA_ok hI (us := us.take f.1 ++ (a.eval y).cells.toList ++ us.drop (f.1 + f.2)) h3
          (by unfold splice; rw [f2]; exact ((hv.take _).append vx).append (hv.drop _)) hf
        refine ⟨us', ?_, e2⟩
        rw [← e1, List.map_cons]
        exact fill_cons (off := f.1) (size := f.2) (by simpa using h1) hsz (by omega)
      · cases hf
    · cases h

theorem ok_build (hI : Inv w0 F κ a w ρ σ) {t : TypeId} {parts : Array (Nat × Operand)} {z : List AV} {fs : Array Field} {tab : List (Nat × Nat)} {ps : List (Nat × Nat × X)} (hop : o.op = .build t parts) (hz : zeroOf P t = some (.agg z)) (hu : P.underlying t = some (.struct fs))
    (ht : tabOf P fs.toList = some tab) (hp : placesOf tab parts.toList = some ps) (h : astep (ACalls P) nm ρ σ K (.build z ps)) : Good P w0 F o a w κ σ nm K := by
  obtain ⟨i, v, h1, h2, h3⟩ := zeroOf_ok hz
  obtain ⟨us, rfl, hl⟩ := (constV_ok (κ := κ) (w := w) h3).agg_inv
  simp only [astep] at h
  obtain ⟨x, hx, hK⟩ := opt_some h
  rw [Option.map_eq_some_iff] at hx
  obtain ⟨zs, hf, rfl⟩ := hx
  obtain ⟨us', e1, e2⟩ := fillA_ok hI hp hl hf
  refine .value hI (v := .agg ⟨us'⟩) ?_ (.agg _ _ e2) hK
  have hm := run_mapM_arr (P := P) (w := w) (fun f : Field => do pure (f.offset, ← sizeOf f.type)) fs tab (tabOf_get ht)
  obtain ⟨pl⟩ := parts
  have e1' : Instr.fill (fun x => tab[x]?) ⟨us⟩ (List.map (fun x => (x.fst, a.eval x.snd)) pl) = some ⟨us'⟩ := by simpa using e1
  simp only [bind_pure_comp] at hm
  simp [execOp, hop, Instr.build, zeroValue, typeInfo, h1, h2, underlying, hu, Value.cells]
  rw [hm]
  simp [e1']

/-! ### A slice that is made -/
theorem V.er1 {v : Value} {x : AV} (h : V κ w v x) : V κ w v x.er1 := by
  cases x <;> first | exact h | exact h.weak
theorem Vl.er1 : ∀ {vs : List Value} {xs : List AV}, Vl κ w vs xs → Vl κ w vs (xs.map AV.er1)
  | _, _, .nil => .nil
  | _, _, .cons _ _ _ _ h t => .cons _ _ _ _ h.er1 (Vl.er1 t)
theorem er_cells {k : Nat} {x : AV} (h : x.fits k = true) : x.er.cells = x.cells.map AV.er1 := by
  obtain ⟨_, _, h3⟩ := fits_iff h
  cases x <;> first | rfl | (simp [AV.cells, AV.one] at h3)
theorem er_len {k : Nat} {x : AV} (h : x.fits k = true) : x.er.cells.length = k := by
  rw [er_cells h, List.length_map]; exact (fits_iff h).2.1
theorem flat_er {k : Nat} : ∀ {xs : List AV}, xs.all (AV.fits k) = true → (xs.map AV.er).flatMap AV.cells = (xs.flatMap AV.cells).map AV.er1
  | [], _ => rfl
  | x :: xs, h => by
    simp only [List.all_cons, Bool.and_eq_true] at h
    simp only [List.map_cons, List.flatMap_cons, List.map_append, er_cells h.1, flat_er h.2]
theorem flat_len {k : Nat} : ∀ {xs : List AV}, xs.all (AV.fits k) = true → (xs.flatMap AV.cells).length = xs.length * k
  | [], _ => by simp
  | x :: xs, h => by
    simp only [List.all_cons, Bool.and_eq_true] at h
    simp only [List.flatMap_cons, List.length_append, flat_len h.2, (fits_iff h.1).2.1, List.length_cons, Nat.add_mul]
    omega
theorem all_len {k : Nat} {xs : List AV} (h : xs.all (AV.fits k) = true) : ∀ x ∈ xs.map AV.er, x.cells.length = k := by
  intro x hx
  obtain ⟨y, hy, rfl⟩ := List.mem_map.1 hx
  exact er_len (List.all_eq_true.1 h y hy)

/-- what a new row is told to be -/
theorem held_ok (hI : Inv w0 F κ a w ρ σ)  {k : Nat} {xs : List AV} {hd : Hold} (hn : hd ≠ .val → hd ≠ .zero → ¬ κ.dom nm ∧ nm < σ.next) (hk : xs.all (AV.fits k) = true) {us rest : List Value} {t : TypeId} {fz : Nat × Nat} {cap : Nat} {n : Nat}
    (hv : Vl κ w us (xs.flatMap AV.cells)) (hcap : cap * k ≤ us.length + rest.length) (hle : xs.length ≤ cap) (hf : hd ≠ .own → fzOk (us ++ rest).length fz) (hf' : fzOk us.length fz) (hn' : n = xs.length)
    (h : held k nm σ K xs hd)
    (he : ∃ w1 : World, w1.heap = w.heap ∧ w1.os = w.os ∧ w1.tape = w.tape ∧ w1.output = w.output ∧ (execOp a.eval o).run P w = .ok (.value (.slice (some ⟨w.heap.size, 0, none⟩) n cap)) (w1.alloc (.cells ⟨us ++ rest⟩ t fz))) :
    Good P w0 F o a w κ σ nm K := by
  subst hn'
  obtain ⟨w1, q1, q2, q3, q4, hrun⟩ := he
  have ewc : ∀ b i, w1.cell? ⟨b, i, none⟩ = w.cell? ⟨b, i, none⟩ := fun b i => cell_same (by rw [q1]) i
  have e1 : Ext κ w κ w1 := ⟨fun _ _ x => x, fun _ _ => rfl, fun _ _ => rfl, fun _ _ => rfl, fun _ _ => rfl, fun _ x => x, fun b i _ => ewc b i⟩
  have hr1 : R w0.heap.size F κ w1 σ := hI.r.step e1 hI.r.dom (fun b i hi => by rw [q1]; exact hI.r.imm b i hi) (fun n r hr => .inl ⟨hr, by rw [q1], fun _ x => x⟩)
  have hf1 : Fr F w0 w1 := ⟨q2.trans hI.fr.os, q3.trans hI.fr.tape, q4.trans hI.fr.output, by rw [q1]; exact hI.fr.size, fun b hb hF => by rw [q1]; exact hI.fr.block b hb hF⟩
  have hv1 : Vl κ w1 us (xs.flatMap AV.cells) := hv.mono e1
  have hs : w1.heap.size = w.heap.size := by rw [q1]
  have hlen : us.length = xs.length * k := by rw [hv.length]; exact flat_len hk
  have hcs : ∀ (fz' : Nat × Nat) i u, us[i]? = some u → (w1.alloc (.cells ⟨us ++ rest⟩ t fz')).cell? ⟨w1.heap.size, 0 + i, none⟩ = some u := by
    intro fz' i u hu
    have hi : i < us.length := (List.getElem?_eq_some_iff.1 hu).1
    rw [cell_of (heap_alloc_new _ _), Nat.zero_add, List.getElem?_append_left hi]
    exact hu
  cases hd with
  | val =>
    simp only [held] at h
    obtain ⟨e, hr⟩ := hr1.new_imm (us ++ rest) t fz us.length
    refine .value' (κ' := κ.imms w1.heap.size us.length) ⟨e1.trans e, fun n hd => .inl hd, hr, hf1.alloc _, Nat.le_refl _⟩ hrun ?_ h
    have := V.sl (κ := κ.imms w1.heap.size us.length) (w := w1.alloc (.cells ⟨us ++ rest⟩ t fz)) w1.heap.size 0 cap k (xs.map AV.er) (all_len hk) (by simpa using hle)
      (by rw [flat_er hk]; exact Vs.mk ((hv1.mono e).er1) (fun i u hu => ⟨.inr ⟨rfl, by simpa using (List.getElem?_eq_some_iff.1 hu).1⟩, hcs fz i u hu⟩))
    rw [hs] at this ⊢
    simpa using this
  | tip =>
    simp only [held] at h
    obtain ⟨e, hr⟩ := hr1.new_tip hf1.size (hn (by simp) (by simp)).1 (hn (by simp) (by simp)).2 (us ++ rest) t fz (hf (by simp)) us.length (cap * k) k (by simpa using hcap)
    refine .value' (κ' := (κ.imms w1.heap.size us.length).mark nm w1.heap.size us.length (cap * k) k) ⟨e1.trans e, fun n hd => hd.imp id .inl, hr, hf1.alloc _, Nat.le_refl _⟩ hrun ?_ h
    have := V.tip (κ := (κ.imms w1.heap.size us.length).mark nm w1.heap.size us.length (cap * k) k) (w := w1.alloc (.cells ⟨us ++ rest⟩ t fz)) 0 cap nm (xs.map AV.er) (by simpa [Kx.mark] using all_len hk)
      (by simpa using hle) (.inr rfl) (by simp [Kx.mark, hlen]) (by simp [Kx.mark])
      (by rw [flat_er hk]; exact Vs.mk ((hv1.mono e).er1) (fun i u hu => ⟨.inr ⟨by simp [Kx.mark], by simpa using (List.getElem?_eq_some_iff.1 hu).1⟩, by simpa [Kx.mark] using hcs fz i u hu⟩))
    simp only [Kx.mark, if_true, List.length_map] at this
    rw [hs] at this ⊢
    exact this
  | own =>
    simp only [held] at h
    obtain ⟨e, hr⟩ := hr1.new_obj hf1.size (hn (by simp) (by simp)).1 (hn (by simp) (by simp)).2 t rest fz hf' hv1
    refine .value' (κ' := κ.name nm w1.heap.size) ⟨e1.trans e, fun n hd => hd.imp id .inl, hr, hf1.alloc _, Nat.le_refl _⟩ hrun ?_ h
    have := V.ref (κ := κ.name nm w1.heap.size) (w := w1.alloc (.cells ⟨us ++ rest⟩ t fz)) nm 0 xs.length cap (.inr rfl) hle
    simp only [Kx.name, if_true] at this
    rw [hs] at this ⊢
    exact this
  | zero => exact h.elim
  | room =>
    simp only [held] at h
    obtain ⟨e, hr⟩ := hr1.new_tip hf1.size (hn (by simp) (by simp)).1 (hn (by simp) (by simp)).2 (us ++ rest) t fz (hf (by simp)) 0 (cap * k) k (by simpa using hcap)
    refine .value' (κ' := (κ.imms w1.heap.size 0).mark nm w1.heap.size 0 (cap * k) k) ⟨e1.trans e, fun n hd => hd.imp id .inl, hr, hf1.alloc _, Nat.le_refl _⟩ hrun ?_ h
    have := V.room (κ := (κ.imms w1.heap.size 0).mark nm w1.heap.size 0 (cap * k) k) (w := w1.alloc (.cells ⟨us ++ rest⟩ t fz)) 0 cap nm xs.length (.inr rfl) hle (by simp [Kx.mark]) (by simp [Kx.mark])
    simp only [Kx.mark, if_true] at this
    rw [hs] at this ⊢
    exact this

theorem fill_parts (hI : Inv w0 F κ a w ρ σ) {size : Nat} : ∀ {parts : List (Nat × Operand)} {xs : List X} (i : Nat) (cs : List Value), partsOf i parts = some xs → (xs.map (ev ρ)).all (AV.fits size) = true →
    (i + parts.length) * size ≤ cs.length → ∃ us, Instr.fill (fun i => some (i * size, size)) ⟨cs⟩ (parts.map fun (i, x) => (i, a.eval x)) = some ⟨cs.take (i * size) ++ us ++ cs.drop ((i + parts.length) * size)⟩ ∧
      Vl κ w us ((xs.map (ev ρ)).flatMap AV.cells)
  | [], xs, i, cs, h, _, _ => by
    simp only [partsOf, Option.some.injEq] at h; subst h
    exact ⟨[], by simp [Instr.fill], .nil⟩
  | (j, y) :: r, xs, i, cs, h, hf, hl => by
    simp only [partsOf] at h
    split at h
    · rename_i hj
      subst hj
      split at h
      · rename_i x z h1 h2
        simp only [Option.some.injEq] at h; subst h
        simp only [List.map_cons, List.all_cons, Bool.and_eq_true] at hf
        obtain ⟨f1, f2, f3⟩ := fits_iff hf.1
        have vx := (hI.opX h1).cells f1
        have hlx := vx.length
        have hsz : (a.eval y).cells.toList.length = size := by rw [hlx, f2]
        have hm : (j + ((j, y) :: r).length) * size = j * size + size + r.length * size := by simp only [List.length_cons, Nat.add_mul, Nat.one_mul]; omega
        rw [hm] at hl
        have hm1 : (j + 1) * size = j * size + size := by simp [Nat.add_mul]
        have hm2 : (j + 1 + r.length) * size = j * size + size + r.length * size := by simp [Nat.add_mul]
        have hlen : (cs.take (j * size) ++ (a.eval y).cells.toList ++ cs.drop (j * size + size)).length = cs.length := by
          simp only [List.length_append, List.length_take, List.length_drop, hsz]; omega
        obtain ⟨us, e1, e2⟩ := fill_parts hI (j + 1) (cs.take (j * size) ++ (a.eval y).cells.toList ++ cs.drop (j * size + size)) h2 hf.2 (by rw [hlen, hm2]; omega)
        refine ⟨(a.eval y).cells.toList ++ us, ?_, by simpa using vx.append e2⟩
        rw [List.map_cons, fill_cons (off := j * size) (size := size) rfl (by simpa using hsz) (by omega), e1, hm1, hm2, hm]
        congr 2
        have ht : (cs.take (j * size) ++ (a.eval y).cells.toList).length = j * size + size := by
          simp only [List.length_append, List.length_take, hsz]; omega
        rw [List.take_append_of_le_length (by rw [ht]; exact Nat.le_refl _), List.take_of_length_le (by rw [ht]; exact Nat.le_refl _)]
        rw [List.drop_append, ht, List.drop_eq_nil_of_le (by rw [ht]; omega), List.drop_drop]
        simp only [List.nil_append, List.append_assoc]
        congr 4
        omega
      · cases h
    · cases h

theorem ok_bslice (hI : Inv w0 F κ a w ρ σ)  {t e : TypeId} {n k : Nat} {parts : Array (Nat × Operand)} {xs : List X} {z : AV} {hd : Hold} (hn : hd ≠ .val → hd ≠ .zero → ¬ κ.dom nm ∧ nm < σ.next) (hop : o.op = .buildSlice t n parts) (hu : P.underlying t = some (.slice e))
    (hk : sizeOf' P e = some k) (hz : zeroOf P e = some z) (hp : partsOf 0 parts.toList = some xs) (hl : xs.length = n) (hsm : n * k ≤ 65536) (h : astep (ACalls P) nm ρ σ K (.bslice k hd xs)) : Good P w0 F o a w κ σ nm K := by
  obtain ⟨i, v, h1, h2, h3⟩ := zeroOf_ok hz
  have hrun : ∀ {us : List Value}, xs.length = parts.toList.length → Instr.fill (fun i => some (i * k, k)) ⟨((Array.range (n * k)).map ((if n * k = 0 then #[] else v.cells)[· % (if n * k = 0 then #[] else v.cells).size]!)).toList⟩ (parts.toList.map fun (i, x) => (i, a.eval x)) = some ⟨us⟩ →
      (execOp a.eval o).run P w = .ok (.value (.slice (some ⟨w.heap.size, 0, none⟩) n n)) (w.alloc (.cells ⟨us⟩ e (0, 0))) := by
    intro us hlen e1
    obtain ⟨pl⟩ := parts
    have hno : ¬ (n * k > 2 ^ 24) := by omega
    have e1' : Instr.fill (fun i => some (i * k, k)) ((Array.range (n * k)).map ((if n * k = 0 then #[] else v.cells)[· % (if n * k = 0 then #[] else v.cells).size]!)) (Array.map (fun x : Nat × Operand => (x.fst, a.eval x.snd)) ⟨pl⟩).toList = some ⟨us⟩ := by
      rw [Array.toList_map]; exact e1
    simp only [execOp, hop, Instr.buildSlice, Sem.run_bind, underlying, run_program, Result.andThen_ok, hu, Sem.run_pure, run_sizeOf hk, if_neg hno, Sem.run_ite]
    by_cases h0 : n * k = 0
    · simp only [h0, if_true] at e1' ⊢
      rw [e1']
      simp [newRow]
    · simp only [h0, if_false, Sem.run_bind, zeroValue, typeInfo, run_program, Sem.run_pure, Result.andThen_ok, h1, h2] at e1' ⊢
      rw [e1']
      simp [newRow]
  simp only [astep] at h
  split at h
  · -- no room at all
    split at h
    · rename_i hemp
      have hx : xs = [] := List.isEmpty_iff.1 hemp
      subst hx
      have hpn : parts.toList = [] := by
        cases hpp : parts.toList with
        | nil => rfl
        | cons p r =>
          rw [hpp] at hp
          simp only [partsOf] at hp
          split at hp
          · split at hp <;> simp at hp
          · cases hp
      have hn0 : n = 0 := by simpa using hl.symm
      subst hn0
      obtain ⟨e', hr⟩ := hI.r.new_imm [] e (0, 0) 0
      refine .value' (κ' := κ.imms w.heap.size 0) ⟨e', fun n hd => .inl hd, hr, hI.fr.alloc _, Nat.le_refl _⟩ (hrun (us := []) (by rw [hpn]; rfl) ?_) (.slz _ _ (.inr rfl)) h
      rw [hpn]
      simp [Instr.fill]
    · exact h.elim
  split at h
  · rename_i hf
    have hpl : ∀ {l : List (Nat × Operand)} {i : Nat} {xs : List X}, partsOf i l = some xs → l.length = xs.length := by
      intro l
      induction l with
      | nil => intro i xs h; simp only [partsOf, Option.some.injEq] at h; subst h; rfl
      | cons p r ih =>
        intro i xs h
        simp only [partsOf] at h
        split at h
        · split at h
          · rename_i h1 h2; simp only [Option.some.injEq] at h; subst h; simp [ih h2]
          · cases h
        · cases h
    have hlen := hpl hp
    let zs : Array Value := (if n * k = 0 then #[] else v.cells)
    let base : List Value := ((Array.range (n * k)).map (zs[· % zs.size]!)).toList
    have hb : base.length = n * k := by simp [base]
    obtain ⟨us, e1, e2⟩ := fill_parts hI (size := k) 0 base hp hf (by rw [hb, Nat.zero_add, hlen, hl]; exact Nat.le_refl _)
    rw [Nat.zero_add, Nat.zero_mul, List.take_zero, List.nil_append, List.drop_eq_nil_of_le (by rw [hb, hlen, hl]; exact Nat.le_refl _), List.append_nil] at e1
    refine held_ok (us := us) (rest := []) (t := e) (fz := (0, 0)) (cap := n) (n := n) hI hn hf e2 ?_ ?_ (fun _ => ?_) ?_ ?_ h ⟨w, rfl, rfl, rfl, rfl, ?_⟩
    · rw [e2.length, flat_len hf]; simp [hl]
    · simp [hl]
    · exact .inl rfl
    · exact .inl rfl
    · simp [hl]
    · rw [List.append_nil]
      exact hrun hlen.symm e1
  · exact h.elim

theorem ok_iaddr (hI : Inv w0 F κ a w ρ σ) {t e : TypeId} {k : Nat} {y z : Operand} {x x' : X} (hop : o.op = .indexAddr t y z) (hu : P.underlying t = some (.slice e)) (hk : sizeOf' P e = some k) (hx : opX y = some x) (hx' : opX z = some x')
    (h : astep (ACalls P) nm ρ σ K (.iaddr k x x')) : Good P w0 F o a w κ σ nm K := by
  have v1 := hI.opX hx
  have v2 := hI.opX hx'
  simp only [astep] at h
  split at h
  · rename_i xs g kk n h1 h2
    rw [h1] at v1; rw [h2] at v2
    have e2 := v2.int_inv
    split at h
    · rename_i hb
      split at h
      · rename_i y' hy
        split at h
        · rename_i hc
          rcases v1.sl_inv with ⟨_, _, rfl⟩ | ⟨b, i, cap, kq, e1, g1, g2, g3⟩
          · simp at hy
          · have hkq : kq = k := by rw [← hc]; exact (g1 y' (List.mem_of_getElem? hy)).symm
            subst hkq
            have hlt : n.toNat < xs.length := (List.getElem?_eq_some_iff.1 hy).1
            have hyq : xs[n.toNat] = y' := (List.getElem?_eq_some_iff.1 hy).2
            have hsp : xs = xs.take n.toNat ++ y' :: xs.drop (n.toNat + 1) := by rw [← hyq]; simp
            have hft : (xs.take n.toNat).flatMap AV.cells = (xs.flatMap AV.cells).take (n.toNat * kq) ∧ ((xs.take n.toNat).flatMap AV.cells).length = n.toNat * kq := by
              have hall : ∀ (l : List AV), (∀ x ∈ l, x.cells.length = kq) → (l.flatMap AV.cells).length = l.length * kq := by
                intro l
                induction l with
                | nil => intro _; simp
                | cons p r ih => intro hh; simp only [List.flatMap_cons, List.length_append, List.length_cons, Nat.add_mul, ih (fun x hx => hh x (List.mem_cons_of_mem _ hx)), hh p (List.mem_cons_self ..)]; omega
              have hl : ((xs.take n.toNat).flatMap AV.cells).length = n.toNat * kq := by
                rw [hall _ (fun x hx => g1 x (List.mem_of_mem_take hx)), List.length_take, Nat.min_eq_left (Nat.le_of_lt hlt)]
              refine ⟨?_, hl⟩
              conv => rhs; rw [hsp, List.flatMap_append]
              rw [← hl, List.take_left]
            rw [hsp, List.flatMap_append, List.flatMap_cons] at g3
            have g4 := (g3.right _).left
            rw [hft.2] at g4
            refine .value hI (v := .pointer (some ⟨b, i + n.toNat * kq, none⟩)) ?_ (.eptr _ _ _ g4) h
            simp [execOp, hop, e1, e2, Instr.indexAt, asIntOf, underlying, hu, hb, run_sizeOf hk, add_spot]
        · exact h.elim
      · exact h.elim
    · exact h.elim
  · rename_i m off len kk n h1 h2
    rw [h1] at v1; rw [h2] at v2
    have e2 := v2.int_inv
    obtain ⟨cap, e1, hcap, hd⟩ := v1.ref_inv
    split at h
    · rename_i hb
      refine .value hI (v := .pointer (some ⟨κ.φ m, off + n.toNat * k, none⟩)) ?_ (.ptr _ _ hd) h
      simp [execOp, hop, e1, e2, Instr.indexAt, asIntOf, underlying, hu, hb, run_sizeOf hk, add_spot]
    · exact h.elim
  · exact h.elim

theorem ok_iaddrA (hI : Inv w0 F κ a w ρ σ) {t e : TypeId} {k len : Nat} {y z : Operand} {x x' : X} (hop : o.op = .indexAddr t y z) (hu : P.underlying t = some (.array len e)) (hk : sizeOf' P e = some k) (hx : opX y = some x) (hx' : opX z = some x')
    (h : astep (ACalls P) nm ρ σ K (.iaddrA len k x x')) : Good P w0 F o a w κ σ nm K := by
  have v1 := hI.opX hx
  have v2 := hI.opX hx'
  simp only [astep] at h
  split at h
  · rename_i m off kk n h1 h2
    rw [h1] at v1; rw [h2] at v2
    have e2 := v2.int_inv
    obtain ⟨e1, hd⟩ := v1.ptr_inv
    split at h
    · rename_i hb
      refine .value hI (v := .pointer (some ⟨κ.φ m, off + n.toNat * k, none⟩)) ?_ (.ptr _ _ hd) h
      simp [execOp, hop, e1, e2, Instr.indexAt, Instr.sureAddr, asIntOf, underlying, hu, hb, run_sizeOf hk, add_spot]
    · exact h.elim
  · exact h.elim

theorem call_builtin {b : Builtin} {c : Call} {y : List Operand} {ts : List TypeId} (hop : o.op = .call c) (hc : c.callee = .builtin b) (ha : c.args.toList = y) (ht : c.argTypes.toList = ts) {v : Value} {w' : World}
    (h : ∀ cs, (builtin b ⟨ts⟩ o.type cs ⟨y.map a.eval⟩).run P w = .ok (.value v) w') : (execOp a.eval o).run P w = .ok (.value v) w' := by
  obtain ⟨callee, ⟨al⟩, ⟨tl⟩⟩ := c
  simp only at hc ha ht
  subst hc ha ht
  have := h (Array.map (fun x => match x with | .const _ => true | _ => false) ⟨al⟩)
  simp only [execOp, hop, resolve, Sem.run_bind, Sem.run_pure, Result.andThen_ok, invoke, List.map_toArray] at this ⊢
  exact this

theorem ok_len (hI : Inv w0 F κ a w ρ σ) {c : Call} {y : Operand} {x : X} {t e : TypeId} {ts : List TypeId} (hop : o.op = .call c) (hc : c.callee = .builtin .len) (ha : c.args.toList = [y]) (ht : c.argTypes.toList = t :: ts)
    (hu : P.underlying t = some (.slice e)) (hx : opX y = some x) (h : astep (ACalls P) nm ρ σ K (.len x)) : Good P w0 F o a w κ σ nm K := by
  have v1 := hI.opX hx
  simp only [astep] at h
  split at h
  · rename_i xs g hn
    rw [hn] at v1
    have hu' : ∃ n c, a.eval y = .slice n xs.length c := by
      rcases v1.sl_inv with ⟨_, e1, rfl⟩ | ⟨b, i, cap, kq, e1, _⟩
      · exact ⟨_, _, e1⟩
      · exact ⟨_, _, e1⟩
    obtain ⟨q1, q2, e1⟩ := hu'
    exact .value hI (call_builtin hop hc ha ht (fun cs => by simp [builtin, Builtin.len_, e1, underlying, hu, goInt])) (.int _ _) h
  · rename_i n off len hn
    rw [hn] at v1
    obtain ⟨cap, e1, _, _⟩ := v1.ref_inv
    exact .value hI (call_builtin hop hc ha ht (fun cs => by simp [builtin, Builtin.len_, e1, underlying, hu, goInt])) (.int _ _) h
  · exact h.elim

theorem ok_slen (hI : Inv w0 F κ a w ρ σ) {c : Call} {y : Operand} {x : X} {t : TypeId} {ts : List TypeId} (hop : o.op = .call c) (hc : c.callee = .builtin .len) (ha : c.args.toList = [y]) (ht : c.argTypes.toList = t :: ts)
    (hu : P.underlying t = some .string) (hx : opX y = some x) (h : astep (ACalls P) nm ρ σ K (.slen x)) : Good P w0 F o a w κ σ nm K := by
  have v1 := hI.opX hx
  simp only [astep] at h
  split at h
  · rename_i s hn
    rw [hn] at v1
    exact .value hI (call_builtin hop hc ha ht (fun cs => by simp [builtin, Builtin.len_, v1.str_inv, underlying, hu, goInt])) (.int _ _) h
  · exact h.elim

theorem Vm.length : ∀ {es : List MapEntry} {ps : List (AV × AV)}, Vm κ w es ps → es.length = ps.length
  | _, _, .nil => rfl
  | _, _, .cons _ _ _ _ _ _ t => by simp [t.length]

theorem ok_mlen (hI : Inv w0 F κ a w ρ σ) {c : Call} {y : Operand} {x : X} {t k e : TypeId} {ts : List TypeId} (hop : o.op = .call c) (hc : c.callee = .builtin .len) (ha : c.args.toList = [y]) (ht : c.argTypes.toList = t :: ts)
    (hu : P.underlying t = some (.map k e)) (hx : opX y = some x) (h : astep (ACalls P) nm ρ σ K (.mlen x)) : Good P w0 F o a w κ σ nm K := by
  have v1 := hI.opX hx
  simp only [astep] at h
  split at h
  · rename_i hn
    rw [hn] at v1
    exact .value hI (v := .int .i64 0) (call_builtin hop hc ha ht (fun cs => by simp [builtin, Builtin.len_, v1.nilm_inv, underlying, hu, goInt])) (.int _ _) h
  · rename_i n hn
    rw [hn] at v1
    obtain ⟨e1, hd⟩ := v1.map_inv
    split at h
    · rename_i es ts cl hr
      obtain ⟨_, ents, g1, g2, _⟩ := hI.r.own n _ hr
      have hl := g2.length
      refine .value hI (v := .int .i64 es.length) (call_builtin hop hc ha ht (fun cs => ?_)) (.int _ _) h
      have hg : (getObj (κ.φ n)).run P w = .ok (.map ⟨ents⟩ cl) w := by simp [getObj, Sem.run, g1]
      simp [builtin, Builtin.len_, e1, underlying, hu, goInt, hg, hl]
    · exact h.elim
  · exact h.elim

/-! ### Cutting -/
theorem run_bound {y : Operand} {d : Int} {x : X} {l : Int} (hI : Inv w0 F κ a w ρ σ) (hx : opX y = some x) (hl : idx ρ d (some x) = some l) (m : Nat) (code : BoundsCode) (h0 : 0 ≤ l) (h1 : l ≤ m) :
    (Instr.sliceBound (a.eval y) m code).run P w = .ok l.toNat w := by
  have v := hI.opX hx
  simp only [idx] at hl
  split at hl
  · rename_i k n hn
    rw [hn] at v
    simp only [Option.some.injEq] at hl; subst hl
    have hc : 0 ≤ n ∧ n ≤ (m : Int) := ⟨h0, h1⟩
    simp [Instr.sliceBound, v.int_inv, asIntOf, hc]
  · cases hl

theorem opXo_cases {y : Option Operand} {x : Option X} (h : opXo y = some x) : (y = none ∧ x = none) ∨ ∃ y' x', y = some y' ∧ x = some x' ∧ opX y' = some x' := by
  cases y with
  | none => simp only [opXo, Option.some.injEq] at h; exact .inl ⟨rfl, h.symm⟩
  | some y' =>
    simp only [opXo, Option.map_eq_some_iff] at h
    obtain ⟨x', h1, rfl⟩ := h
    exact .inr ⟨y', x', rfl, rfl, h1⟩

theorem run_bounds (hI : Inv w0 F κ a w ρ σ) {lo hi : Option Operand} {lo' hi' : Option X} (hlo : opXo lo = some lo') (hhi : opXo hi = some hi') {len cap : Nat} {l h : Int} (isS : Bool)
    (h1 : idx ρ 0 lo' = some l) (h2 : idx ρ len hi' = some h) (h0 : 0 ≤ l) (hlh : l ≤ h) (hc : h ≤ cap) :
    (Instr.sliceBounds isS len cap (lo.map a.eval) (hi.map a.eval) none).run P w = .ok (l.toNat, h.toNat, cap) w := by
  have hle : l ≤ (h.toNat : Int) := by omega
  rcases opXo_cases hhi with ⟨rfl, rfl⟩ | ⟨y, x, rfl, rfl, hx⟩
  · simp only [idx, Option.some.injEq] at h2; subst h2
    rcases opXo_cases hlo with ⟨rfl, rfl⟩ | ⟨y', x', rfl, rfl, hx'⟩
    · simp only [idx, Option.some.injEq] at h1; subst h1
      simp [Instr.sliceBounds]
    · have := run_bound (P := P) hI hx' h1 len .sliceB h0 (by omega)
      simp [Instr.sliceBounds, this]
  · have hq := run_bound (P := P) hI hx h2 cap (if isS = true then .sliceAcap else .sliceAlen) (by omega) hc
    rcases opXo_cases hlo with ⟨rfl, rfl⟩ | ⟨y', x', rfl, rfl, hx'⟩
    · simp only [idx, Option.some.injEq] at h1; subst h1
      simp [Instr.sliceBounds, hq]
    · have := run_bound (P := P) hI hx' h1 h.toNat .sliceB h0 hle
      simp [Instr.sliceBounds, hq, this]
end
end Go.VL

/- The value logic, part J: slices that are cut, and grown. -/
namespace Go.VL
section
variable {P : Program} {w0 : World} {F : Nat → Prop} {o : Oper} {a : Act} {w : World} {κ : Kx} {ρ : List AV} {σ : St} {nm : Nat} {K : AV → St → Prop}

theorem flat_take {k : Nat} : ∀ {xs : List AV} (n : Nat), xs.all (AV.fits k) = true → (xs.take n).flatMap AV.cells = (xs.flatMap AV.cells).take (n * k)
  | [], n, _ => by simp
  | x :: xs, 0, _ => by simp
  | x :: xs, n + 1, h => by
    simp only [List.all_cons, Bool.and_eq_true] at h
    simp only [List.take_succ_cons, List.flatMap_cons, flat_take n h.2]
    have e : (n + 1) * k = x.cells.length + n * k := by rw [(fits_iff h.1).2.1, Nat.add_mul]; omega
    rw [e, List.take_length_add_append]
theorem flat_drop {k : Nat} : ∀ {xs : List AV} (n : Nat), xs.all (AV.fits k) = true → (xs.drop n).flatMap AV.cells = (xs.flatMap AV.cells).drop (n * k)
  | [], n, _ => by simp
  | x :: xs, 0, _ => by simp
  | x :: xs, n + 1, h => by
    simp only [List.all_cons, Bool.and_eq_true] at h
    simp only [List.drop_succ_cons, List.flatMap_cons, flat_drop n h.2]
    have e : (n + 1) * k = x.cells.length + n * k := by rw [(fits_iff h.1).2.1, Nat.add_mul]; omega
    rw [e, List.drop_length_add_append]

theorem all_take {k : Nat} {xs : List AV} (n : Nat) (h : xs.all (AV.fits k) = true) : (xs.take n).all (AV.fits k) = true :=
  List.all_eq_true.2 fun x hx => List.all_eq_true.1 h x (List.mem_of_mem_take hx)
theorem all_drop {k : Nat} {xs : List AV} (n : Nat) (h : xs.all (AV.fits k) = true) : (xs.drop n).all (AV.fits k) = true :=
  List.all_eq_true.2 fun x hx => List.all_eq_true.1 h x (List.mem_of_mem_drop hx)
theorem all_cl {k : Nat} {xs : List AV} (h : xs.all (AV.fits k) = true) : ∀ x ∈ xs, x.cells.length = k := fun x hx => (fits_iff (List.all_eq_true.1 h x hx)).2.1

theorem Vs.take {b i : Nat} {cs : List AV} (h : Vs κ w b i cs) (n : Nat) : Vs κ w b i (cs.take n) := by
  have : Vs κ w b i (cs.take n ++ cs.drop n) := by rwa [List.take_append_drop]
  exact this.left _

theorem ok_slice (hI : Inv w0 F κ a w ρ σ) {t e : TypeId} {y : Operand} {lo hi : Option Operand} {x : X} {lo' hi' : Option X} {k : Nat} (hop : o.op = .slice t y lo hi none) (hu : P.underlying t = some (.slice e)) (hk : sizeOf' P e = some k)
    (hx : opX y = some x) (hlo : opXo lo = some lo') (hhi : opXo hi = some hi') (h : astep (ACalls P) nm ρ σ K (.slice k x lo' hi')) : Good P w0 F o a w κ σ nm K := by
  have v1 := hI.opX hx
  have hrun : ∀ (A : Option Addr) (n c : Nat) (l hh : Int), a.eval y = .slice A n c → idx ρ 0 lo' = some l → idx ρ n hi' = some hh → 0 ≤ l → l ≤ hh → hh ≤ c →
      (execOp a.eval o).run P w = .ok (.value (.slice (if c = l.toNat then A else A.map (·.add (l.toNat * k))) (hh.toNat - l.toNat) (c - l.toNat))) w := by
    intro A n c l hh e1 h1 h2 h3 h4 h5
    have hb := run_bounds (P := P) hI hlo hhi true (len := n) (cap := c) h1 h2 h3 h4 h5
    have hm : (none : Option Operand).map a.eval = none := rfl
    simp [execOp, hop, e1, Instr.sliceAt, Instr.slice, underlying, hu, hb, run_sizeOf hk]
  simp only [astep] at h
  split at h
  · rename_i xs g hn
    rw [hn] at v1
    split at h
    · rename_i l hh h1 h2
      split at h
      · rename_i hc
        obtain ⟨c0, c1, c2, c3⟩ := hc
        have hlenT : ((xs.drop l.toNat).take (hh - l).toNat).length = hh.toNat - l.toNat := by
          rw [List.length_take, List.length_drop]; omega
        generalize hy : a.eval y = vy at v1
        cases v1 with
        | slnil g hg =>
          have hh0 : hh = 0 := by simp only [List.length_nil] at c2; omega
          have hl0 : l = 0 := by omega
          subst hh0; subst hl0
          refine .value hI (hrun none 0 0 0 0 hy h1 h2 (Int.le_refl _) (Int.le_refl _) (Int.le_refl _)) ?_ h
          rcases hg with rfl | rfl | rfl <;> simp <;> exact .slnil _ (by simp)
        | slz A gz hgz =>
          have hh0 : hh = 0 := by simp only [List.length_nil] at c2; omega
          have hl0 : l = 0 := by omega
          subst hh0; subst hl0
          refine .value hI (hrun (some A) 0 0 0 0 hy h1 h2 (Int.le_refl _) (Int.le_refl _) (Int.le_refl _)) ?_ h
          rcases hgz with rfl | rfl <;> simp <;> exact .slz A _ (by simp)
        | sl b i cap kq xs' hkq hcap hvs =>
          refine .value hI (hrun _ _ _ l hh hy h1 h2 c0 c1 (by omega)) ?_ h
          have hg : (if hh = (xs.length : Int) ∧ (l = 0 ∨ l < hh) then Ver.none else .none) = Ver.none := by split <;> rfl
          rw [hg]
          by_cases hcl : cap = l.toNat
          · have he : (xs.drop l.toNat).take (hh - l).toNat = [] := by
              apply List.eq_nil_of_length_eq_zero; rw [hlenT]; omega
            rw [he, if_pos hcl, show hh.toNat - l.toNat = ([] : List AV).length by simp; omega]
            exact .sl b i _ k [] (by simp) (by simp) (.nil _ _)
          · rw [if_neg hcl, Option.map_some, add_spot, ← hlenT]
            refine .sl b _ _ k _ (fun x hx => all_cl c3 x (List.mem_of_mem_drop (List.mem_of_mem_take hx))) (by rw [hlenT]; omega) ?_
            rw [flat_take _ (all_drop _ c3), flat_drop _ c3]
            refine Vs.take (hvs.drop _ ?_) _
            rw [flat_len c3]; exact Nat.mul_le_mul_right _ (by omega)
        | tip i cap gg xs' hkq hcap hgd he1 he2 hvs =>
          refine .value hI (hrun _ _ _ l hh hy h1 h2 c0 c1 (by omega)) ?_ h
          by_cases hg : hh = (xs.length : Int) ∧ (l = 0 ∨ l < hh)
          · rw [if_pos hg]
            have hkk : l.toNat * k = l.toNat * κ.ξ gg := by
              rcases hg.2 with hz | hz
              · subst hz; simp
              · congr 1
                have : 0 < xs.length := by omega
                obtain ⟨x0, hx0⟩ : ∃ x0, x0 ∈ xs := ⟨xs[0], List.getElem_mem _⟩
                rw [← all_cl c3 x0 hx0, hkq x0 hx0]
            have haddr : (if cap = l.toNat then some (⟨κ.φ gg, i, none⟩ : Addr) else (some (⟨κ.φ gg, i, none⟩ : Addr)).map (·.add (l.toNat * k))) = some ⟨κ.φ gg, i + l.toNat * κ.ξ gg, none⟩ := by
              split
              · rename_i hcl
                have : l.toNat = 0 := by rcases hg.2 with hz | hz <;> omega
                rw [this]; simp
              · rw [Option.map_some, add_spot, hkk]
            rw [haddr, ← hlenT]
            have hl1 : l.toNat ≤ xs.length := by omega
            have hmul : xs.length * κ.ξ gg = l.toNat * κ.ξ gg + (xs.length - l.toNat) * κ.ξ gg := by rw [← Nat.add_mul]; congr 1; omega
            have hmulc : cap * κ.ξ gg = l.toNat * κ.ξ gg + (cap - l.toNat) * κ.ξ gg := by rw [← Nat.add_mul]; congr 1; omega
            refine .tip _ _ gg _ (fun x hx => hkq x (List.mem_of_mem_drop (List.mem_of_mem_take hx))) (by rw [hlenT]; omega) hgd ?_ ?_ ?_
            · rw [hlenT, he1, hmul, show hh.toNat = xs.length by omega]; omega
            · rw [he2, hmulc]; omega
            · rw [flat_take _ (all_drop _ c3), flat_drop _ c3, hkk]
              refine Vs.take (hvs.drop _ ?_) _
              rw [flat_len c3, ← hkk]; exact Nat.mul_le_mul_right _ hl1
          · rw [if_neg hg]
            by_cases hcl : cap = l.toNat
            · have he : (xs.drop l.toNat).take (hh - l).toNat = [] := by
                apply List.eq_nil_of_length_eq_zero; rw [hlenT]; omega
              rw [he, if_pos hcl, show hh.toNat - l.toNat = ([] : List AV).length by simp; omega]
              exact .sl _ i _ k [] (by simp) (by simp) (.nil _ _)
            · rw [if_neg hcl, Option.map_some, add_spot, ← hlenT]
              refine .sl _ _ _ k _ (fun x hx => all_cl c3 x (List.mem_of_mem_drop (List.mem_of_mem_take hx))) (by rw [hlenT]; omega) ?_
              rw [flat_take _ (all_drop _ c3), flat_drop _ c3]
              refine Vs.take (hvs.drop _ ?_) _
              rw [flat_len c3]; exact Nat.mul_le_mul_right _ (by omega)
      · exact h.elim
    · exact h.elim
  · rename_i n off len hn
    rw [hn] at v1
    obtain ⟨cap, e1, hcap, hd⟩ := v1.ref_inv
    split at h
    · rename_i l hh h1 h2
      split at h
      · rename_i hc
        obtain ⟨c0, c1, c2⟩ := hc
        refine .value hI (hrun _ _ _ l hh e1 h1 h2 c0 c1 (by omega)) ?_ h
        by_cases hlh : l = hh
        · rw [if_pos hlh, show hh.toNat - l.toNat = ([] : List AV).length by simp; omega]
          split
          · exact .sl _ off _ k [] (by simp) (by simp) (.nil _ _)
          · rw [Option.map_some, add_spot]; exact .sl _ _ _ k [] (by simp) (by simp) (.nil _ _)
        · rw [if_neg hlh, if_neg (by omega), Option.map_some, add_spot, show (hh - l).toNat = hh.toNat - l.toNat by omega]
          exact .ref n _ _ _ hd (by omega)
      · exact h.elim
    · exact h.elim
  · rename_i g n hn
    rw [hn] at v1
    obtain ⟨o', cap, e1, hd, hcap, hp, hx'⟩ := v1.room_inv
    split at h
    · rename_i l hh h1 h2
      split at h
      · rename_i hc
        obtain ⟨rfl, rfl⟩ := hc
        refine .value hI (hrun _ _ _ 0 0 e1 h1 h2 (Int.le_refl _) (Int.le_refl _) (by omega)) ?_ h
        have ha : (if cap = Int.toNat 0 then some (⟨κ.φ g, o', none⟩ : Addr) else (some (⟨κ.φ g, o', none⟩ : Addr)).map (·.add (Int.toNat 0 * k))) = some ⟨κ.φ g, o', none⟩ := by
          split
          · rfl
          · rw [Option.map_some, add_spot]; simp
        rw [ha]
        exact .tip o' cap g [] (by simp) (Nat.zero_le _) hd (by simpa using hp) hx' (.nil _ _)
      · exact h.elim
    · exact h.elim
  · exact h.elim

theorem ok_sslice (hI : Inv w0 F κ a w ρ σ) {t : TypeId} {y : Operand} {lo hi : Option Operand} {x : X} {lo' hi' : Option X} (hop : o.op = .slice t y lo hi none) (hu : P.underlying t = some .string)
    (hx : opX y = some x) (hlo : opXo lo = some lo') (hhi : opXo hi = some hi') (h : astep (ACalls P) nm ρ σ K (.sslice x lo' hi')) : Good P w0 F o a w κ σ nm K := by
  have v1 := hI.opX hx
  simp only [astep] at h
  split at h
  · rename_i s hn
    rw [hn] at v1
    split at h
    · rename_i l hh h1 h2
      split at h
      · rename_i hc
        obtain ⟨c0, c1, c2⟩ := hc
        have hb := run_bounds (P := P) hI hlo hhi false (len := s.size) (cap := s.size) h1 h2 c0 c1 c2
        refine .value hI (v := .string (s.extract l.toNat hh.toNat)) ?_ (.str _) h
        simp [execOp, hop, v1.str_inv, Instr.sliceAt, Instr.slice, underlying, hu, hb]
      · exact h.elim
    · exact h.elim
  · exact h.elim

theorem ok_idxS (hI : Inv w0 F κ a w ρ σ) {t : TypeId} {y z : Operand} {x x' : X} (hop : o.op = .index t y z) (hu : P.underlying t = some .string) (hx : opX y = some x) (hx' : opX z = some x')
    (h : astep (ACalls P) nm ρ σ K (.idxS x x')) : Good P w0 F o a w κ σ nm K := by
  have v1 := hI.opX hx
  have v2 := hI.opX hx'
  simp only [astep] at h
  split at h
  · rename_i s k n h1 h2
    rw [h1] at v1; rw [h2] at v2
    split at h
    · rename_i hb
      split at h
      · rename_i b hbb
        refine .value hI (v := .int .u8 b.toNat) ?_ (.int _ _) h
        have hlt : n.toNat < s.size := by omega
        have hs : s[n.toNat]? = some b := by
          have hd : s.data[n.toNat]? = some b := by simpa using hbb
          rw [← hd]
          obtain ⟨d⟩ := s
          rfl
        simp [execOp, hop, v1.str_inv, v2.int_inv, Instr.index, asIntOf, underlying, hu, hb.1, hs]
      · exact h.elim
    · exact h.elim
  · exact h.elim
end
end Go.VL

/- The value logic, part K: append. -/
namespace Go.VL
section
variable {P : Program} {w0 : World} {F : Nat → Prop} {o : Oper} {a : Act} {w : World} {κ : Kx} {ρ : List AV} {σ : St} {nm : Nat} {K : AV → St → Prop}

theorem er_len' (x : AV) : x.er.cells.length = x.cells.length := by cases x <;> simp [AV.er, AV.er1, AV.cells]
theorem er_cells' (x : AV) : x.er.cells = x.cells.map AV.er1 := by cases x <;> simp [AV.er, AV.er1, AV.cells]

/-- a slice's cells, read -/
theorem run_first {xs : List AV} {g : Ver} {v : Value} {k : Nat} (hv : V κ w v (.sl xs g)) (hk : ∀ x ∈ xs, x.cells.length = k) :
    ∃ us, (∀ q, (Builtin.firstCells k xs.length v).run P { w with drawn := q } = .ok ⟨us⟩ { w with drawn := q }) ∧ Vl κ w us (xs.flatMap AV.cells) ∧ (∀ q, (Builtin.lenOf v).run P { w with drawn := q } = .ok xs.length { w with drawn := q }) := by
  have hfl : ∀ {l : List AV}, (∀ x ∈ l, x.cells.length = k) → (l.flatMap AV.cells).length = l.length * k := by
    intro l
    induction l with
    | nil => intro _; simp
    | cons p r ih => intro hh; simp only [List.flatMap_cons, List.length_append, List.length_cons, Nat.add_mul, ih (fun x hx => hh x (List.mem_cons_of_mem _ hx)), hh p (List.mem_cons_self ..)]; omega
  rcases hv.sl_inv with ⟨base, rfl, rfl⟩ | ⟨b, i, cap, kq, rfl, _, _, h3⟩
  · refine ⟨[], fun q => ?_, .nil, fun q => by simp [Builtin.lenOf]⟩
    cases base with
    | none => simp [Builtin.firstCells]
    | some a =>
      have hr := run_loadCells_list (P := P) (w := { w with drawn := q }) a [] (fun j v hj => by simp at hj)
      simp at hr
      simp [Builtin.firstCells, hr]
  · obtain ⟨us, g1, g2, g3⟩ := h3.row
    refine ⟨us, fun q => ?_, g1, fun q => by simp [Builtin.lenOf]⟩
    have hr := run_loadCells_list (P := P) (w := { w with drawn := q }) ⟨b, i, none⟩ us (fun j v hj => by rw [add_spot]; exact g3 j v hj)
    rw [g2, hfl hk] at hr
    simp [Builtin.firstCells, hr]

theorem bytes_all (s : List UInt8) : (bytesAV s).all (AV.fits 1) = true := by
  simp [bytesAV, AV.fits, AV.isAny, AV.cells, AV.one]
theorem bytes_flat : ∀ (s : List UInt8), (bytesAV s).flatMap AV.cells = bytesAV s
  | [] => rfl
  | _ :: r => by
    have := bytes_flat r
    simp only [bytesAV, List.map_cons, List.flatMap_cons] at this ⊢
    rw [this]; rfl
theorem Vl.bytes : ∀ (s : List UInt8), Vl κ w (s.map fun b => Value.int .u8 b.toNat) (bytesAV s)
  | [] => .nil
  | _ :: r => .cons _ _ _ _ (.int _ _) (Vl.bytes r)

theorem growBy_le (need : Nat) : ∀ (r c : Nat), c ≤ 2 * need → 256 ≤ need → Builtin.growBy need r c ≤ 2 * need
  | 0, c, h, _ => h
  | r + 1, c, h, h2 => by
    simp only [Builtin.growBy]
    split
    · exact h
    · exact growBy_le need r _ (by omega) h2
theorem next_le {need cap : Nat} (h : cap < need) : Builtin.nextslicecap need cap ≤ 2 * need := by
  unfold Builtin.nextslicecap
  split
  · omega
  · split
    · omega
    · exact growBy_le _ _ _ (by omega) (by omega)

theorem mul_two {n b : Nat} (h : n * b ≤ 70368744177664) : 2 * n * b ≤ 2 ^ 48 := by
  rw [Nat.mul_assoc]
  omega

theorem zeroCells_len (z : Array Value) (n : Nat) : (Builtin.zeroCells z n).toList.length = n * z.size := by simp [Builtin.zeroCells]

/-- the run of an append whose appended cells are known -/
theorem run_append_room {ti : TypeInfo} {t u e : TypeId} {ty : TypeId} {s x : Value} {base : Option Addr} {n cap m : Nat} {ys : List Value} {d : TypeDesc} (hu : P.underlying t = some (.slice e)) (hd : P.underlying u = some d) (hdi : ∀ k, d ≠ .int k)
    (hi : P.info? e = some ti) (hs : s = .slice base n cap) (hl : (Builtin.lenOf x).run P w = .ok m w) (hf : (Builtin.firstCells ti.size m x).run P w = .ok ⟨ys⟩ w) (hroom : n + m ≤ cap) {w' : World}
    (hst : ∀ b, base = some b → (storeCells (b.add (n * ti.size)) ys).run P w = .ok () w') (hno : base = none → w' = w) :
    (Builtin.append_ ⟨[t, u]⟩ ty ⟨[s, x]⟩).run P w = .ok (.slice base (n + m) cap) w' := by
  subst hs
  have hsz : (sizeOf e).run P w = .ok ti.size w := by simp [sizeOf, typeInfo, hi]
  cases base with
  | none =>
    have := hno rfl
    subst this
    simp [Builtin.append_, underlying, hu, hsz, hd, hl, hf, hroom]
  | some b =>
    have := hst b rfl
    simp [Builtin.append_, underlying, hu, hsz, hd, hl, hf, hroom, this]

theorem run_append_grow {ti : TypeInfo} {t u e : TypeId} {ty : TypeId} {s x z : Value} {base : Option Addr} {n cap m : Nat} {ys os : List Value} {d : TypeDesc} (hu : P.underlying t = some (.slice e)) (hd : P.underlying u = some d) (hdi : ∀ k, d ≠ .int k)
    (hi : P.info? e = some ti) (hz : ti.zero = some z) (hzs : z.cells.size = ti.size) (hs : s = .slice base n cap)
    (hl : ∀ q, (Builtin.lenOf x).run P { w with drawn := q } = .ok m { w with drawn := q }) (hf : ∀ q, (Builtin.firstCells ti.size m x).run P { w with drawn := q } = .ok ⟨ys⟩ { w with drawn := q })
    (ho : ∀ q, (Builtin.firstCells ti.size n s).run P { w with drawn := q } = .ok ⟨os⟩ { w with drawn := q })
    (hroom : cap < n + m) (hb : (n + m) * ti.bytes ≤ 70368744177664) (hb0 : 0 < ti.bytes) :
    ∃ (q c : Nat) (rest : List Value), n + m ≤ c ∧ rest.length = (c - (n + m)) * ti.size ∧
      (Builtin.append_ ⟨[t, u]⟩ ty ⟨[s, x]⟩).run P w = .ok (.slice (some ⟨w.heap.size, 0, none⟩) (n + m) c) (({ w with drawn := q } : World).alloc (.cells ⟨os ++ ys ++ rest⟩ e)) := by
  have hsz : ∀ q, (sizeOf e).run P { w with drawn := q } = .ok ti.size { w with drawn := q } := fun q => by simp [sizeOf, typeInfo, hi]
  have hw : ({ w with drawn := w.drawn } : World) = w := rfl
  have hl0 := hl w.drawn
  have hs0 := hsz w.drawn
  rw [hw] at hl0 hs0
  have hcut : ∀ T, n + m ≤ (Question.appendCap (n + m) cap e).cut T := fun T => by simp [Question.cut]
  have hnr : ¬ (n + m ≤ cap) := by omega
  have hb1 : ¬ (Builtin.nextslicecap (n + m) cap * ti.bytes > 2 ^ 48) := by
    have h1 := next_le hroom
    have h2 := mul_two hb
    have h3 := Nat.mul_le_mul_right ti.bytes h1
    omega
  have hti : (typeInfo e).run P w = .ok ti w := by simp [typeInfo, hi]
  have hbz : ¬ (ti.bytes = 0) := by omega
  refine ⟨w.drawn + 1, (Question.appendCap (n + m) cap e).cut (w.tape w.drawn (.appendCap (n + m) cap e)), (Builtin.zeroCells z.cells ((Question.appendCap (n + m) cap e).cut (w.tape w.drawn (.appendCap (n + m) cap e)) - (n + m))).toList, hcut _, ?_, ?_⟩
  · rw [zeroCells_len, hzs]
  · subst hs
    have hf1 : (Builtin.firstCells ti.size m x).run P w.drew = .ok ⟨ys⟩ w.drew := hf (w.drawn + 1)
    have ho1 : (Builtin.firstCells ti.size n (.slice base n cap)).run P w.drew = .ok ⟨os⟩ w.drew := ho (w.drawn + 1)
    generalize hC : (Question.appendCap (n + m) cap e).cut (w.tape w.drawn (.appendCap (n + m) cap e)) = C at *
    have hzv : (zeroValue e).run P w.drew = .ok z w.drew := by simp [zeroValue, typeInfo, hi, hz]
    have hti1 : (typeInfo e).run P w.drew = .ok ti w.drew := by simp [typeInfo, hi]
    simp [Builtin.append_, underlying, hu, hs0, hd, hl0, hnr, hti, hbz, hb1, Question.forced, hC, hti1, ho1, hf1, hzv, newRow]
    have he : ∀ A : Array Value, ((⟨os⟩ : Array Value) ++ ((⟨ys⟩ : Array Value) ++ A)) = ⟨os ++ (ys ++ A.toList)⟩ := fun A => by apply Array.ext'; simp
    rw [he]

theorem R.del {B : Nat} (h : R B F κ w σ) (n : Nat) : R B F κ w (σ.del n) :=
  h.step (.refl _ _) h.dom h.imm fun m r hm => by
    by_cases hx : m = n
    · subst hx; simp [St.del] at hm
    · have : (σ.del n).res m = σ.res m := by simp [St.del, hx]
      exact .inl ⟨by rw [← this]; exact hm, rfl, fun _ x => x⟩

theorem St.del_res (σ : St) {n m : Nat} {r : Res} (h : (σ.del n).res m = some r) : m ≠ n ∧ σ.res m = some r := by
  by_cases hx : m = n
  · subst hx; simp [St.del] at h
  · exact ⟨hx, by simpa [St.del, hx] using h⟩

theorem flat_er' : ∀ (xs : List AV), (xs.map AV.er).flatMap AV.cells = (xs.flatMap AV.cells).map AV.er1
  | [] => rfl
  | x :: xs => by simp only [List.map_cons, List.flatMap_cons, List.map_append, er_cells', flat_er' xs]

theorem one_cells {x : AV} (h : x.one = true) : x.er1.cells = [x.er1] := by
  cases x <;> first | rfl | (simp [AV.one] at h)
theorem ones_flat : ∀ {cs : List AV}, cs.all AV.one = true → (cs.map AV.er1).flatMap AV.cells = cs.map AV.er1
  | [], _ => rfl
  | x :: r, h => by
    simp only [List.all_cons, Bool.and_eq_true] at h
    simp only [List.map_cons, List.flatMap_cons, one_cells h.1, ones_flat h.2, List.cons_append, List.nil_append]

/-- what is read of an owned row of single cells -/
theorem ref_ok {B : Nat} {F : Nat → Prop} (hR : R B F κ w σ) {v : Value} {n off len : Nat} {cs : List AV} (hv : V κ w v (.ref n off len)) (hr : σ.res n = some (.obj cs)) (hle : off + len ≤ cs.length) (hone : ((cs.drop off).take len).all AV.one = true) :
    ∃ us, (∀ m q, m ≤ len → (Builtin.firstCells 1 m v).run P { w with drawn := q } = .ok ⟨us.take m⟩ { w with drawn := q }) ∧ Vl κ w us ((((cs.drop off).take len).map AV.er1).flatMap AV.cells) ∧ us.length = len ∧ (∀ q, (Builtin.lenOf v).run P { w with drawn := q } = .ok len { w with drawn := q }) := by
  obtain ⟨cap, rfl, _, hd⟩ := hv.ref_inv
  obtain ⟨us, q1, q2⟩ := Row.of_own (hR.own n _ hr).2
  have hl := q1.length
  have hlu : ((us.drop off).take len).length = len := by rw [List.length_take, List.length_drop]; omega
  refine ⟨(us.drop off).take len, fun m q hm => ?_, by rw [ones_flat hone]; exact ((q1.drop off).take len).er1, hlu, fun q => by simp [Builtin.lenOf]⟩
  have hrr := run_loadCells_list (P := P) (w := { w with drawn := q }) ⟨κ.φ n, off, none⟩ (((us.drop off).take len).take m) (fun j v hj => by
    rw [add_spot]
    have h0 := q2 (off + j) v (by
      rw [List.getElem?_take] at hj
      split at hj
      · rw [List.getElem?_take] at hj
        split at hj
        · simpa using hj
        · cases hj
      · cases hj)
    rw [Nat.zero_add] at h0; exact h0)
  rw [List.length_take, hlu, Nat.min_eq_left hm] at hrr
  simpa [Builtin.firstCells] using hrr

theorem src_ok {B : Nat} {F : Nat → Prop} (hR : R B F κ w σ) {v : Value} {x : AV} {ys : List AV} {k : Nat} (hv : V κ w v x) (hs : srcOf σ k x = some ys) (hk : ∀ y ∈ ys, y.cells.length = k) :
    ∃ us, (∀ q, (Builtin.firstCells k ys.length v).run P { w with drawn := q } = .ok ⟨us⟩ { w with drawn := q }) ∧ Vl κ w us (ys.flatMap AV.cells) ∧ (∀ q, (Builtin.lenOf v).run P { w with drawn := q } = .ok ys.length { w with drawn := q }) := by
  unfold srcOf at hs
  split at hs
  · rename_i zs g
    simp only [Option.some.injEq] at hs; subst hs
    obtain ⟨us, h1, h2, h3⟩ := run_first (P := P) (k := k) hv (fun z hz => by rw [← er_len' z]; exact hk _ (List.mem_map_of_mem hz))
    refine ⟨us, fun q => by rw [List.length_map]; exact h1 q, ?_, fun q => by rw [List.length_map]; exact h3 q⟩
    rw [flat_er']; exact h2.er1
  · rename_i s
    simp only [Option.some.injEq] at hs; subst hs
    have := hv.str_inv
    subst this
    refine ⟨s.data.toList.map fun b => Value.int .u8 b.toNat, fun q => ?_, by rw [bytes_flat]; exact Vl.bytes _, fun q => ?_⟩
    · have he : s.extract 0 (bytesAV s.data.toList).length = s := by
        obtain ⟨d⟩ := s
        simp [bytesAV, ByteArray.extract, ByteArray.copySlice]
      simp only [Builtin.firstCells, he, Sem.run_pure]
      congr 1
      apply Array.ext'
      simp
    · simp [bytesAV, Builtin.lenOf]
  · rename_i n off len
    split at hs
    · rename_i cs hr
      split at hs
      · rename_i hc
        obtain ⟨rfl, hle, hone⟩ := hc
        simp only [Option.some.injEq] at hs; subst hs
        obtain ⟨us, h1, h2, h3, h4⟩ := ref_ok (P := P) hR hv hr hle hone
        have hl : (((cs.drop off).take len).map AV.er1).length = len := by rw [List.length_map, List.length_take, List.length_drop]; omega
        refine ⟨us, fun q => ?_, h2, fun q => by rw [hl]; exact h4 q⟩
        have := h1 len q (Nat.le_refl _)
        rw [List.take_of_length_le (by omega)] at this
        rw [hl]; exact this
      · cases hs
    · cases hs
  · cases hs

theorem grow_ok (hI : Inv w0 F κ a w ρ σ) (hn : ¬ κ.dom nm) (hlt : nm < σ.next) {σ' : St} (hR : R w0.heap.size F κ w σ') (hnx : σ'.next = σ.next) {k : Nat} {xs : List AV} (hk : xs.all (AV.fits k) = true) {us rest : List Value} {t : TypeId} {n c q : Nat}
    (hv : Vl κ w us (xs.flatMap AV.cells)) (hle : n ≤ c) (hn' : n = xs.length) (hrl : rest.length = (c - n) * k) (hK : K (.sl xs (.tip nm)) (σ'.set nm (.tip k)))
    (hrun : (execOp a.eval o).run P w = .ok (.value (.slice (some ⟨w.heap.size, 0, none⟩) n c)) (({ w with drawn := q } : World).alloc (.cells ⟨us ++ rest⟩ t))) : Good P w0 F o a w κ σ nm K := by
  subst hn'
  have e1 : Ext κ w κ { w with drawn := q } := ⟨fun _ _ x => x, fun _ _ => rfl, fun _ _ => rfl, fun _ _ => rfl, fun _ _ => rfl, fun _ x => x, fun _ _ _ => rfl⟩
  have hr1 : R w0.heap.size F κ { w with drawn := q } σ' := hR.step e1 hR.dom hR.imm (fun n r hr => .inl ⟨hr, rfl, fun _ x => x⟩)
  have hf1 : Fr F w0 { w with drawn := q } := hI.fr.drawn q
  have hv1 : Vl κ { w with drawn := q } us (xs.flatMap AV.cells) := hv.mono e1
  have hlen : us.length = xs.length * k := by rw [hv.length]; exact flat_len hk
  have htot : c * k = us.length + rest.length := by rw [hlen, hrl, ← Nat.add_mul]; congr 1; omega
  obtain ⟨e, hr⟩ := hr1.new_tip hf1.size hn (by rw [hnx]; exact hlt) (us ++ rest) t (0, 0) (.inl rfl) us.length (c * k) k (by rw [htot, List.length_append]; exact Nat.le_refl _)
  refine .value' (κ' := (κ.imms w.heap.size us.length).mark nm w.heap.size us.length (c * k) k) ⟨e1.trans e, fun n hd => hd.imp id .inl, hr, hf1.alloc _, by simp [hnx]⟩ hrun ?_ hK
  have := V.tip (κ := (κ.imms w.heap.size us.length).mark nm w.heap.size us.length (c * k) k) (w := (({ w with drawn := q } : World).alloc (.cells ⟨us ++ rest⟩ t))) 0 c nm xs (by simpa [Kx.mark] using all_cl hk)
    hle (.inr rfl) (by simp [Kx.mark, hlen]) (by simp [Kx.mark])
    (Vs.mk (hv1.mono e) (fun i u hu => ⟨.inr ⟨by simp [Kx.mark], by simpa using (List.getElem?_eq_some_iff.1 hu).1⟩, by
      have hi : i < us.length := (List.getElem?_eq_some_iff.1 hu).1
      simp only [Kx.mark, if_true]
      rw [cell_of (heap_alloc_new ({ w with drawn := q } : World) _), Nat.zero_add, List.getElem?_append_left hi]
      exact hu⟩))
  simpa [Kx.mark] using this

theorem room_ok (hI : Inv w0 F κ a w ρ σ) (hn : ¬ κ.dom nm) (hlt : nm < σ.next) {h k i cap : Nat} {xs ys : List AV} (hk : (xs ++ ys).all (AV.fits k) = true) (hr : σ.res h = some (.tip k)) (hkq : ∀ x ∈ xs, x.cells.length = κ.ξ h) 
    (he1 : κ.ψ h = i + xs.length * κ.ξ h) (he2 : κ.χ h = i + cap * κ.ξ h) (hvs : Vs κ w (κ.φ h) i (xs.flatMap AV.cells)) (hroom : xs.length + ys.length ≤ cap) {us : List Value} (hv : Vl κ w us (ys.flatMap AV.cells))
    (hK : K (.sl (xs ++ ys) (.tip nm)) ((σ.del h).set nm (.tip k)))
    (hrun : ∀ w', (storeCells ((⟨κ.φ h, i, none⟩ : Addr).add (xs.length * k)) us).run P w = .ok () w' → (execOp a.eval o).run P w = .ok (.value (.slice (some ⟨κ.φ h, i, none⟩) (xs.length + ys.length) cap)) w') : Good P w0 F o a w κ σ nm K := by
  obtain ⟨hdom, hxi, bs, t, fz, g1, g2, g3, g4⟩ := hI.r.own h _ hr
  rw [List.all_append, Bool.and_eq_true] at hk
  have hlen : us.length = ys.length * k := by rw [hv.length]; exact flat_len hk.2
  rw [hxi] at he1 he2 hkq
  have hone : ∀ u ∈ us, u.oneCell' = true := by
    refine hv.ones (List.all_eq_true.2 fun x hx => ?_)
    obtain ⟨y, hy, hxy⟩ := List.mem_flatMap.1 hx
    exact List.all_eq_true.1 (fits_iff (List.all_eq_true.1 hk.2 y hy)).2.2 x hxy
  have hmul : (xs.length + ys.length) * k ≤ cap * k := Nat.mul_le_mul_right _ hroom
  rw [Nat.add_mul] at hmul
  obtain ⟨w', r1, r2, r3⟩ := run_storeCells (P := P) us (κ.ψ h) w bs g1 g2 (by omega) (Nat.le_refl _) hone (κ.ψ h) 0 rfl
  have hrr := hrun w' (by rw [add_spot, ← he1]; exact r1)
  let κ' : Kx := ({ κ with I := fun b o => κ.I b o ∨ (b = κ.φ h ∧ κ.ψ h ≤ o ∧ o < κ.ψ h + us.length) } : Kx).mark nm (κ.φ h) (κ.ψ h + us.length) (κ.χ h) k
  have hcell : ∀ b j, κ.I b j → w'.cell? ⟨b, j, none⟩ = w.cell? ⟨b, j, none⟩ := by
    intro b j hj
    by_cases hb : b = κ.φ h
    · subst hb
      have hlt' : j < κ.ψ h := by
        rcases Nat.lt_or_ge j (κ.ψ h) with hx | hx
        · exact hx
        · exact absurd hj (g4 j hx)
      rw [cell_of r2, cell_of g1, List.append_assoc, List.getElem?_append_left (by rw [List.length_take]; omega), List.getElem?_take, if_pos hlt']
    · exact cell_same (r3.block b hb) j
  have e : Ext κ w κ' w' := by
    have e1 : Ext κ w ({ κ with I := fun b o => κ.I b o ∨ (b = κ.φ h ∧ κ.ψ h ≤ o ∧ o < κ.ψ h + us.length) } : Kx) w' :=
      ⟨fun _ _ x => .inl x, fun _ _ => rfl, fun _ _ => rfl, fun _ _ => rfl, fun _ _ => rfl, fun _ x => x, hcell⟩
    exact e1.trans (.mark (κ := { κ with I := fun b o => κ.I b o ∨ (b = κ.φ h ∧ κ.ψ h ≤ o ∧ o < κ.ψ h + us.length) }) hn (fun _ _ _ => rfl))
  have hnew : ∀ j u, us[j]? = some u → w'.cell? ⟨κ.φ h, κ.ψ h + j, none⟩ = some u := by
    intro j u hu
    have hj : j < us.length := (List.getElem?_eq_some_iff.1 hu).1
    rw [cell_of r2, List.append_assoc, List.getElem?_append_right (by rw [List.length_take]; omega), List.length_take, Nat.min_eq_left (by omega), List.getElem?_append_left (by omega)]
    rw [show κ.ψ h + j - κ.ψ h = j by omega]; exact hu
  have hR' : R w0.heap.size F κ' w' ((σ.del h).set nm (.tip k)) := by
    refine hI.r.step e (fun n hd => ?_) (fun b j hj => ?_) (fun n r hnr => ?_)
    · rcases hd with hd | rfl
      · exact hI.r.dom n hd
      · exact hlt
    · rw [r3.size]
      rcases hj with hj | ⟨rfl, _⟩
      · exact hI.r.imm b j hj
      · exact hI.r.lt hr
    · by_cases hx : n = nm
      · subst hx
        simp only [St.set_same, Option.some.injEq] at hnr
        subst hnr
        refine .inr ⟨.inr rfl, ⟨by simp [κ', Kx.mark], _, t, fz, by simp only [κ', Kx.mark, if_true]; exact r2, ?_, ?_, fun j hp hj => ?_⟩, ?_, fun m s hm hmm => ?_⟩
        · refine g2.imp id (fun hx => Nat.le_trans ?_ hx)
          simp only [List.length_append, List.length_take, List.length_drop]
          omega
        · simp only [κ', Kx.mark, if_true, List.length_append, List.length_take, List.length_drop]; omega
        · simp only [κ', Kx.mark, if_true] at hp hj
          rcases hj with hj | hj
          · exact g4 j (by omega) hj
          · omega
        · simp only [κ', Kx.mark, if_true]; exact hI.r.foot h _ hr
        · by_cases hy : m = n
          · exact hy.symm
          · rw [St.set_other _ _ hy] at hm
            obtain ⟨hmh, hm'⟩ := St.del_res σ hm
            simp only [κ', Kx.mark, if_true, hy, if_false] at hmm
            exact absurd (hI.r.apart _ _ _ _ hr hm' hmm).symm hmh
      · rw [St.set_other _ _ hx] at hnr
        obtain ⟨hnh, hnr'⟩ := St.del_res σ hnr
        have hne : κ.φ n ≠ κ.φ h := fun hy => hnh (hI.r.apart _ _ _ _ hnr' hr hy)
        refine .inl ⟨hnr', r3.block _ hne, fun j hj => ?_⟩
        rcases hj with hj | ⟨hj, _⟩
        · exact hj
        · exact absurd hj hne
  refine .value' (κ' := κ') ⟨e, fun n hd => hd.imp id .inl, hR', hI.fr.owned hI.r rfl hr r3.os r3.tape r3.output r3.size r3.block, Nat.le_refl _⟩ hrr ?_ hK
  have := V.tip (κ := κ') (w := w') i cap nm (xs ++ ys) (fun x hx => ?_) (by rw [List.length_append]; exact hroom) (.inr rfl) ?_ ?_ ?_
  · simpa [κ', Kx.mark] using this
  · simp only [κ', Kx.mark, if_true]
    rcases List.mem_append.1 hx with hx | hx
    · exact hkq x hx
    · exact all_cl hk.2 x hx
  · simp only [κ', Kx.mark, if_true, List.length_append, Nat.add_mul]; omega
  · simp only [κ', Kx.mark, if_true]; exact he2
  · simp only [κ', Kx.mark, if_true]
    rw [List.flatMap_append]
    have hold := Vs.mono e hvs
    refine Vs.append (by simpa [κ', Kx.mark] using hold) ?_
    rw [flat_len hk.1, ← he1]
    exact Vs.mk (hv.mono e) (fun j u hu => ⟨.inr ⟨rfl, by omega, by have := (List.getElem?_eq_some_iff.1 hu).1; omega⟩, hnew j u hu⟩)

theorem own_ok (hI : Inv w0 F κ a w ρ σ) (hn : ¬ κ.dom nm) (hlt : nm < σ.next) {k : Nat} {xs : List AV} (hk : xs.all (AV.fits k) = true) {us rest : List Value} {t : TypeId} {n c q : Nat}
    (hv : Vl κ w us (xs.flatMap AV.cells)) (hle : n ≤ c) (hn' : n = xs.length) (hrl : rest.length = (c - n) * k) {hd : Hold} (hK : (hd = .own ∧ K (.ref nm 0 xs.length) (σ.set nm (.obj (xs.flatMap AV.cells)))) ∨ (hd = .room ∧ K (.room nm xs.length) (σ.set nm (.tip k))))
    (hrun : (execOp a.eval o).run P w = .ok (.value (.slice (some ⟨w.heap.size, 0, none⟩) n c)) (({ w with drawn := q } : World).alloc (.cells ⟨us ++ rest⟩ t))) : Good P w0 F o a w κ σ nm K := by
  refine held_ok (us := us) (rest := rest) (t := t) (fz := (0, 0)) (cap := c) (n := n) (k := k) (xs := xs) (hd := hd) hI (fun _ _ => ⟨hn, hlt⟩) hk hv ?_ (by omega) (fun _ => .inl rfl) (.inl rfl) hn' ?_ ⟨{ w with drawn := q }, rfl, rfl, rfl, rfl, hrun⟩
  · have hlen : us.length = xs.length * k := by rw [hv.length]; exact flat_len hk
    rw [hlen, hrl, ← Nat.add_mul, hn']
    exact Nat.mul_le_mul_right _ (by omega)
  · rcases hK with ⟨rfl, hK⟩ | ⟨rfl, hK⟩
    · exact hK
    · exact hK

theorem ok_app (hI : Inv w0 F κ a w ρ σ) (hn : ¬ κ.dom nm) (hlt : nm < σ.next) {c : Call} {y z : Operand} {x x' : X} {t u e : TypeId} {ti : TypeInfo} {d : TypeDesc} (hop : o.op = .call c) (hc : c.callee = .builtin .append)
    (ha : c.args.toList = [y, z]) (ht : c.argTypes.toList = [t, u]) (hu : P.underlying t = some (.slice e)) (hd : P.underlying u = some d) (hdi : ∀ k, d ≠ .int k) (hi : P.info? e = some ti) (hbz : 0 < ti.bytes) (hzl : zlen P e = some ti.size)
    (hx : opX y = some x) (hx' : opX z = some x') {hd0 : Hold} (h : astep (ACalls P) nm ρ σ K (.app ti.size ti.bytes hd0 x x')) : Good P w0 F o a w κ σ nm K := by
  have v1 := hI.opX hx
  have v2 := hI.opX hx'
  obtain ⟨zz, hzz, hzl'⟩ : ∃ zz, zeroOf P e = some zz ∧ zz.cells.length = ti.size := by
    unfold zlen at hzl; rw [Option.map_eq_some_iff] at hzl; exact hzl
  obtain ⟨ti', zv, hi', hz2, hz3⟩ := zeroOf_ok hzz
  rw [hi] at hi'; simp only [Option.some.injEq] at hi'; subst hi'
  have hzs : zv.cells.size = ti.size := by
    have := ((constV_ok (κ := κ) (w := w) hz3).cells (constV_ne hz3)).length
    rw [hzl'] at this; simpa using this
  simp only [astep] at h
  split at h
  · rename_i xs g hsx
    rw [hsx] at v1
    split at h
    · rename_i ys hys
      split at h
      · rename_i hcond
        simp only [Bool.and_eq_true, decide_eq_true_eq] at hcond
        obtain ⟨hall, hb, hsm⟩ := hcond
        have hall' := hall
        rw [List.all_append, Bool.and_eq_true] at hall'
        obtain ⟨us, f1, f2, f3⟩ := src_ok (P := P) hI.r v2 hys (all_cl hall'.2)
        obtain ⟨us0, o1, o2, _⟩ := run_first (P := P) v1 (all_cl hall'.1)
        have hrunB : ∀ {v : Value} {w' : World}, (Builtin.append_ ⟨[t, u]⟩ o.type ⟨[a.eval y, a.eval z]⟩).run P w = .ok v w' → (execOp a.eval o).run P w = .ok (.value v) w' := by
          intro v w' hr
          refine call_builtin hop hc ha ht (fun cs => ?_)
          simp only [builtin, List.map_cons, List.map_nil, Sem.run_bind, hr, Result.andThen_ok, Sem.run_pure]
        generalize hy : a.eval y = vy at v1
        -- out of nothing
        have hnew : ∀ (A : Option Addr) (g0 : Ver), (∀ gg, g0 ≠ .tip gg) → vy = .slice A 0 0 → V κ w vy (.sl [] g0) → xs = [] →
            (ys = [] → K (.sl [] g0) σ) → (ys ≠ [] → (K (.sl ys (.tip nm)) (σ.set nm (.tip ti.size)) ∨ ∃ hd : Hold, (hd = .own ∧ K (.ref nm 0 ys.length) (σ.set nm (.obj (ys.flatMap AV.cells)))) ∨ (hd = .room ∧ K (.room nm ys.length) (σ.set nm (.tip ti.size))))) → Good P w0 F o a w κ σ nm K := by
          intro A g0 _ hvy hV hxs hK1 hK2
          subst hxs
          have hy2 : a.eval y = .slice A 0 0 := by rw [hy, hvy]
          by_cases hye : ys = []
          · subst hye
            have hus : us = [] := by have := f2.length; simpa using this
            subst hus
            have hr := run_append_room (P := P) (w := w) (ty := o.type) (s := a.eval y) (x := a.eval z) (base := A) (n := 0) (cap := 0) (m := 0) (ys := []) (w' := w) hu hd hdi hi hy2 (f3 w.drawn) (f1 w.drawn) (Nat.le_refl _) (fun b _ => by simp [storeCells]) (fun _ => rfl)
            exact .value hI (hrunB hr) (by rw [← hvy]; exact hV) (hK1 rfl)
          · have hpos : 0 < ys.length := by cases ys <;> simp_all
            obtain ⟨q, cc, rest, p1, p2, p3⟩ := run_append_grow (P := P) (w := w) (ty := o.type) (s := a.eval y) (x := a.eval z) (base := A) (n := 0) (cap := 0) (m := ys.length) (ys := us) (os := us0) hu hd hdi hi hz2 hzs hy2 f3 f1 o1
              (by omega) (by simpa using hb) hbz
            have : us0 = [] := by have := o2.length; simpa using this
            subst this
            rcases hK2 hye with hK2 | ⟨hdx, hK2⟩
            · refine grow_ok hI hn hlt hI.r rfl (k := ti.size) (xs := ys) hall'.2 (us := us) (rest := rest) (t := e) (n := 0 + ys.length) (c := cc) (q := q) f2 p1 (by simp) p2 hK2 (hrunB ?_)
              simpa using p3
            · refine own_ok hI hn hlt (k := ti.size) (xs := ys) hall'.2 (us := us) (rest := rest) (t := e) (n := 0 + ys.length) (c := cc) (q := q) f2 p1 (by simp) p2 hK2 (hrunB ?_)
              simpa using p3
        have hsplit : ∀ {g0 : Ver}, xs = [] → (match (generalizing := false) hd0 with
            | .own => if ys.isEmpty then K (.sl [] g0) σ else K (.ref nm 0 ys.length) (σ.set nm (.obj (ys.flatMap AV.cells)))
            | .room => if ys.isEmpty then K (.sl [] g0) σ else K (.room nm ys.length) (σ.set nm (.tip ti.size))
            | _ => K (.sl (xs ++ ys) (if ys.isEmpty then g0 else .tip nm)) (if ys.isEmpty then σ else σ.set nm (.tip ti.size))) →
            (ys = [] → K (.sl [] g0) σ) ∧ (ys ≠ [] → (K (.sl ys (.tip nm)) (σ.set nm (.tip ti.size)) ∨ ∃ hd : Hold, (hd = .own ∧ K (.ref nm 0 ys.length) (σ.set nm (.obj (ys.flatMap AV.cells)))) ∨ (hd = .room ∧ K (.room nm ys.length) (σ.set nm (.tip ti.size))))) := by
          intro g0 hxs hh
          subst hxs
          refine ⟨fun hy => ?_, fun hy => ?_⟩
          · subst hy
            cases hd0 <;> simpa using hh
          · have hemp : ys.isEmpty = false := by cases ys <;> simp_all
            simp only [hemp, Bool.false_eq_true, if_false, List.nil_append] at hh
            cases hd0
            · exact .inl hh
            · exact .inl hh
            · exact .inr ⟨.own, .inl ⟨rfl, hh⟩⟩
            · exact .inl hh
            · exact .inr ⟨.room, .inr ⟨rfl, hh⟩⟩
        cases v1 with
        | slnil g hg =>
          rcases hg with rfl | rfl | rfl
          · obtain ⟨k1, k2⟩ := hsplit (g0 := .nil) rfl h
            exact hnew none .nil (by simp) rfl (.slnil _ (.inl rfl)) rfl k1 k2
          · exact h.elim
          · obtain ⟨k1, k2⟩ := hsplit (g0 := .zero) rfl h
            exact hnew none .zero (by simp) rfl (.slnil _ (.inr (.inr rfl))) rfl k1 k2
        | slz A g hg =>
          rcases hg with rfl | rfl
          · exact h.elim
          · obtain ⟨k1, k2⟩ := hsplit (g0 := .zero) rfl h
            exact hnew (some A) .zero (by simp) rfl (.slz A _ (.inr rfl)) rfl k1 k2
        | sl b i cap kq xs' hkq hcap hvs => exact h.elim
        | tip i cap gg xs' hkq hcap hgd he1 he2 hvs =>
          simp only at h
          split at h
          · rename_i k' hres
            split at h
            · rename_i hk'
              subst hk'
              by_cases hroom : xs.length + ys.length ≤ cap
              · refine room_ok hI hn hlt hall hres hkq he1 he2 hvs hroom f2 h (fun w' hst => hrunB ?_)
                exact run_append_room (P := P) (w := w) (ty := o.type) (s := a.eval y) (x := a.eval z) hu hd hdi hi hy (f3 w.drawn) (f1 w.drawn) hroom (fun b hb => by simp only [Option.some.injEq] at hb; subst hb; exact hst) (fun hb => by cases hb)
              · obtain ⟨q, cc, rest, p1, p2, p3⟩ := run_append_grow (P := P) (w := w) (ty := o.type) (s := a.eval y) (x := a.eval z) (n := xs.length) (cap := cap) (m := ys.length) (ys := us) (os := us0) hu hd hdi hi hz2 hzs hy f3 f1 o1
                  (by omega) hb hbz
                refine grow_ok hI hn hlt (hI.r.del gg) rfl (k := ti.size) (xs := xs ++ ys) hall (us := us0 ++ us) (rest := rest) (t := e) (n := xs.length + ys.length) (c := cc) (q := q) (by rw [List.flatMap_append]; exact o2.append f2) p1 (by simp) p2 h (hrunB p3)
            · exact h.elim
          · exact h.elim
      · exact h.elim
    · exact h.elim
  · exact h.elim
end
end Go.VL

/- The value logic, part L: texts and bytes, make, maps, comparing, calls. -/
namespace Go.VL
section
variable {P : Program} {w0 : World} {F : Nat → Prop} {o : Oper} {a : Act} {w : World} {κ : Kx} {ρ : List AV} {σ : St} {nm : Nat} {K : AV → St → Prop}

theorem toBytes_ok : ∀ {xs : List AV} {bs : List UInt8} {us : List Value}, toBytes xs = some bs → Vl κ w us xs → ∃ ns : List Int, us = ns.map (Value.int .u8) ∧ bs = ns.map fun n => UInt8.ofNat n.toNat
  | [], bs, us, h, hv => by
    simp only [toBytes, Option.some.injEq] at h; subst h
    cases hv; exact ⟨[], rfl, rfl⟩
  | x :: r, bs, us, h, hv => by
    unfold toBytes at h
    split at h
    · rename_i e; cases e
    · rename_i n r' e
      obtain ⟨rfl, rfl⟩ := e
      rw [Option.map_eq_some_iff] at h
      obtain ⟨cs, hc, rfl⟩ := h
      cases hv with
      | cons v x vs xs hh t =>
        obtain ⟨ns, rfl, rfl⟩ := toBytes_ok hc t
        have := hh.int_inv; subst this
        exact ⟨n :: ns, rfl, rfl⟩
    · cases h

theorem toBytes_len : ∀ {xs : List AV} {bs : List UInt8}, toBytes xs = some bs → ∀ x ∈ xs, x.cells = [x]
  | [], _, _, x, hx => by simp at hx
  | y :: r, bs, h, x, hx => by
    unfold toBytes at h
    split at h
    · rename_i e; cases e
    · rename_i n r' e
      obtain ⟨rfl, rfl⟩ := e
      rw [Option.map_eq_some_iff] at h
      obtain ⟨cs, hc, _⟩ := h
      rcases List.mem_cons.1 hx with rfl | hx
      · rfl
      · exact toBytes_len hc x hx
    · cases h
theorem flat_single : ∀ {xs : List AV}, (∀ x ∈ xs, x.cells = [x]) → xs.flatMap AV.cells = xs
  | [], _ => rfl
  | x :: r, h => by rw [List.flatMap_cons, h x (List.mem_cons_self ..), flat_single (fun y hy => h y (List.mem_cons_of_mem _ hy))]; rfl

theorem row_str {src d e : TypeId} (hs : P.underlying src = some (.slice e)) (he : P.underlying e = some (.int .u8)) (hd : P.underlying d = some .string) {b i cap len : Nat} {xs : List AV} {bs : List UInt8} (hr : Row κ w b i xs) (hlen : xs.length = len) (hb : toBytes xs = some bs) :
    (convert src d (.slice (some ⟨b, i, none⟩) len cap)).run P w = .ok (.string ⟨bs.toArray⟩) w := by
  obtain ⟨us, h1, h3⟩ := hr
  obtain ⟨ns, rfl, rfl⟩ := toBytes_ok hb h1
  have hl := h1.length
  rw [List.length_map] at hl
  have := run_convert_bytes_arg (P := P) w src e hs he b i len cap ns (by omega) (fun j hj => by
    have hj' : j < ns.length := by omega
    refine h3 j _ ?_
    simp [List.getD, hj']) d hd
  rw [this]
  rfl

theorem ok_convBS (hI : Inv w0 F κ a w ρ σ) {s d e : TypeId} {y : Operand} {x : X} (hop : o.op = .convert s d y) (hs : P.underlying s = some (.slice e)) (he : P.underlying e = some (.int .u8)) (hd : P.underlying d = some .string) (hx : opX y = some x)
    (h : astep (ACalls P) nm ρ σ K (.convBS x)) : Good P w0 F o a w κ σ nm K := by
  have v1 := hI.opX hx
  simp only [astep] at h
  split at h
  · rename_i xs g hn
    rw [hn] at v1
    obtain ⟨bs, hb, hK⟩ := opt_some h
    rcases v1.sl_inv with ⟨base, e1, rfl⟩ | ⟨b, i, cap, kq, e1, _, _, hvs⟩
    · simp only [toBytes, Option.some.injEq] at hb; subst hb
      refine .value hI (v := .string ByteArray.empty) ?_ (.str _) hK
      cases base with
      | none =>
        have := run_convert_bytes_nil (P := P) w s e hs he 0 0 d hd
        simp [execOp, hop, e1, this]
      | some A =>
        have hr := run_loadCells_list (P := P) (w := w) A [] (fun j v hj => by simp at hj)
        simp at hr
        simp [execOp, hop, e1, convert, underlying, hs, he, hd, Conv.bytesToString, hr]
    · rw [flat_single (toBytes_len hb)] at hvs
      refine .value hI (v := .string ⟨bs.toArray⟩) ?_ (.str _) hK
      have := row_str (P := P) (cap := cap) hs he hd (Row.of_vs hvs) rfl hb
      simp [execOp, hop, e1, this]
  · rename_i n off len hn
    rw [hn] at v1
    obtain ⟨cap, e1, _, hdm⟩ := v1.ref_inv
    split at h
    · rename_i cs hr
      split at h
      · rename_i hle
        obtain ⟨bs, hb, hK⟩ := opt_some h
        refine .value hI (v := .string ⟨bs.toArray⟩) ?_ (.str _) hK
        have hrow := (Row.of_own (hI.r.own n _ hr).2).drop off
        rw [Nat.zero_add] at hrow
        have hrow' : Row κ w (κ.φ n) off ((cs.drop off).take len) := by
          obtain ⟨us, q1, q2⟩ := hrow
          exact ⟨us.take len, q1.take len, fun i u hu => q2 i u (by rw [List.getElem?_take] at hu; split at hu <;> simp_all)⟩
        have := row_str (P := P) (cap := cap) hs he hd hrow' (len := len) (by rw [List.length_take, List.length_drop]; omega) hb
        simp [execOp, hop, e1, this]
      · exact h.elim
    · exact h.elim
  · exact h.elim

theorem bytesWorld_eq (w : World) (e : TypeId) (s : ByteArray) : Lib.bytesWorld w e s = w.drew.alloc (.cells (Lib.bytesCells w e s) e ((Lib.bytesCells w e s).size, (Lib.bytesCells w e s).size + 1)) := by
  have hh : (Lib.bytesWorld w e s).heap = (w.drew.alloc (.cells (Lib.bytesCells w e s) e ((Lib.bytesCells w e s).size, (Lib.bytesCells w e s).size + 1))).heap := by
    apply Array.ext_getElem?
    intro i
    by_cases hi : i < w.heap.size
    · rw [Lib.bytesWorld_at_old w e s i hi]
      have := heap_alloc w.drew (.cells (Lib.bytesCells w e s) e ((Lib.bytesCells w e s).size, (Lib.bytesCells w e s).size + 1)) i hi
      rw [this]; rfl
    · by_cases hi2 : i = w.heap.size
      · subst hi2
        rw [Lib.bytesWorld_at_new]
        exact (heap_alloc_new w.drew _).symm
      · rw [Array.getElem?_eq_none (by rw [Lib.bytesWorld_size]; omega), Array.getElem?_eq_none (by rw [size_alloc]; show w.heap.size + 1 ≤ i; omega)]
  have h2 : Lib.bytesWorld w e s = { w.drew with heap := (Lib.bytesWorld w e s).heap } := by
    simp only [Lib.bytesWorld, World.freeze]
    split <;> rfl
  rw [h2, hh]
  rfl

theorem ok_convSB (hI : Inv w0 F κ a w ρ σ)  {s d e : TypeId} {y : Operand} {x : X} {hd : Hold} (hn : hd ≠ .val → hd ≠ .zero → ¬ κ.dom nm ∧ nm < σ.next) (hop : o.op = .convert s d y) (hs : P.underlying s = some .string) (he : P.underlying e = some (.int .u8)) (hdd : P.underlying d = some (.slice e)) (hx : opX y = some x)
    (h : astep (ACalls P) nm ρ σ K (.convSB hd x)) : Good P w0 F o a w κ σ nm K := by
  have v1 := hI.opX hx
  simp only [astep] at h
  split at h
  · rename_i t hnn
    rw [hnn] at v1
    have hr := Lib.run_convert_string_bytes (P := P) w s d e t hs hdd he
    rw [bytesWorld_eq] at hr
    have hcap : t.size ≤ grownCap w t.size 0 e := by simp [grownCap, Question.cut]
    have hsz : (bytesAV t.data.toList).length = t.size := by simp [bytesAV]
    have hbc : Lib.bytesCells w e t = ⟨(t.data.toList.map fun b => Value.int .u8 b.toNat) ++ List.replicate (grownCap w t.size 0 e - t.size) (.int .u8 0)⟩ := by
      apply Array.ext'
      simp [Lib.bytesCells]
    have hls : (Lib.bytesCells w e t).size = grownCap w t.size 0 e := by
      rw [hbc]; simp; omega
    rw [hls, hbc] at hr
    refine held_ok (us := t.data.toList.map fun b => Value.int .u8 b.toNat) (rest := List.replicate (grownCap w t.size 0 e - t.size) (.int .u8 0)) (t := e) (fz := (grownCap w t.size 0 e, grownCap w t.size 0 e + 1))
      (cap := grownCap w t.size 0 e) (n := t.size) (k := 1) (xs := bytesAV t.data.toList) hI hn (bytes_all _) (by rw [bytes_flat]; exact Vl.bytes _) ?_ (by rw [hsz]; exact hcap) (fun _ => ?_) ?_ hsz.symm h ⟨w.drew, rfl, rfl, rfl, rfl, ?_⟩
    · simp; omega
    · right; simp; omega
    · right; simp; omega
    · simp only [execOp, hop, v1.str_inv, Sem.run_bind, hr, Result.andThen_ok, Sem.run_pure]
  · exact h.elim

theorem flat_rep {k : Nat} {z : AV} : ∀ n, z.fits k = true → (List.replicate n z).all (AV.fits k) = true
  | 0, _ => rfl
  | n + 1, h => by simp only [List.replicate_succ, List.all_cons, h, flat_rep n h, Bool.and_self]

theorem Vl.rep {us : List Value} {cs : List AV} (h : Vl κ w us cs) : ∀ n, Vl κ w (List.replicate n us).flatten ((List.replicate n cs).flatten)
  | 0 => .nil
  | n + 1 => by simp only [List.replicate_succ, List.flatten_cons]; exact h.append (Vl.rep h n)

theorem range_mod {z : Array Value} (hz : 0 < z.size) : ∀ n, ((Array.range (n * z.size)).map (z[· % z.size]!)).toList = (List.replicate n z.toList).flatten
  | 0 => by simp
  | n + 1 => by
    have ih := range_mod hz n
    rw [Array.toList_map, Array.toList_range] at ih ⊢
    rw [show (n + 1) * z.size = n * z.size + z.size by rw [Nat.add_mul]; omega, List.range_add, List.map_append, ih, List.replicate_succ', List.flatten_append, List.map_map]
    congr 1
    simp only [List.flatten_cons, List.flatten_nil, List.append_nil]
    apply List.ext_getElem?
    intro i
    by_cases hi : i < z.size
    · simp [hi, Nat.mod_eq_of_lt hi]
    · simp [hi]

theorem ok_mkS (hI : Inv w0 F κ a w ρ σ)  {t e : TypeId} {y y' : Operand} {x x' : X} {ti : TypeInfo} {z : AV} {hd : Hold} (hn : hd ≠ .val → hd ≠ .zero → ¬ κ.dom nm ∧ nm < σ.next) (hop : o.op = .makeSlice t y y') (hu : P.underlying t = some (.slice e)) (hi : P.info? e = some ti) (hz : zeroOf P e = some z)
    (hzs : ti.size = z.cells.length) (hpos : 0 < ti.size) (hx : opX y = some x) (hx' : opX y' = some x') (h : astep (ACalls P) nm ρ σ K (.mkS ti.size ti.bytes hd z x x')) : Good P w0 F o a w κ σ nm K := by
  have v1 := hI.opX hx
  have v2 := hI.opX hx'
  obtain ⟨ti', zv, hi', hz2, hz3⟩ := zeroOf_ok hz
  rw [hi] at hi'; simp only [Option.some.injEq] at hi'; subst hi'
  simp only [astep] at h
  split at h
  · rename_i kl l kc c hl hc
    rw [hl] at v1; rw [hc] at v2
    split at h
    · rename_i hcond
      obtain ⟨c0, c1, c2, c3, c5, c6⟩ := hcond
      subst c6
      have hvz := (constV_ok (κ := κ) (w := w) hz3).cells (constV_ne hz3)
      have hzl : zv.cells.size = ti.size := by have := hvz.length; rw [← hzs] at this; simpa using this
      have hw : IntKind.i64.wrap c = c := by simp [IntKind.wrap, IntKind.bits, IntKind.signed]; omega
      have hfl : (List.replicate c.toNat z).flatMap AV.cells = (List.replicate c.toNat z.cells).flatten := by
        simp [List.flatMap]
      have hlen : ((List.replicate c.toNat zv.cells.toList).flatten).length = c.toNat * ti.size := by
        rw [List.length_flatten, List.map_replicate, List.sum_replicate_nat, Array.length_toList, hzl]
      refine held_ok (us := (List.replicate c.toNat zv.cells.toList).flatten) (rest := []) (t := e) (fz := (0, 0)) (cap := c.toNat) (n := c.toNat) (k := ti.size) (xs := List.replicate c.toNat z) hI hn (flat_rep _ c5)
        (by rw [hfl]; exact hvz.rep _) (by rw [hlen]; simp) (by simp) (fun _ => .inl rfl) (.inl rfl) (by simp) h ⟨w, rfl, rfl, rfl, rfl, ?_⟩
      have hno2 : ¬ ((281474976710656 : Int) < (ti.bytes : Int) * c) := by
        have : (ti.bytes : Int) * c = c * ti.bytes := Int.mul_comm _ _
        omega
      have hnn : ¬ c < 0 := by omega
      have hr := range_mod (z := zv.cells) (by omega) c.toNat
      rw [hzl] at hr
      have harr : (Array.range (c.toNat * ti.size)).map (fun i => zv.cells[i % ti.size]!) = ⟨(List.replicate c.toNat zv.cells.toList).flatten⟩ := by
        apply Array.ext'; exact hr
      by_cases h0 : c.toNat = 0
      · simp [execOp, hop, v1.int_inv, v2.int_inv, Instr.makeSlice, underlying, hu, asInt, asIntOf, typeInfo, hi, hw, hno2, hnn, h0, sizeOf, newRow]
        have hz0 : ∀ g : Nat → Value, (Array.range 0).map g = ⟨[]⟩ := fun g => by apply Array.ext'; simp
        rw [hz0]
      · have h1 : ¬ (c.toNat * ti.size = 0) := Nat.mul_ne_zero h0 (by omega)
        have h2 : ¬ (c.toNat = 0 ∨ ti.size = 0) := by omega
        have h3 : ¬ (c ≤ 0 ∨ ti.size = 0) := by omega
        simp [execOp, hop, v1.int_inv, v2.int_inv, Instr.makeSlice, underlying, hu, asInt, asIntOf, typeInfo, hi, hw, hno2, hnn, sizeOf, newRow, zeroValue, hz2, hzl, harr]
        exact fun hx => absurd hx h1
    · exact h.elim
  · exact h.elim

/-! ### Comparing -/
theorem eqAv_ok : ∀ {xs ys : List AV} {us vs : List Value} {r : Bool}, eqAv xs ys = some r → Vl κ w us xs → Vl κ w vs ys → us.length = vs.length
  | [], ys, us, vs, r, h, hu, hv => by
    cases ys <;> simp [eqAv] at h
    cases hu; cases hv; rfl
  | x :: xs, ys, us, vs, r, h, hu, hv => by
    cases ys with
    | nil => cases x <;> simp [eqAv] at h
    | cons y ys =>
      have : ∃ r', eqAv xs ys = some r' := by
        cases x <;> cases y <;> simp only [eqAv, reduceCtorEq] at h <;> (try split at h) <;> first
          | (rw [Option.map_eq_some_iff] at h; obtain ⟨r', h1, _⟩ := h; exact ⟨r', h1⟩)
          | (cases h; done)
      obtain ⟨r', hr⟩ := this
      cases hu with
      | cons u x us xs h1 t1 =>
        cases hv with
        | cons v y vs ys h2 t2 => simp [eqAv_ok hr t1 t2]

/-! ### Maps -/
theorem keyKind_cases {kt : TypeId} {kk : Nat} (h : keyKind P kt = some kk) : (∃ k, P.underlying kt = some (.int k) ∧ kk = 0) ∨ (P.underlying kt = some .string ∧ kk = 1) := by
  unfold keyKind at h
  split at h
  · simp only [Option.some.injEq] at h; exact .inl ⟨_, by assumption, h.symm⟩
  · simp only [Option.some.injEq] at h; exact .inr ⟨by assumption, h.symm⟩
  · cases h

theorem run_checkKey1 {kt : TypeId} {kk : Nat} (h : keyKind P kt = some kk) (e : Bool) (d : Nat) (v : Value) : (Instr.checkKey e (d + 1) kt v).run P w = .ok () w := by
  rcases keyKind_cases h with ⟨k, hk, _⟩ | ⟨hk, _⟩ <;> simp [Instr.checkKey, underlying, hk]
theorem run_checkKey {kt : TypeId} {kk : Nat} (h : keyKind P kt = some kk) (e : Bool) (v : Value) : (Instr.checkKey e 10000 kt v).run P w = .ok () w := run_checkKey1 h e 9999 v

/-- what is found of a key -/
structure Found (κ : Kx) (w : World) (d : TypeDesc) (k : Value) (x : AV) (es : List MapEntry) (ps : List (AV × AV)) (i j : Nat) (u : Value) (v : AV) (e : MapEntry) : Prop where
  now : Instr.findNow d k es i = some (some (i + j, u))
  at_ : es[j]? = some e
  val : u = e.val
  fits : V κ w u v
  lt : j < ps.length
  key : e.key = k
  put : ∀ z, mput x z ps = ps.set j (x, z)
  del : mdel x ps = ps.eraseIdx j
  idx : midx x ps = j

theorem find_ok {d : TypeDesc} {k : Value} {x : AV} (hk : V κ w k x) (hd : (∃ kk, d = .int kk) ∧ kshape 0 x = true ∨ d = .string ∧ kshape 1 x = true) : ∀ {es : List MapEntry} {ps : List (AV × AV)} {r : Option AV} (i : Nat), Vm κ w es ps → mfind x ps = some r →
    (r = none ∧ Instr.findNow d k es i = some none ∧ (∀ v, mput x v ps = ps ++ [(x, v)]) ∧ mdel x ps = ps) ∨ (∃ v j u e, r = some v ∧ Found κ w d k x es ps i j u v e)
  | _, _, r, i, .nil, hf => by
    simp only [mfind, Option.some.injEq] at hf; subst hf
    exact .inl ⟨rfl, rfl, fun _ => rfl, rfl⟩
  | _, _, r, i, .cons e p es ps hek hev t, hf => by
    have hs : ∃ b, keq x p.1 = some b ∧ Instr.sameNow d k e.key = some b ∧ (b = true → e.key = k) := by
      rcases hd with ⟨⟨kk, rfl⟩, hx⟩ | ⟨rfl, hx⟩
      · obtain ⟨k1, n1, rfl⟩ : ∃ k1 n1, x = .int k1 n1 := by
          cases x <;> simp only [kshape, Bool.false_eq_true] at hx
          exact ⟨_, _, rfl⟩
        have ek := hk.int_inv; subst ek
        simp only [mfind] at hf
        obtain ⟨k2, n2, hp⟩ : ∃ k2 n2, p.1 = .int k2 n2 := by
          cases hp : p.1 <;> rw [hp] at hf <;> simp only [keq, reduceCtorEq] at hf
          exact ⟨_, _, rfl⟩
        rw [hp] at hf hek
        rw [hek.int_inv, hp]
        by_cases hkk : k1 = k2
        · subst hkk
          exact ⟨n1 == n2, by simp [keq], by simp [Instr.sameNow], fun hb => by simp at hb; rw [hb]⟩
        · simp [keq, hkk] at hf
      · obtain ⟨s1, rfl⟩ : ∃ s1, x = .str s1 := by
          cases x <;> simp only [kshape, Bool.false_eq_true] at hx
          exact ⟨_, rfl⟩
        have ek := hk.str_inv; subst ek
        simp only [mfind] at hf
        obtain ⟨s2, hp⟩ : ∃ s2, p.1 = .str s2 := by
          cases hp : p.1 <;> rw [hp] at hf <;> simp only [keq, reduceCtorEq] at hf
          exact ⟨_, rfl⟩
        rw [hp] at hf hek
        rw [hek.str_inv, hp]
        exact ⟨decide (s1 = s2), by simp [keq], by simp [Instr.sameNow, ba_beq], fun hb => by simp at hb; rw [hb]⟩
    obtain ⟨b, h1, h2, h3⟩ := hs
    cases b with
    | true =>
      simp only [mfind, h1, Option.some.injEq] at hf
      subst hf
      exact .inr ⟨p.2, 0, e.val, e, rfl, by simp [Instr.findNow, h2], rfl, rfl, hev, by simp, h3 rfl, fun z => by simp [mput, h1], by simp [mdel, h1], by simp [midx, h1]⟩
    | false =>
      simp only [mfind, h1] at hf
      rcases find_ok hk hd (i + 1) t hf with ⟨g0, g1, g2, g3⟩ | ⟨v, j, u, e', g0, g⟩
      · exact .inl ⟨g0, by simp [Instr.findNow, h2, g1], fun v => by simp [mput, h1, g2], by simp [mdel, h1, g3]⟩
      · exact .inr ⟨v, j + 1, u, e', g0, by simp [Instr.findNow, h2, g.now]; omega, by simpa using g.at_, g.val, g.fits, by have := g.lt; simp; omega, g.key, fun z => by simp [mput, h1, g.put], by simp [mdel, h1, g.del], by simp [midx, h1, g.idx]⟩

theorem run_findKey {kt : TypeId} {d : TypeDesc} (hu : P.underlying kt = some d) {k : Value} {es : List MapEntry} {r : Option (Nat × Value)} (h : Instr.findNow d k es 0 = some r) : (Instr.findKey kt k es).run P w = .ok r w := by
  simp [Instr.findKey, underlying, hu, h]

theorem kind_shape {kt : TypeId} {kk : Nat} {x : AV} (h : keyKind P kt = some kk) (hs : kshape kk x = true) : ∃ d, P.underlying kt = some d ∧ ((∃ k, d = .int k) ∧ kshape 0 x = true ∨ d = .string ∧ kshape 1 x = true) := by
  rcases keyKind_cases h with ⟨k, hk, rfl⟩ | ⟨hk, rfl⟩
  · exact ⟨_, hk, .inl ⟨⟨k, rfl⟩, hs⟩⟩
  · exact ⟨_, hk, .inr ⟨rfl, hs⟩⟩

theorem run_getMap {b : Nat} {ents : List MapEntry} {cl : Nat} (h : w.heap[b]? = some (.map ⟨ents⟩ cl)) : (getObj b).run P w = .ok (.map ⟨ents⟩ cl) w := by
  simp [getObj, Sem.run, h]

theorem ok_look (hI : Inv w0 F κ a w ρ σ) {t kt e : TypeId} {y y' : Operand} {x x' : X} {ok : Bool} {kk : Nat} {z : AV} (hop : o.op = .lookup t y y' ok) (hu : P.underlying t = some (.map kt e)) (hk : keyKind P kt = some kk) (hz : zeroOf P e = some z) (hx : opX y = some x) (hx' : opX y' = some x')
    (h : astep (ACalls P) nm ρ σ K (.look kk z ok x x')) : Good P w0 F o a w κ σ nm K := by
  have v1 := hI.opX hx
  have v2 := hI.opX hx'
  obtain ⟨i, zv, h1, h2, h3⟩ := zeroOf_ok hz
  have hzr : (zeroValue e).run P w = .ok zv w := by simp [zeroValue, typeInfo, h1, h2]
  have hzv := constV_ok (κ := κ) (w := w) h3
  have htup : ∀ {u : Value} {v : AV} (b : Bool), V κ w u v → V κ w (if ok then .tuple #[u, .bool b] else u) (if ok then .tup [v, .bool b] else v) := by
    intro u v b hv
    cases ok
    · exact hv
    · exact .tup [u, .bool b] _ (.cons _ _ _ _ hv (.cons _ _ _ _ (.bool _) .nil))
  simp only [astep] at h
  split at h
  · rename_i hn
    rw [hn] at v1
    refine .value hI (v := if ok then .tuple #[zv, .bool false] else zv) ?_ (htup false hzv) h
    have hf : (Instr.findKey kt (a.eval y') []).run P w = .ok none w := by
      rcases keyKind_cases hk with ⟨k, hkk, _⟩ | ⟨hkk, _⟩ <;> exact run_findKey hkk rfl
    simp [execOp, hop, v1.nilm_inv, Instr.lookup, underlying, hu, run_checkKey hk, hf, hzr]
  · rename_i n hn
    rw [hn] at v1
    obtain ⟨e1, hd⟩ := v1.map_inv
    split at h
    · rename_i es ts cl hr
      obtain ⟨_, ents, g1, g2, g3, g4, g5, g6⟩ := hI.r.own n _ hr
      split at h
      · rename_i hs
        obtain ⟨d, hdd, hds⟩ := kind_shape hk hs
        have hg := run_getMap (P := P) g1
        split at h
        · rename_i v hf
          rcases find_ok v2 hds 0 g2 hf with ⟨q, _⟩ | ⟨v', j, u, e', q, g⟩
          · cases q
          · simp only [Option.some.injEq] at q; subst q
            refine .value hI (v := if ok then .tuple #[u, .bool true] else u) ?_ (htup true g.fits) h
            have hfk := run_findKey (P := P) (w := w) hdd g.now
            simp [execOp, hop, e1, Instr.lookup, underlying, hu, hg, run_checkKey hk, hfk]
        · rename_i hf
          rcases find_ok v2 hds 0 g2 hf with ⟨_, q, _⟩ | ⟨v', j, u, e', q, g⟩
          · refine .value hI (v := if ok then .tuple #[zv, .bool false] else zv) ?_ (htup false hzv) h
            have hfk := run_findKey (P := P) (w := w) hdd q
            simp [execOp, hop, e1, Instr.lookup, underlying, hu, hg, run_checkKey hk, hfk, hzr]
          · cases q
        · exact h.elim
      · exact h.elim
    · exact h.elim
  · exact h.elim

theorem Vm.append : ∀ {es es' : List MapEntry} {ps ps' : List (AV × AV)}, Vm κ w es ps → Vm κ w es' ps' → Vm κ w (es ++ es') (ps ++ ps')
  | _, _, _, _, .nil, k => by simpa using k
  | _, _, _, _, .cons e p es ps h1 h2 t, k => by simpa using Vm.cons e p _ _ h1 h2 (Vm.append t k)
theorem Vm.set : ∀ {es : List MapEntry} {ps : List (AV × AV)} (_ : Vm κ w es ps) (i : Nat) {e : MapEntry} {p : AV × AV}, V κ w e.key p.1 → V κ w e.val p.2 → Vm κ w (es.set i e) (ps.set i p)
  | _, _, .nil, i, _, _, _, _ => by simpa using Vm.nil
  | _, _, .cons e p es ps h1 h2 t, 0, _, _, k1, k2 => by simpa using Vm.cons _ _ _ _ k1 k2 t
  | _, _, .cons e p es ps h1 h2 t, i + 1, _, _, k1, k2 => by simpa using Vm.cons _ _ _ _ h1 h2 (Vm.set t i k1 k2)
theorem Vm.erase : ∀ {es : List MapEntry} {ps : List (AV × AV)} (_ : Vm κ w es ps) (i : Nat), Vm κ w (es.eraseIdx i) (ps.eraseIdx i)
  | _, _, .nil, i => by simpa using Vm.nil
  | _, _, .cons e p es ps h1 h2 t, 0 => by simpa using t
  | _, _, .cons e p es ps h1 h2 t, i + 1 => by simpa using Vm.cons _ _ _ _ h1 h2 (Vm.erase t i)

theorem run_setMap {b : Nat} {ents : List MapEntry} {cl : Nat} (h : w.heap[b]? = some (.map ⟨ents⟩ cl)) (ob : Obj) : ∃ w', (setObj b ob).run P w = .ok () w' ∧ w'.heap[b]? = some ob ∧ Same w w' b := by
  have hlt := (Array.getElem?_eq_some_iff.1 h).1
  refine ⟨{ w with heap := w.heap.setIfInBounds b ob }, by simp [setObj, Sem.run, h], ?_, rfl, rfl, rfl, by simp, fun b' hb => ?_⟩
  · simp [hlt]
  · simp only [Array.getElem?_setIfInBounds]
    rw [if_neg (fun e => hb e.symm)]

theorem sameBits_key {kk : Nat} {k : Value} {x : AV} (hv : V κ w k x) (hs : kshape kk x = true) (hkk : kk = 0 ∨ kk = 1) : Instr.sameBits 10000 k k = true := by
  rcases hkk with rfl | rfl
  · cases x <;> simp only [kshape, reduceCtorEq] at hs
    rw [hv.int_inv]; unfold Instr.sameBits; simp
  · cases x <;> simp only [kshape, reduceCtorEq] at hs
    rw [hv.str_inv]; unfold Instr.sameBits; simp [ba_beq]

theorem ok_mapUp (hI : Inv w0 F κ a w ρ σ) {t kt e : TypeId} {y y' y'' : Operand} {x x' x'' : X} {kk : Nat} (hop : o.op = .mapUpdate t y y' y'') (hu : P.underlying t = some (.map kt e)) (hk : keyKind P kt = some kk) (hx : opX y = some x) (hx' : opX y' = some x') (hx'' : opX y'' = some x'')
    (h : astep (ACalls P) nm ρ σ K (.mapUp kk x x' x'')) : Good P w0 F o a w κ σ nm K := by
  have v1 := hI.opX hx
  have v2 := hI.opX hx'
  have v3 := hI.opX hx''
  have hkk : kk = 0 ∨ kk = 1 := by rcases keyKind_cases hk with ⟨_, _, q⟩ | ⟨_, q⟩ <;> simp [q]
  simp only [astep] at h
  split at h
  · rename_i n hn
    rw [hn] at v1
    obtain ⟨e1, hd⟩ := v1.map_inv
    split at h
    · rename_i es ts cl hr
      obtain ⟨_, ents, g1, g2, g3, g4, g5, g6⟩ := hI.r.own n _ hr
      split at h
      · rename_i hs
        obtain ⟨d, hdd, hds⟩ := kind_shape hk hs
        have hg := run_getMap (P := P) g1
        split at h
        · rename_i r hf
          rcases find_ok v2 hds 0 g2 hf with ⟨q, _⟩ | ⟨v', j, u, e', q, g⟩
          · cases q
          · have hjl : j < ents.length := (List.getElem?_eq_some_iff.1 g.at_).1
            obtain ⟨w', r1, r2, r3⟩ := run_setMap (P := P) g1 (.map ⟨ents.set j { e' with key := a.eval y', val := a.eval y'' }⟩ cl)
            have hbs : (ents.set j { e' with key := a.eval y', val := a.eval y'' }).map (·.born) = ts := by
              rw [← g4]
              apply List.ext_getElem?
              intro i
              rw [List.getElem?_map, List.getElem?_map, List.getElem?_set]
              split
              · rename_i hi; subst hi; have hb := (List.getElem?_eq_some_iff.1 g.at_).2; simp [hjl, hb]
              · rfl
            obtain ⟨ee, hr'⟩ := hI.r.set_map hr r2 r3.block r3.size (g2.set j (e := { e' with key := a.eval y', val := a.eval y'' }) (p := (ev ρ x', ev ρ x'')) v2 v3) hbs g5 g6
            rw [g.put] at h
            refine .skip' (.own ee rfl hr' (hI.fr.owned hI.r rfl hr r3.os r3.tape r3.output r3.size r3.block) rfl) ?_ h
            have hfk := run_findKey (P := P) (w := w) hdd g.now
            rw [Nat.zero_add] at hfk
            have hst : (Instr.keyThatStays (a.eval y') (a.eval y')).run P w = .ok (a.eval y') w := by
              simp [Instr.keyThatStays, sameBits_key v2 hs hkk]
            have hek : ((ents[j]?).map (·.key)).getD (a.eval y') = a.eval y' := by rw [g.at_]; exact g.key
            have hmod : (⟨ents⟩ : Array MapEntry).modify j (fun e => { e with key := a.eval y', val := a.eval y'' }) = ⟨ents.set j { e' with key := a.eval y', val := a.eval y'' }⟩ := by
              apply Array.ext'
              have : ents[j] = e' := (List.getElem?_eq_some_iff.1 g.at_).2
              simp [List.modify_eq_set, g.at_]
            simp only [execOp, hop, e1, Instr.mapUpdate, Sem.run_bind, underlying, run_program, Result.andThen_ok, hu, hg, run_checkKey hk, hfk, Sem.run_pure, List.getElem?_toArray, hek, hst, hmod, r1]
        · rename_i hf
          rcases find_ok v2 hds 0 g2 hf with ⟨_, q1, q2, _⟩ | ⟨v', j, u, e', q, g⟩
          · obtain ⟨w', r1, r2, r3⟩ := run_setMap (P := P) g1 (.map ⟨ents ++ [{ key := a.eval y', val := a.eval y'', born := cl }]⟩ (cl + 1))
            obtain ⟨ee, hr'⟩ := hI.r.set_map (ts' := ts ++ [cl]) hr r2 r3.block r3.size (g2.append (.cons _ (ev ρ x', ev ρ x'') _ _ v2 v3 .nil)) (by simp [g4])
              (by rw [List.nodup_append]; exact ⟨g5, by simp, fun t ht u hu => by simp only [List.mem_singleton] at hu; subst hu; exact Nat.ne_of_lt (g6 t ht)⟩)
              (fun t ht => by rcases List.mem_append.1 ht with ht | ht; exact Nat.lt_succ_of_lt (g6 t ht); simp only [List.mem_singleton] at ht; subst ht; exact Nat.lt_succ_self _)
            rw [q2] at h
            refine .skip' (.own ee rfl hr' (hI.fr.owned hI.r rfl hr r3.os r3.tape r3.output r3.size r3.block) rfl) ?_ h
            have hfk := run_findKey (P := P) (w := w) hdd q1
            simp [execOp, hop, e1, Instr.mapUpdate, underlying, hu, hg, run_checkKey hk, hfk, r1]
          · cases q
        · exact h.elim
      · exact h.elim
    · exact h.elim
  · exact h.elim
end
end Go.VL

/- The value logic, part M: equality, least and greatest, delete, and calls. -/
namespace Go.VL

section
variable {P : Program} {w0 : World} {F : Nat → Prop} {o : Oper} {a : Act} {w : World} {κ : Kx} {ρ : List AV} {σ : St} {nm : Nat} {K : AV → St → Prop}

theorem errsOk_mem : ∀ {ts : List (Nat × IntKind)}, errsOk P ts = true → ∀ p ∈ ts, ∃ i, P.underlying p.1 = some (.int p.2) ∧ P.info? p.1 = some i ∧ i.comparable = true
  | [], _, p, hp => by cases hp
  | (t, k) :: r, h, p, hp => by
    simp only [errsOk, Bool.and_eq_true] at h
    rcases List.mem_cons.1 hp with rfl | hp
    · have h1 := h.1
      split at h1
      · rename_i k' i e1 e2
        simp only [Bool.and_eq_true, beq_iff_eq] at h1
        exact ⟨i, by rw [e1, h1.1], e2, h1.2⟩
      · cases h1
    · exact errsOk_mem h.2 p hp

theorem run_equalIn_int (d : Nat) {t : TypeId} {k : IntKind} (ht : P.underlying t = some (.int k)) (m n : Int) (k' : IntKind) : (Op.equalIn (d + 1) t (.int k' m) (.int k' n)).run P w = .ok (m == n) w := by
  rw [Op.equalIn.eq_2]; simp [underlying, ht]
theorem run_eq_nn (d : Nat) {t : TypeId} {ms : Array (String × TypeId)} (ht : P.underlying t = some (.interface ms)) : (Op.equalIn (d + 1) t .nilIface .nilIface).run P w = .ok true w := by
  rw [Op.equalIn.eq_2]; simp [underlying, ht]
theorem run_eq_ni (d : Nat) {t : TypeId} {ms : Array (String × TypeId)} (ht : P.underlying t = some (.interface ms)) (t' : TypeId) (v : Value) : (Op.equalIn (d + 1) t .nilIface (.iface t' v)).run P w = .ok false w := by
  rw [Op.equalIn.eq_2]; simp [underlying, ht]
theorem run_eq_in (d : Nat) {t : TypeId} {ms : Array (String × TypeId)} (ht : P.underlying t = some (.interface ms)) (t' : TypeId) (v : Value) : (Op.equalIn (d + 1) t (.iface t' v) .nilIface).run P w = .ok false w := by
  rw [Op.equalIn.eq_2]; simp [underlying, ht]
theorem run_eq_ne (d : Nat) {t : TypeId} {ms : Array (String × TypeId)} (ht : P.underlying t = some (.interface ms)) {t1 t2 : TypeId} (hne : t1 ≠ t2) (u v : Value) : (Op.equalIn (d + 1) t (.iface t1 u) (.iface t2 v)).run P w = .ok false w := by
  rw [Op.equalIn.eq_2]; simp [underlying, ht, hne]
theorem run_eq_ii (d : Nat) {t : TypeId} {ms : Array (String × TypeId)} (ht : P.underlying t = some (.interface ms)) {t1 : TypeId} {k : IntKind} {i : TypeInfo} (h1 : P.underlying t1 = some (.int k)) (h2 : P.info? t1 = some i) (h3 : i.comparable = true) (m n : Int) :
    (Op.equalIn (d + 1 + 1) t (.iface t1 (.int k m)) (.iface t1 (.int k n))).run P w = .ok (m == n) w := by
  have := run_equalIn_int (P := P) (w := w) d h1 m n k
  rw [Op.equalIn.eq_2]; simp [underlying, ht, typeInfo, h2, h3, this]

theorem run_equalIn_iface (d : Nat) {t : TypeId} {ms : Array (String × TypeId)} (ht : P.underlying t = some (.interface ms)) {ts : List (Nat × IntKind)} (hts : errsOk P ts = true) {lit : Bool} {x y : AV} {u v : Value} {r : Bool}
    (hu : V κ w u x) (hv : V κ w v y) (h : eqIv lit ts x y = some r) : (Op.equalIn (d + 1 + 1) t u v).run P w = .ok r w := by
  unfold eqIv at h
  split at h
  · split at h
    · simp only [Option.some.injEq] at h; subst h
      rw [hu.nili_inv, hv.nili_inv]; exact run_eq_nn _ ht
    · cases h
  · simp only [Option.some.injEq] at h; subst h
    obtain ⟨v', rfl, _⟩ := hv.iface_inv
    rw [hu.nili_inv]; exact run_eq_ni _ ht _ _
  · simp only [Option.some.injEq] at h; subst h
    obtain ⟨u', rfl, _⟩ := hu.iface_inv
    rw [hv.nili_inv]; exact run_eq_in _ ht _ _
  · rename_i t1 k m t2 k' n
    obtain ⟨u', rfl, hu'⟩ := hu.iface_inv
    obtain ⟨v', rfl, hv'⟩ := hv.iface_inv
    split at h
    · rename_i he
      subst he
      split at h
      · rename_i hk
        simp only [Bool.and_eq_true, decide_eq_true_eq, List.any_eq_true, beq_iff_eq, Prod.exists] at hk
        obtain ⟨rfl, t3, k3, hm, rfl, rfl⟩ := hk
        obtain ⟨i, g1, g2, g3⟩ := errsOk_mem hts _ hm
        simp only [Option.some.injEq] at h; subst h
        rw [hu'.int_inv, hv'.int_inv]; exact run_eq_ii _ ht g1 g2 g3 _ _
      · cases h
    · rename_i he
      simp only [Option.some.injEq] at h; subst h
      exact run_eq_ne _ ht he _ _
  · rename_i t1 x1 t2 x2 _
    obtain ⟨u', rfl, hu'⟩ := hu.iface_inv
    obtain ⟨v', rfl, hv'⟩ := hv.iface_inv
    split at h
    · cases h
    · rename_i he
      simp only [Option.some.injEq] at h; subst h
      exact run_eq_ne _ ht he _ _
  · cases h
theorem run_equal_iface {t : TypeId} {ms : Array (String × TypeId)} (ht : P.underlying t = some (.interface ms)) {ts : List (Nat × IntKind)} (hts : errsOk P ts = true) {lit : Bool} {x y : AV} {u v : Value} {r : Bool}
    (hu : V κ w u x) (hv : V κ w v y) (h : eqIv lit ts x y = some r) : (Op.equal t u v).run P w = .ok r w := run_equalIn_iface 9998 ht hts hu hv h

theorem run_eqGuard_iface {neg : Bool} {t : TypeId} {y z : Operand} {lit : Bool} {ts : List (Nat × IntKind)} {x x' : AV} {u v : Value} {r : Bool} (hl : lit = (isC y || isC z))
    (hu : V κ w u x) (hv : V κ w v x') (h : eqIv lit ts x x' = some r) : (eqGuard (if neg then .neq else .eql) t y z u v).run P w = .ok () w := by
  have : u = .nilIface ∧ v = .nilIface ∧ lit = true ∨ (∃ t1 u', u = .iface t1 u') ∨ (u = .nilIface ∧ ∃ t1 v', v = .iface t1 v') := by
    unfold eqIv at h
    split at h
    · split at h
      · rename_i hl; exact .inl ⟨hu.nili_inv, hv.nili_inv, hl⟩
      · cases h
    · obtain ⟨v', e, _⟩ := hv.iface_inv; exact .inr (.inr ⟨hu.nili_inv, _, v', e⟩)
    · obtain ⟨v', e, _⟩ := hu.iface_inv; exact .inr (.inl ⟨_, v', e⟩)
    · obtain ⟨v', e, _⟩ := hu.iface_inv; exact .inr (.inl ⟨_, v', e⟩)
    · obtain ⟨v', e, _⟩ := hu.iface_inv; exact .inr (.inl ⟨_, v', e⟩)
    · cases h
  rcases this with ⟨rfl, rfl, hl'⟩ | ⟨t1, u', rfl⟩ | ⟨rfl, t1, v', rfl⟩
  · rw [hl] at hl'
    simp only [Bool.or_eq_true] at hl'
    rcases hl' with hl' | hl'
    · cases y <;> simp [isC] at hl' <;> cases neg <;> simp [eqGuard]
    · cases z <;> simp [isC] at hl' <;> cases neg <;> simp [eqGuard]
  · cases neg <;> simp [eqGuard]
  · cases neg <;> simp [eqGuard]

theorem binOp_eq {neg : Bool} {t : TypeId} {u v : Value} {r : Bool} (h : (Op.equal t u v).run P w = .ok r w) (hi : (∃ t1 u', u = .iface t1 u') ∨ u = .nilIface ∨ ∃ p, u = .pointer p) :
    (binOp (if neg then .neq else .eql) t u v).run P w = .ok (.bool (r != neg)) w := by
  rcases hi with ⟨t1, u', rfl⟩ | rfl | ⟨p, rfl⟩ <;> cases neg <;> simp [binOp, h]

theorem ok_eqI (hI : Inv w0 F κ a w ρ σ) {neg lit : Bool} {t t' : TypeId} {y z : Operand} {x x' : X} {ms : Array (String × TypeId)} {ts : List (Nat × IntKind)} (hop : o.op = .binOp (if neg then .neq else .eql) t y z t') (ht : P.underlying t = some (.interface ms))
    (hts : errsOk P ts = true) (hl : lit = (isC y || isC z)) (hx : opX y = some x) (hx' : opX z = some x')
    (h : astep (ACalls P) nm ρ σ K (.eqI neg lit ts x x')) : Good P w0 F o a w κ σ nm K := by
  have v1 := hI.opX hx
  have v2 := hI.opX hx'
  simp only [astep] at h
  split at h
  · rename_i r hr
    refine .value hI (v := .bool (r != neg)) ?_ (.bool _) h
    have hi : (∃ t1 u', a.eval y = .iface t1 u') ∨ a.eval y = .nilIface := by
      unfold eqIv at hr
      split at hr
      · rename_i h1 _; rw [h1] at v1; exact .inr v1.nili_inv
      · rename_i h1 _; rw [h1] at v1; exact .inr v1.nili_inv
      · rename_i h1 _; rw [h1] at v1; obtain ⟨v', e, _⟩ := v1.iface_inv; exact .inl ⟨_, v', e⟩
      · rename_i h1 _; rw [h1] at v1; obtain ⟨v', e, _⟩ := v1.iface_inv; exact .inl ⟨_, v', e⟩
      · rename_i h1 _; rw [h1] at v1; obtain ⟨v', e, _⟩ := v1.iface_inv; exact .inl ⟨_, v', e⟩
      · cases hr
    have hb := binOp_eq (neg := neg) (run_equal_iface ht hts v1 v2 hr) (hi.imp id .inl)
    simp [execOp, hop, run_eqGuard_iface (P := P) hl v1 v2 hr, hb]
  · exact h.elim

theorem run_ep_nb (d : Nat) {t e : TypeId} (ht : P.underlying t = some (.pointer e)) (b : Option Addr) : (Op.equalIn (d + 1) t (.pointer none) (.pointer b)).run P w = .ok b.isNone w := by
  rw [Op.equalIn.eq_2]; simp [underlying, ht]
theorem run_ep_sn (d : Nat) {t e : TypeId} (ht : P.underlying t = some (.pointer e)) (b : Addr) : (Op.equalIn (d + 1) t (.pointer (some b)) (.pointer none)).run P w = .ok false w := by
  rw [Op.equalIn.eq_2]; simp [underlying, ht]
theorem run_ep_ss (d : Nat) {t e : TypeId} (ht : P.underlying t = some (.pointer e)) {k : Nat} (hk : sizeOf' P e = some (k + 1)) (b i j : Nat) : (Op.equalIn (d + 1) t (.pointer (some ⟨b, i, none⟩)) (.pointer (some ⟨b, j, none⟩))).run P w = .ok (i == j) w := by
  have hs := run_sizeOf (w := w) hk
  have : ((⟨b, i, none⟩ : Addr) == ⟨b, j, none⟩) = (i == j) := by
    rw [Bool.eq_iff_iff]; simp
  rw [Op.equalIn.eq_2]; simp [underlying, ht, hs, sameAddr, this]

theorem ok_eqP (hI : Inv w0 F κ a w ρ σ) {neg : Bool} {t t' e : TypeId} {y z : Operand} {x x' : X} (hop : o.op = .binOp (if neg then .neq else .eql) t y z t') (ht : P.underlying t = some (.pointer e)) {k : Nat} (hk : sizeOf' P e = some (k + 1)) (hx : opX y = some x) (hx' : opX z = some x')
    (h : astep (ACalls P) nm ρ σ K (.eqP neg x x')) : Good P w0 F o a w κ σ nm K := by
  have v1 := hI.opX hx
  have v2 := hI.opX hx'
  simp only [astep] at h
  split at h
  · rename_i r hr
    refine .value hI (v := .bool (r != neg)) ?_ (.bool _) h
    have hq : (∃ p, a.eval y = .pointer p) ∧ (∃ p, a.eval z = .pointer p) ∧ (Op.equalIn (9999 + 1) t (a.eval y) (a.eval z)).run P w = .ok r w := by
      unfold eqPv at hr
      split at hr
      · rename_i h1 h2; rw [h1] at v1; rw [h2] at v2
        simp only [Option.some.injEq] at hr; subst hr
        rw [v1.nilp_inv, v2.nilp_inv]
        exact ⟨⟨_, rfl⟩, ⟨_, rfl⟩, run_ep_nb _ ht _⟩
      · rename_i h1 h2; rw [h1] at v1; rw [h2] at v2
        simp only [Option.some.injEq] at hr; subst hr
        rw [v1.nilp_inv, v2.ptr_inv.1]
        exact ⟨⟨_, rfl⟩, ⟨_, rfl⟩, run_ep_nb _ ht _⟩
      · rename_i h1 h2; rw [h1] at v1; rw [h2] at v2
        simp only [Option.some.injEq] at hr; subst hr
        rw [v1.ptr_inv.1, v2.nilp_inv]
        exact ⟨⟨_, rfl⟩, ⟨_, rfl⟩, run_ep_sn _ ht _⟩
      · rename_i n i m j h1 h2; rw [h1] at v1; rw [h2] at v2
        split at hr
        · rename_i he; subst he
          simp only [Option.some.injEq] at hr; subst hr
          rw [v1.ptr_inv.1, v2.ptr_inv.1]
          refine ⟨⟨_, rfl⟩, ⟨_, rfl⟩, ?_⟩
          exact run_ep_ss _ ht hk _ _ _
        · cases hr
      · cases hr
    obtain ⟨⟨p, hp⟩, ⟨q, hq'⟩, he⟩ := hq
    rw [hp, hq'] at he
    have hb := binOp_eq (neg := neg) (t := t) (u := .pointer p) (v := .pointer q) he (.inr (.inr ⟨_, rfl⟩))
    have hg : (eqGuard (if neg then .neq else .eql) t y z (.pointer p) (.pointer q)).run P w = .ok () w := by cases neg <;> simp [eqGuard]
    simp [execOp, hop, hp, hq', hg, hb]
  · exact h.elim

theorem mn_ok : ∀ {xs : List AV} {us : List Value} {x z : AV} {u : Value}, Vl κ w us xs → V κ w u x → xs.foldlM mn2 x = some z → ∃ v, (us.foldlM (m := Sem) Builtin.min2 u).run P w = .ok v w ∧ V κ w v z
  | _, _, x, z, u, .nil, hu, h => by
    simp only [List.foldlM_nil, Option.pure_def, Option.some.injEq] at h; subst h
    exact ⟨u, by simp, hu⟩
  | _, _, x, z, u, .cons v y vs ys h1 t, hu, h => by
    simp only [List.foldlM_cons] at h
    cases hx : mn2 x y with
    | none => rw [hx] at h; cases h
    | some x' =>
      rw [hx] at h
      unfold mn2 at hx
      split at hx
      · simp only [Option.some.injEq] at hx; subst hx
        obtain ⟨v', g1, g2⟩ := mn_ok t (.int _ _) h
        refine ⟨v', ?_, g2⟩
        rw [hu.int_inv, h1.int_inv]
        simp [Builtin.min2, g1]
      · cases hx
theorem mx_ok : ∀ {xs : List AV} {us : List Value} {x z : AV} {u : Value}, Vl κ w us xs → V κ w u x → xs.foldlM mx2 x = some z → ∃ v, (us.foldlM (m := Sem) Builtin.max2 u).run P w = .ok v w ∧ V κ w v z
  | _, _, x, z, u, .nil, hu, h => by
    simp only [List.foldlM_nil, Option.pure_def, Option.some.injEq] at h; subst h
    exact ⟨u, by simp, hu⟩
  | _, _, x, z, u, .cons v y vs ys h1 t, hu, h => by
    simp only [List.foldlM_cons] at h
    cases hx : mx2 x y with
    | none => rw [hx] at h; cases h
    | some x' =>
      rw [hx] at h
      unfold mx2 at hx
      split at hx
      · simp only [Option.some.injEq] at hx; subst hx
        obtain ⟨v', g1, g2⟩ := mx_ok t (.int _ _) h
        refine ⟨v', ?_, g2⟩
        rw [hu.int_inv, h1.int_inv]
        simp [Builtin.max2, g1]
      · cases hx

theorem ok_mn (hI : Inv w0 F κ a w ρ σ) {c : Call} {xs : List X} (hop : o.op = .call c) (hc : c.callee = .builtin .min) (hx : opXs c.args.toList = some xs)
    (h : astep (ACalls P) nm ρ σ K (.mn xs)) : Good P w0 F o a w κ σ nm K := by
  have v1 := hI.opXs hx
  simp only [astep] at h
  split at h
  · exact h.elim
  · rename_i y r hy
    obtain ⟨z, hz, hk⟩ := opt_some h
    rw [hy] at v1
    generalize hl : List.map a.eval c.args.toList = l at v1
    cases v1 with
    | cons v _ vs _ h1 t =>
      obtain ⟨u, g1, g2⟩ := mn_ok (P := P) t h1 hz
      refine .value hI (v := u) ?_ g2 hk
      exact call_builtin hop hc rfl rfl (fun cs => by rw [hl]; simp [builtin, Builtin.min_, g1])
theorem ok_mx (hI : Inv w0 F κ a w ρ σ) {c : Call} {xs : List X} (hop : o.op = .call c) (hc : c.callee = .builtin .max) (hx : opXs c.args.toList = some xs)
    (h : astep (ACalls P) nm ρ σ K (.mx xs)) : Good P w0 F o a w κ σ nm K := by
  have v1 := hI.opXs hx
  simp only [astep] at h
  split at h
  · exact h.elim
  · rename_i y r hy
    obtain ⟨z, hz, hk⟩ := opt_some h
    rw [hy] at v1
    generalize hl : List.map a.eval c.args.toList = l at v1
    cases v1 with
    | cons v _ vs _ h1 t =>
      obtain ⟨u, g1, g2⟩ := mx_ok (P := P) t h1 hz
      refine .value hI (v := u) ?_ g2 hk
      exact call_builtin hop hc rfl rfl (fun cs => by rw [hl]; simp [builtin, Builtin.max_, g1])

theorem map_erase {α β : Type} (f : α → β) : ∀ (l : List α) (i : Nat), (l.eraseIdx i).map f = (l.map f).eraseIdx i
  | [], i => by simp
  | x :: l, 0 => rfl
  | x :: l, i + 1 => by simp [map_erase f l i]

theorem ok_del (hI : Inv w0 F κ a w ρ σ) {c : Call} {t kt e : TypeId} {ts : List TypeId} {y y' : Operand} {x x' : X} {kk : Nat} (hop : o.op = .call c) (hc : c.callee = .builtin .delete) (ha : c.args.toList = [y, y']) (ht : c.argTypes.toList = t :: ts)
    (hu : P.underlying t = some (.map kt e)) (hk : keyKind P kt = some kk) (hx : opX y = some x) (hx' : opX y' = some x')
    (h : astep (ACalls P) nm ρ σ K (.del kk x x')) : Good P w0 F o a w κ σ nm K := by
  have v1 := hI.opX hx
  have v2 := hI.opX hx'
  simp only [astep] at h
  split at h
  · rename_i n hn
    rw [hn] at v1
    obtain ⟨e1, hd⟩ := v1.map_inv
    split at h
    · rename_i es ts cl hr
      obtain ⟨_, ents, g1, g2, g3, g4, g5, g6⟩ := hI.r.own n _ hr
      split at h
      · rename_i hs
        obtain ⟨d, hdd, hds⟩ := kind_shape hk hs
        have hg := run_getMap (P := P) g1
        split at h
        · rename_i r hf
          rcases find_ok v2 hds 0 g2 hf with ⟨q, _⟩ | ⟨v', j, u, e', q, g⟩
          · cases q
          · have hjl : j < ents.length := (List.getElem?_eq_some_iff.1 g.at_).1
            obtain ⟨w', r1, r2, r3⟩ := run_setMap (P := P) g1 (.map ⟨ents.eraseIdx j⟩ cl)
            have hsub : ∀ t ∈ ts.eraseIdx j, t ∈ ts := fun t ht => List.mem_of_mem_eraseIdx ht
            obtain ⟨ee, hr'⟩ := hI.r.set_map hr r2 r3.block r3.size (g2.erase j) (by rw [map_erase, g4]) (g5.sublist (List.eraseIdx_sublist _ _)) (fun t ht => g6 t (hsub t ht))
            rw [g.del, g.idx] at h
            refine .value' (v := .tuple #[]) (.own ee rfl hr' (hI.fr.owned hI.r rfl hr r3.os r3.tape r3.output r3.size r3.block) rfl) ?_ (.tup [] [] .nil) h
            have hfk := run_findKey (P := P) (w := w) hdd g.now
            rw [Nat.zero_add] at hfk
            have her : (⟨ents⟩ : Array MapEntry).eraseIdxIfInBounds j = ⟨ents.eraseIdx j⟩ := by
              apply Array.ext'
              simp [Array.eraseIdxIfInBounds, hjl]
            exact call_builtin hop hc ha ht (fun cs => by simp [builtin, Builtin.delete_, e1, underlying, hu, hg, run_checkKey hk, hfk, r1])
        · rename_i hf
          rcases find_ok v2 hds 0 g2 hf with ⟨_, q1, _, q2⟩ | ⟨v', j, u, e', q, g⟩
          · obtain ⟨w', r1, r2, r3⟩ := run_setMap (P := P) g1 (.map ⟨ents⟩ cl)
            obtain ⟨ee, hr'⟩ := hI.r.set_map hr r2 r3.block r3.size g2 g4 g5 g6
            rw [St.set_self hr] at hr'
            refine .value' (v := .tuple #[]) (.own ee rfl hr' (hI.fr.owned hI.r rfl hr r3.os r3.tape r3.output r3.size r3.block) rfl) ?_ (.tup [] [] .nil) h
            have hfk := run_findKey (P := P) (w := w) hdd q1
            exact call_builtin hop hc ha ht (fun cs => by simp [builtin, Builtin.delete_, e1, underlying, hu, hg, run_checkKey hk, hfk, r1])
          · cases q
        · exact h.elim
      · exact h.elim
    · exact h.elim
  · exact h.elim

/-! ### Calls -/
theorem run_callFunc {f : Nat} (h : Enters P f) (args : Array Value) : (callFunc f args).run P w = .ok (.enter f args) w := by
  obtain ⟨fn, h1, h2, h3⟩ := h
  simp only [callFunc, Sem.run_bind, run_program, Result.andThen_ok, h1]
  have h3' : ¬ (fn.name == "runtime.NumGoroutine") = true := by rw [h3]; simp
  have h2' : ¬ fn.body.isNone = true := by rw [h2]; simp
  rw [if_neg h3', if_neg h2']
  simp

theorem good_enter (hI : Inv w0 F κ a w ρ σ) {f : Nat} {vs : List Value} {xs : List AV} (he : (execOp a.eval o).run P w = .ok (.enter f ⟨vs⟩) w) (hv : Vl κ w vs xs) (h : ACalls P f xs σ K) : Good P w0 F o a w κ σ nm K := by
  intro next Q hn
  unfold Oper.wp
  rw [he]
  simp only [Oper.upon]
  refine (h.2 κ w vs _ F hI.r hv).mono ?_
  rintro e w' ⟨v, x, κ', σ', rfl, h2, h3, h4, h5, h6, h7, h8⟩
  exact hn v w' κ' x σ' ⟨h2, fun n hd => (h3 n hd).imp id .inr, hI.r.widen hI.hB h4, hI.fr.widen hI.r rfl h5, h6⟩ h7 h8

theorem Vl.app : ∀ {us vs : List Value} {xs ys : List AV}, Vl κ w us xs → Vl κ w vs ys → Vl κ w (us ++ vs) (xs ++ ys)
  | _, _, _, _, .nil, k => by simpa using k
  | _, _, _, _, .cons v x _ _ h t, k => by simpa using Vl.cons v x _ _ h (Vl.app t k)

theorem ok_call (hI : Inv w0 F κ a w ρ σ) {c : Call} {f : Nat} {xs : List X} (hop : o.op = .call c) (hc : c.callee = .value (.func f)) (hx : opXs c.args.toList = some xs)
    (h : ACalls P f (xs.map (ev ρ)) σ K) : Good P w0 F o a w κ σ nm K := by
  refine good_enter hI (f := f) (vs := c.args.toList.map a.eval) ?_ (hI.opXs hx) h
  obtain ⟨callee, ⟨al⟩, ts⟩ := c
  simp only at hc; subst hc
  simp [execOp, hop, resolve, Act.eval, Deferred.ofValue, invoke, run_callFunc h.1]

theorem ok_callv (hI : Inv w0 F κ a w ρ σ) {c : Call} {y : Operand} {x : X} {f : Nat} {fi ca : List AV} {xs : List X} (hop : o.op = .call c) (hc : c.callee = .value y) (hy : opX y = some x) (hx : opXs c.args.toList = some xs) (he : ev ρ x = .func f fi ca)
    (h : ACalls P f (fi ++ xs.map (ev ρ) ++ ca) σ K) : Good P w0 F o a w κ σ nm K := by
  have v1 := hI.opX hy
  rw [he] at v1
  obtain ⟨p, q, e1, hp, hq⟩ := v1.func_inv
  refine good_enter hI (f := f) (vs := p ++ c.args.toList.map a.eval ++ q) ?_ ((hp.app (hI.opXs hx)).app hq) h
  obtain ⟨callee, ⟨al⟩, ts⟩ := c
  simp only at hc; subst hc
  simp [execOp, hop, resolve, e1, Deferred.ofValue, invoke, run_callFunc h.1]
end
end Go.VL

/- The value logic, part W: nil slices, room, copy, and walks over maps and texts. -/
namespace Go.VL
section
variable {P : Program} {w0 : World} {F : Nat → Prop} {o : Oper} {a : Act} {w : World} {κ : Kx} {ρ : List AV} {σ : St} {nm : Nat} {K : AV → St → Prop}

theorem flat_len' {k : Nat} : ∀ {zs : List AV}, (∀ z ∈ zs, z.cells.length = k) → (zs.flatMap AV.cells).length = zs.length * k
  | [], _ => by simp
  | p :: r, h => by
    simp only [List.flatMap_cons, List.length_append, List.length_cons, Nat.add_mul, flat_len' (fun x hx => h x (List.mem_cons_of_mem _ hx)), h p (List.mem_cons_self ..)]
    omega

theorem run_es (d : Nat) {t e : TypeId} (ht : P.underlying t = some (.slice e)) (A : Option Addr) (n c : Nat) : (Op.equalIn (d + 1) t (.slice A n c) (.slice none 0 0)).run P w = .ok A.isNone w := by
  rw [Op.equalIn.eq_2]
  cases A <;> simp [underlying, ht]

theorem ok_eqS (hI : Inv w0 F κ a w ρ σ) {neg : Bool} {t t' e : TypeId} {y z : Operand} {x : X} (hop : o.op = .binOp (if neg then .neq else .eql) t y z t') (ht : P.underlying t = some (.slice e)) (hz : nilC z = true) (hx : opX y = some x)
    (h : astep (ACalls P) nm ρ σ K (.eqS neg x)) : Good P w0 F o a w κ σ nm K := by
  have v1 := hI.opX hx
  have ez : a.eval z = .slice none 0 0 := by
    unfold nilC at hz
    split at hz
    · rfl
    · cases hz
  have hrun : ∀ A n c, a.eval y = .slice A n c → (execOp a.eval o).run P w = .ok (.value (.bool (A.isNone != neg))) w := by
    intro A n c e1
    have he := run_es (P := P) (w := w) 9999 ht A n c
    have he' : (Op.equal t (.slice A n c) (.slice none 0 0)).run P w = .ok A.isNone w := he
    cases neg <;> simp [execOp, hop, e1, ez, eqGuard, binOp, he']
  simp only [astep] at h
  split at h
  · rename_i xs hn
    rw [hn] at v1
    generalize hy : a.eval y = vy at v1
    cases v1 with
    | slnil g hg => exact .value hI (hrun none 0 0 hy) (.bool _) h
    | slz A g hg => rcases hg with hg | hg <;> cases hg
  · rename_i xs g _ hn
    rw [hn] at v1
    rcases v1.sl_inv with ⟨A, e1, rfl⟩ | ⟨b, i, cap, kq, e1, _⟩
    · simp only [List.isEmpty_nil, if_true] at h
      exact .value hI (hrun A 0 0 e1) (.bool _) (h _)
    · split at h
      · exact .value hI (hrun _ _ _ e1) (.bool _) (h _)
      · exact .value hI (hrun _ _ _ e1) (.bool _) h
  · rename_i n off len hn
    rw [hn] at v1
    obtain ⟨cap, e1, _, _⟩ := v1.ref_inv
    exact .value hI (hrun _ _ _ e1) (.bool _) h
  · rename_i g n hn
    rw [hn] at v1
    obtain ⟨o', cap, e1, _⟩ := v1.room_inv
    exact .value hI (hrun _ _ _ e1) (.bool _) h
  · exact h.elim

theorem ok_cap (hI : Inv w0 F κ a w ρ σ) {c : Call} {y : Operand} {x : X} {t e : TypeId} {ts : List TypeId} (hop : o.op = .call c) (hc : c.callee = .builtin .cap) (ha : c.args.toList = [y]) (ht : c.argTypes.toList = t :: ts)
    (hu : P.underlying t = some (.slice e)) (hx : opX y = some x) (h : astep (ACalls P) nm ρ σ K (.cap x)) : Good P w0 F o a w κ σ nm K := by
  have v1 := hI.opX hx
  have hrun : ∀ A, a.eval y = .slice A 0 0 → K (.int .i64 0) σ → Good P w0 F o a w κ σ nm K := by
    intro A e1 hk
    exact .value hI (v := .int .i64 0) (call_builtin hop hc ha ht (fun cs => by simp [builtin, Builtin.cap_, e1, underlying, hu, goInt])) (.int _ _) hk
  simp only [astep] at h
  split at h
  · rename_i xs hn
    rw [hn] at v1
    generalize hy : a.eval y = vy at v1
    cases v1 with
    | slnil g hg => exact hrun none hy h
    | slz A g hg => rcases hg with hg | hg <;> cases hg
  · rename_i xs hn
    rw [hn] at v1
    generalize hy : a.eval y = vy at v1
    cases v1 with
    | slnil g hg => exact hrun none hy h
    | slz A g hg => exact hrun _ hy h
  · exact h.elim

/-- a slice's or text's first cells, read -/
theorem src_first {B : Nat} {F : Nat → Prop} (hR : R B F κ w σ) {v : Value} {x : AV} {ys : List AV} {k : Nat} (hv : V κ w v x) (hs : srcOf σ k x = some ys) (hk : ys.all (AV.fits k) = true) {m : Nat} (hm : m ≤ ys.length) :
    ∃ us, (Builtin.firstCells k m v).run P w = .ok ⟨us⟩ w ∧ Vl κ w us ((ys.take m).flatMap AV.cells) ∧ (Builtin.lenOf v).run P w = .ok ys.length w := by
  obtain ⟨us, h1, h2, h3⟩ := src_ok (P := P) (k := k) hR hv hs (all_cl hk)
  have hl := h3 w.drawn
  refine ⟨us.take (m * k), ?_, by rw [flat_take m hk]; exact h2.take _, hl⟩
  have hf := h1 w.drawn
  have ew : ({ w with drawn := w.drawn } : World) = w := rfl
  rw [ew] at hf
  have hlu : us.length = ys.length * k := by rw [h2.length, flat_len hk]
  unfold srcOf at hs
  split at hs
  · rename_i zs g
    simp only [Option.some.injEq] at hs; subst hs
    rcases hv.sl_inv with ⟨A, rfl, rfl⟩ | ⟨b, i, cap, kq, rfl, g1, _, hvs⟩
    · have hm0 : m = 0 := by simpa using hm
      subst hm0
      cases A with
      | none => simp [Builtin.firstCells]
      | some A =>
        have hr := run_loadCells_list (P := P) (w := w) A [] (fun j v hj => by simp at hj)
        simp at hr
        simp [Builtin.firstCells, hr]
    · obtain ⟨us2, q1, q2, q3⟩ := hvs.row
      have hr0 := run_loadCells_list (P := P) (w := w) ⟨b, i, none⟩ us2 (fun j v hj => by rw [add_spot]; exact q3 j v hj)
      have hlz : us2.length = zs.length * k := by
        rw [q2]
        have : ∀ z ∈ zs, z.cells.length = k := fun z hz => by rw [← er_len' z]; exact all_cl hk _ (List.mem_map_of_mem hz)
        exact flat_len' this
      have hus : us = us2 := by
        simp only [Builtin.firstCells, List.length_map] at hf
        rw [← hlz, hr0] at hf
        simp only [Result.ok.injEq, Array.mk.injEq] at hf
        exact hf.1.symm
      subst hus
      have hr := run_loadCells_list (P := P) (w := w) ⟨b, i, none⟩ (us.take (m * k)) (fun j v hj => by
        rw [add_spot]; exact q3 j v (by rw [List.getElem?_take] at hj; split at hj <;> simp_all))
      have hmk : m * k ≤ us.length := by rw [hlz]; exact Nat.mul_le_mul_right _ (by simpa using hm)
      rw [List.length_take, Nat.min_eq_left hmk] at hr
      simp [Builtin.firstCells, hr]
  · rename_i s
    simp only [Option.some.injEq] at hs; subst hs
    have := hv.str_inv
    subst this
    have hk1 : k = 1 ∨ (bytesAV s.data.toList) = [] := by
      cases hb : s.data.toList with
      | nil => right; rfl
      | cons b r =>
        left
        rw [hb] at hk
        have := (fits_iff (List.all_eq_true.1 hk (.int .u8 b.toNat) (by simp [bytesAV]))).2.1
        simpa [AV.cells] using this.symm
    have he : s.extract 0 (bytesAV s.data.toList).length = s := by
      obtain ⟨d⟩ := s
      simp [bytesAV, ByteArray.extract, ByteArray.copySlice]
    simp only [Builtin.firstCells, he, Sem.run_pure, Result.ok.injEq] at hf
    have hus : us = s.data.toList.map fun b => Value.int .u8 b.toNat := by
      have h0 := congrArg Array.toList hf.1
      simpa using h0.symm
    rcases hk1 with rfl | hnil
    · subst hus
      simp only [Builtin.firstCells, Sem.run_pure, Nat.mul_one, Result.ok.injEq, and_true]
      apply Array.ext'
      obtain ⟨d⟩ := s
      simp [ByteArray.extract, ByteArray.copySlice]
    · have hd : s.data.toList = [] := by simpa [bytesAV] using hnil
      have hm0 : m = 0 := by rw [hnil] at hm; simpa using hm
      subst hm0
      simp only [Builtin.firstCells, Sem.run_pure, Nat.zero_mul, List.take_zero, Result.ok.injEq, and_true]
      apply Array.ext'
      obtain ⟨d⟩ := s
      simp [ByteArray.extract, ByteArray.copySlice]
  · rename_i n off len
    split at hs
    · rename_i cs hr
      split at hs
      · rename_i hc
        obtain ⟨rfl, hle, hone⟩ := hc
        simp only [Option.some.injEq] at hs; subst hs
        obtain ⟨us2, k1, k2, k3, k4⟩ := ref_ok (P := P) hR hv hr hle hone
        have hll : (((cs.drop off).take len).map AV.er1).length = len := by rw [List.length_map, List.length_take, List.length_drop]; omega
        rw [hll] at hf hm
        have hf2 := k1 len w.drawn (Nat.le_refl _)
        rw [ew, List.take_of_length_le (by omega)] at hf2
        rw [hf2] at hf
        simp only [Result.ok.injEq, Array.mk.injEq, and_true] at hf
        have hf3 := k1 m w.drawn hm
        rw [ew] at hf3
        rw [Nat.mul_one, ← hf]; exact hf3
      · cases hs
    · cases hs
  · cases hs

theorem ok_copy (hI : Inv w0 F κ a w ρ σ) {c : Call} {y z : Operand} {x x' : X} {t e : TypeId} {ts : List TypeId} {k : Nat} (hop : o.op = .call c) (hc : c.callee = .builtin .copy) (ha : c.args.toList = [y, z]) (ht : c.argTypes.toList = t :: ts)
    (hu : P.underlying t = some (.slice e)) (hk : sizeOf' P e = some k) (hx : opX y = some x) (hx' : opX z = some x') (h : astep (ACalls P) nm ρ σ K (.copy k x x')) : Good P w0 F o a w κ σ nm K := by
  have v1 := hI.opX hx
  have v2 := hI.opX hx'
  simp only [astep] at h
  split at h
  · rename_i n off len hn
    rw [hn] at v1
    obtain ⟨cap, e1, hcap, hd⟩ := v1.ref_inv
    split at h
    · rename_i cs hr
      split at h
      · rename_i ys hys
        split at h
        · rename_i hcond
          simp only [Bool.and_eq_true, decide_eq_true_eq] at hcond
          obtain ⟨hall, hle⟩ := hcond
          obtain ⟨us, f1, f2, f3⟩ := src_first (P := P) hI.r v2 hys hall (m := min ys.length len) (Nat.min_le_left _ _)
          obtain ⟨hdom, us0, rest, tt, fz, g1, g2, g3, g4⟩ := hI.r.own n _ hr
          have hl := g3.length
          have htk : ys.take (min ys.length len) = ys.take len := by
            rcases Nat.le_total ys.length len with hh | hh
            · rw [Nat.min_eq_left hh, List.take_of_length_le (Nat.le_refl _), List.take_of_length_le hh]
            · rw [Nat.min_eq_right hh]
          rw [htk] at f2
          have hlu : us.length ≤ len * k := by
            rw [f2.length, flat_len (all_take _ hall)]
            exact Nat.mul_le_mul_right _ (by rw [List.length_take]; exact Nat.min_le_left _ _)
          have hone : ∀ u ∈ us, u.oneCell' = true := by
            refine f2.ones (List.all_eq_true.2 fun q hq => ?_)
            obtain ⟨p, hp, hqp⟩ := List.mem_flatMap.1 hq
            exact List.all_eq_true.1 (fits_iff (List.all_eq_true.1 (all_take _ hall) p hp)).2.2 q hqp
          obtain ⟨w', r1, r2, r3⟩ := run_storeCells (P := P) (N := us0.length) us off w (us0 ++ rest) g1 g2 (by omega) (by simp) hone off 0 rfl
          have hsp : (us0 ++ rest).take off ++ us ++ (us0 ++ rest).drop (off + us.length) = (us0.take off ++ us ++ us0.drop (off + us.length)) ++ rest := by
            rw [List.take_append_of_le_length (by omega), List.drop_append_of_le_length (by omega), List.append_assoc _ _ rest]
          rw [hsp] at r2
          obtain ⟨e', hr'⟩ := hI.r.set_obj (cs' := splice cs off ((ys.take len).flatMap AV.cells)) hr r2 (by
              refine g2.imp id (fun hx => Nat.le_trans ?_ hx)
              simp only [List.length_append, List.length_take, List.length_drop]
              omega) r3.block r3.size
            (((g3.take off).append f2).append (by have := g3.drop (off + ((ys.take len).flatMap AV.cells).length); rwa [← f2.length] at this ⊢))
          refine .value' (v := .int .i64 (min ys.length len : Nat)) (.own e' rfl hr' (hI.fr.owned hI.r rfl hr r3.os r3.tape r3.output r3.size r3.block) rfl) ?_ (.int _ _) h
          refine call_builtin hop hc ha ht (fun cs => ?_)
          have hmin : Nat.min ys.length len = min ys.length len := rfl
          simp [builtin, Builtin.copy_, e1, underlying, hu, run_sizeOf hk, f3, hmin, f1, r1, goInt]
        · exact h.elim
      · exact h.elim
    · exact h.elim
  · rename_i xs g hn
    rw [hn] at v1
    split at h
    · rename_i ys hys
      split at h
      · rename_i hcond
        simp only [Bool.and_eq_true, List.isEmpty_iff] at hcond
        obtain ⟨rfl, hall⟩ := hcond
        obtain ⟨us, f1, f2, f3⟩ := src_first (P := P) hI.r v2 hys hall (m := 0) (Nat.zero_le _)
        have hus : us = [] := by have := f2.length; simpa using this
        subst hus
        have hy : ∃ A c, a.eval y = .slice A 0 c := by
          rcases v1.sl_inv with ⟨A, e1, _⟩ | ⟨b, i, cap, kq, e1, _⟩
          · exact ⟨_, _, e1⟩
          · exact ⟨_, _, e1⟩
        obtain ⟨A, c', e1⟩ := hy
        refine .value hI (v := .int .i64 0) ?_ (.int _ _) h
        refine call_builtin hop hc ha ht (fun cs => ?_)
        have hmin : Nat.min ys.length 0 = 0 := Nat.min_zero _
        cases A <;> simp [builtin, Builtin.copy_, e1, underlying, hu, run_sizeOf hk, f3, f1, goInt, storeCells]
      · exact h.elim
    · exact h.elim
  · exact h.elim

theorem ok_appZ (hI : Inv w0 F κ a w ρ σ) (hn : ¬ κ.dom nm) (hlt : nm < σ.next) {c : Call} {y z : Operand} {x x' : X} {t u e : TypeId} {ti : TypeInfo} {k : IntKind} {zz : AV} (hop : o.op = .call c) (hc : c.callee = .builtin .append)
    (ha : c.args.toList = [y, z]) (ht : c.argTypes.toList = [t, u]) (hu : P.underlying t = some (.slice e)) (hd : P.underlying u = some (.int k)) (hi : P.info? e = some ti) (hz : zeroOf P e = some zz) (hsp : 0 < ti.size) (_ : 0 < ti.bytes) (hzl : zz.cells.length = ti.size)
    (hx : opX y = some x) (hx' : opX z = some x') (h : astep (ACalls P) nm ρ σ K (.appZ ti.size ti.bytes zz x x')) : Good P w0 F o a w κ σ nm K := by
  have v1 := hI.opX hx
  have v2 := hI.opX hx'
  obtain ⟨ti', zv, hi', hz2, hz3⟩ := zeroOf_ok hz
  rw [hi] at hi'; simp only [Option.some.injEq] at hi'; subst hi'
  simp only [astep] at h
  split at h
  · rename_i g k1 n h1 h2
    rw [h1] at v1; rw [h2] at v2
    split at h
    · rename_i hcond
      obtain ⟨hg, hn0, hnb, hnm, hzf⟩ := hcond
      have hy : ∃ A, a.eval y = .slice A 0 0 := by
        generalize hvy : a.eval y = vy at v1
        cases v1 with
        | slnil g hg' => exact ⟨_, rfl⟩
        | slz A g hg' => exact ⟨_, rfl⟩
        | sl b i cap kq xs hk hc' hh => simp [Ver.noRoom] at hg
        | tip i cap gg xs hkq hcap hgd he1 he2 hvs => simp [Ver.noRoom] at hg
      obtain ⟨A, ey⟩ := hy
      have e2 := v2.int_inv
      obtain ⟨m, rfl⟩ := Int.eq_ofNat_of_zero_le (Int.le_of_lt hn0)
      have hm0 : 0 < m := by omega
      have hmb : m * ti.bytes ≤ 70368744177664 := by
        have h0 : ((m * ti.bytes : Nat) : Int) ≤ 70368744177664 := by rw [Int.natCast_mul]; exact hnb
        omega
      have hvz := (constV_ok (κ := κ) (w := w) hz3).cells (constV_ne hz3)
      have hzs : zv.cells.size = ti.size := by have := hvz.length; rw [hzl] at this; simpa using this
      have hw : IntKind.i64.wrap (m : Int) = m := by simp [IntKind.wrap, IntKind.bits, IntKind.signed]; omega
      have hm1 : (m : Int) ≤ 4611686018427387904 := hnm
      have hcut : ∀ T, m ≤ (Question.appendCap m 0 e).cut T := fun T => by simp [Question.cut]
      have hb1 : ¬ (Builtin.nextslicecap m 0 * ti.bytes > 2 ^ 48) := by
        have h1 := next_le (need := m) (cap := 0) hm0
        have h2 := mul_two hmb
        have h3 := Nat.mul_le_mul_right ti.bytes h1
        omega
      have hb2 : ¬ ((281474976710656 : Int) < (m : Int) * ti.bytes) := by omega
      have hzc : ∀ r, (Builtin.zeroCells zv.cells r).toList = (List.replicate r zv.cells.toList).flatten := fun r => range_mod (by omega) r
      generalize hC : (Question.appendCap m 0 e).cut (w.tape w.drawn (.appendCap m 0 e)) = C
      have hCm : m ≤ C := by rw [← hC]; exact hcut _
      have hfl : (List.replicate m zz).flatMap AV.cells = (List.replicate m zz.cells).flatten := by simp [List.flatMap]
      have hlen : ((List.replicate m zv.cells.toList).flatten).length = m * ti.size := by
        rw [List.length_flatten, List.map_replicate, List.sum_replicate_nat, Array.length_toList, hzs]
      have hK : held ti.size nm σ K (List.replicate m zz) .room := by
        simp only [held, List.length_replicate]; simpa using h
      refine held_ok (us := (List.replicate m zv.cells.toList).flatten) (rest := (List.replicate (C - m) zv.cells.toList).flatten) (t := e) (fz := (0, 0)) (cap := C) (n := m) (k := ti.size) (xs := List.replicate m zz) (hd := .room) hI (fun _ _ => ⟨hn, hlt⟩) (flat_rep _ hzf)
        (by rw [hfl]; exact hvz.rep _) ?_ (by simpa using hCm) (fun _ => .inl rfl) (.inl rfl) (by simp) hK ⟨w.drew, rfl, rfl, rfl, rfl, ?_⟩
      · rw [hlen, List.length_flatten, List.map_replicate, List.sum_replicate_nat, Array.length_toList, hzs, ← Nat.add_mul]
        exact Nat.mul_le_mul_right _ (by omega)
      · refine call_builtin hop hc ha ht (fun cs => ?_)
        have hsz : ∀ q, (sizeOf e).run P { w with drawn := q } = .ok ti.size { w with drawn := q } := fun q => by simp [sizeOf, typeInfo, hi]
        have hs0 : (sizeOf e).run P w = .ok ti.size w := hsz w.drawn
        have hti : (typeInfo e).run P w = .ok ti w := by simp [typeInfo, hi]
        have hti1 : (typeInfo e).run P w.drew = .ok ti w.drew := by simp [typeInfo, hi]
        have hzv1 : (zeroValue e).run P w.drew = .ok zv w.drew := by simp [zeroValue, typeInfo, hi, hz2]
        have ho1 : (Builtin.firstCells ti.size 0 (.slice A 0 0)).run P w.drew = .ok #[] w.drew := by
          cases A with
          | none => simp [Builtin.firstCells]
          | some A =>
            have hr := run_loadCells_list (P := P) (w := w.drew) A [] (fun j v hj => by simp at hj)
            simp at hr
            simp [Builtin.firstCells, hr]
        have hmz : ¬ (m = 0 ∨ ti.size = 0) := by omega
        have hnm2 : ¬ ((9223372036854775807 : Int) < (m : Int)) := by omega
        have hmax : IntKind.i64.max = 9223372036854775807 := by decide
        have hz0 : ∀ A B : Array Value, (#[] : Array Value) ++ A ++ B = ⟨A.toList ++ B.toList⟩ := fun A B => by apply Array.ext'; simp
        have hneg : ¬ ((m : Int) < 0) := by omega
        have hm00 : ¬ m = 0 := by omega
        simp [builtin, Builtin.append_, ey, e2, asInt, asIntOf, underlying, hu, hd, hs0, hw, hneg, hti, hb2, hm00, hmax, hnm2, hb1, Question.forced, hC, hti1, ho1, hzv1, newRow]
        rw [if_neg (Nat.mul_ne_zero hm00 (by omega))]
        congr 4
        apply Array.ext'
        rw [Array.toList_append, hzc, hzc]
    · exact h.elim
  · exact h.elim

theorem ok_cvt (hI : Inv w0 F κ a w ρ σ) {t e : TypeId} {y : Operand} {x : X} (hop : o.op = .convert t t y) (hu : P.underlying t = some (.slice e)) (he : P.underlying e = some (.int .u8)) (hx : opX y = some x)
    (h : astep (ACalls P) nm ρ σ K (.cvt x)) : Good P w0 F o a w κ σ nm K := by
  have v1 := hI.opX hx
  simp only [astep] at h
  split at h
  · rename_i n off len hn
    rw [hn] at v1
    obtain ⟨cap, e1, hcap, hd⟩ := v1.ref_inv
    split at h
    · rename_i cs hr
      obtain ⟨hdom, us, rest, tt, fz, g1, g2, g3, g4⟩ := hI.r.own n _ hr
      let N := (us ++ rest).length
      let fz' : Nat × Nat := if fz.1 == fz.2 then (N, N + 1) else (min fz.1 N, max fz.2 (N + 1))
      let w' : World := w.freeze { block := κ.φ n, off := N } 1
      have hb : w'.heap[κ.φ n]? = some (.cells ⟨us ++ rest⟩ tt fz') := by
        obtain ⟨lo, hi⟩ := fz
        simp only [w', World.freeze, fz']
        simp [Array.getElem?_modify, g1]
      have hsame : Same w w' (κ.φ n) := by
        refine ⟨by simp [w', World.freeze], by simp [w', World.freeze], by simp [w', World.freeze], by simp [w', World.freeze], fun b' hb' => ?_⟩
        have : ¬ κ.φ n = b' := fun e => hb' e.symm
        simp [w', World.freeze, Array.getElem?_modify, this]
      have hfz' : fzOk us.length fz' := by
        have hN : us.length ≤ N := by simp [N]
        simp only [fz']
        split
        · right; exact hN
        · rename_i hne
          rcases g2 with hx | hx
          · exact absurd (by simpa using hx) hne
          · right; simp only; omega
      obtain ⟨e', hr'⟩ := hI.r.set_obj (cs' := cs) hr hb hfz' hsame.block hsame.size g3
      rw [St.set_self hr] at hr'
      refine .value' (v := a.eval y) (.own e' rfl hr' (hI.fr.owned hI.r rfl hr hsame.os hsame.tape hsame.output hsame.size hsame.block) rfl) ?_ (by rw [e1]; exact .ref n off len cap hd hcap) h
      have hsh : (shape (κ.φ n)).run P w = .ok (some (tt, N)) w := by simp [shape, Sem.run, World.shape?, g1, N]
      simp [execOp, hop, convert, underlying, hu, he, e1, markStringish, hsh, freeze, Sem.run]
      rfl
    · exact h.elim
  · exact h.elim

/-! ### Walks -/
theorem run_getObj {b : Nat} {ob : Obj} (h : w.heap[b]? = some ob) (ho : ∀ c e f, ob ≠ .cells c e f) : (getObj b).run P w = .ok ob w := by
  cases ob <;> first | (exact absurd rfl (ho _ _ _)) | simp [getObj, Sem.run, h]

theorem ok_range (hI : Inv w0 F κ a w ρ σ) (hn : ¬ κ.dom nm) (hlt : nm < σ.next) {t kt e : TypeId} {y : Operand} {x : X} (hop : o.op = .range t y) (hu : P.underlying t = some (.map kt e)) (hx : opX y = some x)
    (h : astep (ACalls P) nm ρ σ K (.range x)) : Good P w0 F o a w κ σ nm K := by
  have v1 := hI.opX hx
  have hptr : ∀ {w' : World}, V (κ.name nm w.heap.size) w' (.pointer (some ⟨w.heap.size, 0, none⟩)) (.ptr nm 0) := by
    intro w'
    have := V.ptr (κ := κ.name nm w.heap.size) (w := w') nm 0 (.inr rfl)
    simpa [Kx.name] using this
  simp only [astep] at h
  split at h
  · rename_i hnn
    rw [hnn] at v1
    obtain ⟨e', hr⟩ := hI.r.new_other hI.hB hn hlt (.mapIter none 0 #[] 0) (.iter none 0 [] 0) (fun κ' w' hφ _ hw hI' => by
      refine And.intro (by rw [hφ, hw]; rfl) (And.intro (fun m' hm => by cases hm) (by rw [hφ]; exact hI')))
    refine .value' (κ' := κ.name nm w.heap.size) ⟨e', fun n hd => hd.imp id .inl, hr, hI.fr.alloc _, Nat.le_refl _⟩ (v := .pointer (some ⟨w.heap.size, 0, none⟩)) ?_ hptr h
    simp [execOp, hop, v1.nilm_inv, Instr.range, underlying, hu]
  · rename_i n hnn
    rw [hnn] at v1
    obtain ⟨e1, hd⟩ := v1.map_inv
    split at h
    · rename_i es ts clk hr0
      obtain ⟨_, ents, g1, g2, g3, _⟩ := hI.r.own n _ hr0
      have hg := run_getMap (P := P) g1
      obtain ⟨e', hr⟩ := hI.r.new_other hI.hB hn hlt (.mapIter (some (κ.φ n)) clk #[] clk) (.iter (some n) clk [] clk) (fun κ' w' hφ he hw hI' => by
        refine And.intro (by rw [hφ, hw]; simp [he.φ n hd]) (And.intro (fun m' hm => ?_) (by rw [hφ]; exact hI'))
        simp only [Option.some.injEq] at hm; subst hm; exact he.dom _ hd)
      refine .value' (κ' := κ.name nm w.heap.size) ⟨e', fun n hd => hd.imp id .inl, hr, hI.fr.alloc _, Nat.le_refl _⟩ (v := .pointer (some ⟨w.heap.size, 0, none⟩)) ?_ hptr h
      simp [execOp, hop, e1, Instr.range, underlying, hu, hg]
    · exact h.elim
  · exact h.elim

theorem ok_srange (hI : Inv w0 F κ a w ρ σ) (hn : ¬ κ.dom nm) (hlt : nm < σ.next) {t : TypeId} {y : Operand} {x : X} (hop : o.op = .range t y) (hu : P.underlying t = some .string) (hx : opX y = some x)
    (h : astep (ACalls P) nm ρ σ K (.srange x)) : Good P w0 F o a w κ σ nm K := by
  have v1 := hI.opX hx
  simp only [astep] at h
  split at h
  · rename_i s hnn
    rw [hnn] at v1
    obtain ⟨e', hr⟩ := hI.r.new_other hI.hB hn hlt (.stringIter s 0) (.siter s 0) (fun κ' w' hφ _ hw hI' => ⟨by rw [hφ, hw], by rw [hφ]; exact hI'⟩)
    refine .value' (κ' := κ.name nm w.heap.size) ⟨e', fun n hd => hd.imp id .inl, hr, hI.fr.alloc _, Nat.le_refl _⟩ (v := .pointer (some ⟨w.heap.size, 0, none⟩)) ?_ ?_ h
    · simp [execOp, hop, v1.str_inv, Instr.range, underlying, hu]
    · have := V.ptr (κ := κ.name nm w.heap.size) (w := w.alloc (.stringIter s 0)) nm 0 (.inr rfl)
      simpa [Kx.name] using this
  · exact h.elim

theorem Vm.get? : ∀ {es : List MapEntry} {ps : List (AV × AV)}, Vm κ w es ps → ∀ (i : Nat) (e : MapEntry), es[i]? = some e → ∃ p, ps[i]? = some p ∧ V κ w e.key p.1 ∧ V κ w e.val p.2
  | _, _, .nil, i, e, h => by simp at h
  | _, _, .cons e p es ps h1 h2 t, 0, e', h => by simp only [List.getElem?_cons_zero, Option.some.injEq] at h; subst h; exact ⟨p, rfl, h1, h2⟩
  | _, _, .cons e p es ps h1 h2 t, i + 1, e', h => by simpa using Vm.get? t i e' (by simpa using h)

theorem run_setObj {b : Nat} {ob : Obj} (h : w.heap[b]? = some ob) (ho : ∀ c e f, ob ≠ .cells c e f) (ob' : Obj) : ∃ w', (setObj b ob').run P w = .ok () w' ∧ w'.heap[b]? = some ob' ∧ Same w w' b := by
  have hlt := (Array.getElem?_eq_some_iff.1 h).1
  refine ⟨{ w with heap := w.heap.setIfInBounds b ob' }, by cases ob <;> first | (exact absurd rfl (ho _ _ _)) | simp [setObj, Sem.run, h], ?_, rfl, rfl, rfl, by simp, fun b' hb => ?_⟩
  · simp [hlt]
  · simp only [Array.getElem?_setIfInBounds]
    rw [if_neg (fun e => hb e.symm)]

theorem ok_snext (hI : Inv w0 F κ a w ρ σ) {y : Operand} {x : X} (hop : o.op = .next y true) (hx : opX y = some x)
    (h : astep (ACalls P) nm ρ σ K (.snext x)) : Good P w0 F o a w κ σ nm K := by
  have v1 := hI.opX hx
  simp only [astep] at h
  split at h
  · rename_i it hnn
    rw [hnn] at v1
    obtain ⟨e1, hd⟩ := v1.ptr_inv
    split at h
    · rename_i s pos hr
      obtain ⟨hdom, g1, g2⟩ := hI.r.own it _ hr
      have hg := run_getObj (P := P) g1 (by simp)
      split at h
      · rename_i hp
        obtain ⟨w', r1, r2, r3⟩ := run_setObj (P := P) g1 (by simp) (.stringIter s (pos + (Utf8.decode s pos).2))
        obtain ⟨e', hr'⟩ := hI.r.set_res (r' := .siter s (pos + (Utf8.decode s pos).2)) hr g2 r3.block r3.size (fun _ => ⟨r2, g2⟩)
        refine .value' (v := .tuple #[.bool true, goInt pos, .int .i32 (Utf8.decode s pos).1]) (.own e' rfl hr' (hI.fr.owned hI.r rfl hr r3.os r3.tape r3.output r3.size r3.block) rfl) ?_
          (.tup [_, _, _] _ (.cons _ _ _ _ (.bool _) (.cons _ _ _ _ (.int _ _) (.cons _ _ _ _ (.int _ _) .nil)))) h
        simp [execOp, hop, e1, Instr.next, hg, hp, r1]
      · rename_i hp
        refine .value hI (v := .tuple #[.bool false]) ?_ (.tup [_] _ (.cons _ _ _ _ (.bool _) .nil)) h
        simp [execOp, hop, e1, Instr.next, hg, hp]
    · exact h.elim
  · exact h.elim

theorem ok_entry (hI : Inv w0 F κ a w ρ σ) {y : Operand} {x : X} (hop : o.op = .entry y) (hx : opX y = some x)
    (h : astep (ACalls P) nm ρ σ K (.entry x)) : Good P w0 F o a w κ σ nm K := by
  have v1 := hI.opX hx
  simp only [astep] at h
  split at h
  · rename_i it hnn
    rw [hnn] at v1
    obtain ⟨e1, hd⟩ := v1.ptr_inv
    split at h
    · rename_i m since seen last hr
      obtain ⟨hdom, g1, gm, g2⟩ := hI.r.own it _ hr
      split at h
      · rename_i es ts clk hm
        obtain ⟨_, ents, q1, q2, q3, q4, q5, q6⟩ := hI.r.own m _ hm
        split at h
        · rename_i hl
          subst hl
          obtain ⟨i, p, t, k1, k2, k3, hk⟩ := h
          have hg := run_getObj (P := P) g1 (by simp)
          have hg2 := run_getMap (P := P) q1
          obtain ⟨e0, he0⟩ : ∃ e0, ents[i]? = some e0 := by
            rw [← q4, List.getElem?_map, Option.map_eq_some_iff] at k2
            obtain ⟨e0, he0, _⟩ := k2; exact ⟨e0, he0⟩
          have hb : e0.born = t := by
            rw [← q4, List.getElem?_map, he0] at k2
            simpa using k2
          obtain ⟨p', hp', hv1, hv2⟩ := q2.get? i e0 he0
          rw [k3] at hp'; simp only [Option.some.injEq] at hp'; subst hp'
          have hfind : (⟨ents⟩ : Array MapEntry).find? (fun e => e.born == t) = some e0 := by
            simp only [List.find?_toArray]
            rw [List.find?_eq_some_iff_getElem]
            have hi := List.getElem?_eq_some_iff.1 he0
            refine ⟨by simp [hb], i, hi.1, hi.2, fun j hj => ?_⟩
            simp only [Bool.not_eq_true', beq_eq_false_iff_ne, ne_eq]
            intro hjb
            have hjl : j < ts.length := by rw [← q4, List.length_map]; exact Nat.lt_trans hj hi.1
            have hil : i < ts.length := by rw [← q4, List.length_map]; exact hi.1
            have h1 : ts[j] = t := by simp only [← q4, List.getElem_map]; exact hjb
            have h2 : ts[i] = t := by simp only [← q4, List.getElem_map, hi.2]; exact hb
            exact List.pairwise_iff_getElem.1 q5 j i hjl hil hj (by rw [h1, h2])
          have hback : (⟨seen⟩ : Array Nat).back? = some t := by simpa [List.getLast?_eq_getElem?, Array.back?] using k1
          refine .value hI (v := .tuple #[e0.key, e0.val]) ?_ (.tup [_, _] _ (.cons _ _ _ _ hv1 (.cons _ _ _ _ hv2 .nil))) hk
          simp only [Option.map_some] at hg
          simp [execOp, hop, e1, Instr.entry, hg, hback, hg2, hfind]
        · exact h.elim
      · exact h.elim
    · exact h.elim
  · exact h.elim

theorem ok_next (hI : Inv w0 F κ a w ρ σ) {y : Operand} {x : X} (hop : o.op = .next y false) (hx : opX y = some x)
    (h : astep (ACalls P) nm ρ σ K (.next x)) : Good P w0 F o a w κ σ nm K := by
  have v1 := hI.opX hx
  simp only [astep] at h
  split at h
  · rename_i it hnn
    rw [hnn] at v1
    obtain ⟨e1, hd⟩ := v1.ptr_inv
    split at h
    · rename_i since seen last hr
      obtain ⟨hdom, g1, _⟩ := hI.r.own it _ hr
      have hg := run_getObj (P := P) g1 (by simp)
      refine .value hI (v := .tuple #[.bool false]) ?_ (.tup [_] _ (.cons _ _ _ _ (.bool _) .nil)) h
      simp only [Option.map_none] at hg
      simp [execOp, hop, e1, Instr.next, hg]
    · rename_i m since seen last hr
      obtain ⟨hdom, g1, gm, g2⟩ := hI.r.own it _ hr
      split at h
      · rename_i es ts clk hm
        obtain ⟨_, ents, q1, q2, q3, q4, q5, q6⟩ := hI.r.own m _ hm
        split at h
        · rename_i hc
          obtain ⟨hc1, hc2⟩ := hc
          subst hc2
          subst hc1
          obtain ⟨hyes, hno⟩ := h
          simp only [Option.map_some] at g1
          have hg := run_getObj (P := P) g1 (by simp)
          have hg2 := run_getMap (P := P) q1
          have hlt : ∀ e ∈ ents, e.born < since := fun e he => q6 _ (by rw [← q4]; exact List.mem_map_of_mem he)
          have hcond : (!(⟨seen⟩ : Array Nat).isEmpty && !(⟨ents⟩ : Array MapEntry).isEmpty && (⟨ents⟩ : Array MapEntry).all (fun e => decide (e.born ≥ since))) = false := by
            cases hents : ents with
            | nil => simp
            | cons e r =>
              have := hlt e (by rw [hents]; simp)
              have : decide (e.born ≥ since) = false := by simp; omega
              simp [this]
          let L : List MapEntry := ents.filter fun e => !seen.contains e.born
          have hleft : (⟨ents⟩ : Array MapEntry).filter (fun e => !(⟨seen⟩ : Array Nat).contains e.born) = ⟨L⟩ := by
            apply Array.ext'; simp [L]
          have hold : (⟨L⟩ : Array MapEntry).filter (fun e => decide (e.born < since)) = ⟨L⟩ := by
            apply Array.ext'
            simp only [List.filter_toArray]
            rw [List.filter_eq_self.2]
            intro e he
            simpa using hlt e ((List.mem_filter.1 he).1)
          have hnew : (⟨L⟩ : Array MapEntry).filter (fun e => decide (e.born ≥ since)) = ⟨[]⟩ := by
            apply Array.ext'
            simp only [List.filter_toArray]
            rw [List.filter_eq_nil_iff.2]
            intro e he
            have := hlt e ((List.mem_filter.1 he).1)
            simp; omega
          let Cn : List (Option MapEntry) := (if L = [] then [none] else []) ++ L.map some
          have hcand : (if (⟨L⟩ : Array MapEntry).isEmpty = true then #[none] else #[]) ++ ((⟨L⟩ : Array MapEntry) ++ (⟨[]⟩ : Array MapEntry)).map some = (⟨Cn⟩ : Array (Option MapEntry)) := by
            by_cases hl : L = []
            · rw [hl]; simp [Cn, hl]
            · have : (⟨L⟩ : Array MapEntry).isEmpty = false := by
                cases hL : L with
                | nil => exact absurd hL hl
                | cons _ _ => simp
              rw [this]; simp [Cn, hl]
          have hpos : 0 < Cn.length := by
            cases hL : L with
            | nil => simp [Cn, hL]
            | cons _ _ => simp [Cn, hL]
          -- the run, up to what was drawn
          obtain ⟨j, wq, hjl, hch, hwq⟩ : ∃ j wq, j < Cn.length ∧ (choose (.mapNext Cn.length)).run P w = .ok j wq ∧ ∃ q, wq = { w with drawn := q } := by
            rw [run_choose_drew]
            split
            · exact ⟨0, w, hpos, rfl, w.drawn, rfl⟩
            · exact ⟨_, _, Nat.mod_lt _ hpos, rfl, _, rfl⟩
          obtain ⟨q, rfl⟩ := hwq
          have hrun : ∀ {z : Value} {w' : World}, ((match Cn[j]? with
              | some (some e) => (do setObj (κ.φ it) (.mapIter (some (κ.φ m)) since ((⟨seen⟩ : Array Nat).push e.born) since); pure (.tuple #[.bool true, e.key, e.val]) : Sem Value)
              | some none => pure (.tuple #[.bool false])
              | none => stuck "Next: no such candidate").run P { w with drawn := q }) = .ok z w' → (execOp a.eval o).run P w = .ok (.value z) w' := by
            intro z w' hz
            have hsz : (⟨Cn⟩ : Array (Option MapEntry)).size = Cn.length := rfl
            simp only [execOp, hop, e1, Instr.next, Sem.run_bind, hg, Result.andThen_ok, hg2, hcond, Bool.false_eq_true, if_false, Sem.run_pure, hleft, hold, hnew, hcand, hsz, hch, List.getElem?_toArray]
            split at hz <;> rename_i hz0 <;> (try simp only [hz0]) <;> (try simp only [Sem.run_bind] at hz ⊢) <;> rw [hz] <;> rfl
          have eq1 : Ext κ w κ { w with drawn := q } := ⟨fun _ _ x => x, fun _ _ => rfl, fun _ _ => rfl, fun _ _ => rfl, fun _ _ => rfl, fun _ x => x, fun _ _ _ => rfl⟩
          have hr1 : R w0.heap.size F κ { w with drawn := q } σ := hI.r.step eq1 hI.r.dom hI.r.imm (fun n r hr => .inl ⟨hr, rfl, fun _ x => x⟩)
          have hf1 : Fr F w0 { w with drawn := q } := hI.fr.drawn q
          by_cases hL : L = []
          · have hCn : Cn = [none] := by simp [Cn, hL]
            have hj0 : j = 0 := by rw [hCn] at hjl; simpa using hjl
            have hall : ∀ t ∈ ts, t ∈ seen := by
              intro t ht
              rw [← q4, List.mem_map] at ht
              obtain ⟨e, he, rfl⟩ := ht
              by_cases hs : e.born ∈ seen
              · exact hs
              · have : e ∈ L := List.mem_filter.2 ⟨he, by simpa using hs⟩
                rw [hL] at this; cases this
            refine .value' (v := .tuple #[.bool false]) (.own eq1 rfl hr1 hf1 rfl) (hrun ?_) (.tup [_] _ (.cons _ _ _ _ (.bool _) .nil)) (hno hall)
            rw [hCn, hj0]
            simp
          · have hCn : Cn = L.map some := by simp [Cn, hL]
            have hjL : j < L.length := by rw [hCn] at hjl; simpa using hjl
            have hcj : Cn[j]? = some (some L[j]) := by rw [hCn]; simp [hjL]
            have hmem : L[j] ∈ L := List.getElem_mem _
            generalize L[j] = e0 at hcj hmem
            obtain ⟨hme, hns⟩ := List.mem_filter.1 hmem
            obtain ⟨i, hi⟩ := List.getElem?_of_mem hme
            obtain ⟨p, hp, hv1, hv2⟩ := q2.get? i e0 hi
            have hti : ts[i]? = some e0.born := by rw [← q4, List.getElem?_map, hi]; rfl
            have hnin : e0.born ∉ seen := by simpa using hns
            have hk := hyes i p e0.born hp hti hnin
            obtain ⟨w', r1, r2, r3⟩ := run_setObj (P := P) (w := { w with drawn := q }) g1 (by simp) (.mapIter (some (κ.φ m)) since ((⟨seen⟩ : Array Nat).push e0.born) since)
            obtain ⟨e', hr'⟩ := hr1.set_res (r' := .iter (some m) since (seen ++ [e0.born]) since) hr g2 r3.block r3.size (fun _ => by
              refine And.intro ?_ (And.intro gm g2)
              rw [r2]; simp)
            refine .value' (v := .tuple #[.bool true, e0.key, e0.val]) (.own (eq1.trans e') rfl hr' (hf1.owned hr1 rfl hr r3.os r3.tape r3.output r3.size r3.block) rfl) (hrun ?_)
              (.tup [_, _, _] _ (.cons _ _ _ _ (.bool _) (.cons _ _ _ _ (hv1.mono (eq1.trans e')) (.cons _ _ _ _ (hv2.mono (eq1.trans e')) .nil)))) hk
            rw [hcj]
            simp only [Sem.run_bind, r1, Result.andThen_ok, Sem.run_pure]
        · exact h.elim
      · exact h.elim
    · exact h.elim
  · exact h.elim
end
end Go.VL

/- The value logic, part N: each operation of the code comes to what its instruction says, all together. -/
namespace Go.VL

section
variable {P : Program} {w0 : World} {F : Nat → Prop} {o : Oper} {a : Act} {w : World} {κ : Kx} {ρ : List AV} {σ : St} {nm : Nat} {K : AV → St → Prop}

theorem okN {ins : I} (h : ins.names = true → ¬ κ.dom nm ∧ nm < σ.next) (hh : ins.names = true) : ¬ κ.dom nm ∧ nm < σ.next := h hh

theorem ok_qcall (hI : Inv w0 F κ a w ρ σ) {c : Call} {f : Nat} {xs : List X} (hop : o.op = .call c) (hc : c.callee = .value (.func f)) (hx : opXs c.args.toList = some xs)
    (h : astep (ACalls P) nm ρ σ K (.qcall f xs)) : Good P w0 F o a w κ σ nm K := by
  simp only [astep] at h
  obtain ⟨v, h1, h2⟩ := h
  exact ok_call hI hop hc hx (h1.mono fun x σ' ⟨e1, e2⟩ => by rw [e1, e2]; exact h2)
theorem ok_callv' (hI : Inv w0 F κ a w ρ σ) {c : Call} {y : Operand} {x : X} {xs : List X} (hop : o.op = .call c) (hc : c.callee = .value y) (hy : opX y = some x) (hx : opXs c.args.toList = some xs)
    (h : astep (ACalls P) nm ρ σ K (.callv x xs)) : Good P w0 F o a w κ σ nm K := by
  simp only [astep] at h
  split at h
  · rename_i he; exact ok_callv hI hop hc hy hx he h
  · exact h.elim
theorem ok_qcallv (hI : Inv w0 F κ a w ρ σ) {c : Call} {y : Operand} {x : X} {xs : List X} (hop : o.op = .call c) (hc : c.callee = .value y) (hy : opX y = some x) (hx : opXs c.args.toList = some xs)
    (h : astep (ACalls P) nm ρ σ K (.qcallv x xs)) : Good P w0 F o a w κ σ nm K := by
  simp only [astep] at h
  split at h
  · rename_i he
    obtain ⟨v, h1, h2⟩ := h
    exact ok_callv hI hop hc hy hx he (h1.mono fun x σ' ⟨e1, e2⟩ => by rw [e1, e2]; exact h2)
  · exact h.elim

theorem compileCall_ok {A : Ann} {r i : Nat} {q : Bool} {c : Call} {ins : I} (hI : Inv w0 F κ a w ρ σ) (hN : ins.names = true → ¬ κ.dom nm ∧ nm < σ.next) (hop : o.op = .call c) (hc : compileCall P A q r i c = some ins)
    (h : astep (ACalls P) nm ρ σ K ins) : Good P w0 F o a w κ σ nm K := by
  unfold compileCall at hc
  split at hc
  · rename_i hcal
    split at hc
    · rename_i y t ts ha ht
      split at hc
      · rename_i x e hx hu
        simp only [Option.some.injEq] at hc; subst hc
        exact ok_len hI hop hcal ha ht hu hx h
      · rename_i x hx hu
        simp only [Option.some.injEq] at hc; subst hc
        exact ok_slen hI hop hcal ha ht hu hx h
      · rename_i x k e hx hu
        simp only [Option.some.injEq] at hc; subst hc
        exact ok_mlen hI hop hcal ha ht hu hx h
      · cases hc
    · cases hc
  · rename_i hcal
    split at hc
    · rename_i y z t u ha ht
      split at hc
      · rename_i x x' e u' hx hx' hu hd
        split at hc
        · rename_i ti hi
          split at hc
          · rename_i hcond
            simp only [Option.some.injEq] at hc; subst hc
            exact ok_app hI (hN rfl).1 (hN rfl).2 hop hcal ha ht hu hd (fun k hk => by cases hk) hi hcond.2.1 hcond.2.2 hx hx' h
          · cases hc
        · cases hc
      · rename_i x x' e hx hx' hu hd
        split at hc
        · rename_i ti hi
          split at hc
          · rename_i hcond
            simp only [Option.some.injEq] at hc; subst hc
            exact ok_app hI (hN rfl).1 (hN rfl).2 hop hcal ha ht hu hd (fun k hk => by cases hk) hi hcond.2.1 hcond.2.2 hx hx' h
          · cases hc
        · cases hc
      · rename_i x x' e k hx hx' hu hd
        split at hc
        · rename_i ti z0 hi hz
          split at hc
          · rename_i hcond
            simp only [Option.some.injEq] at hc; subst hc
            exact ok_appZ hI (hN rfl).1 (hN rfl).2 hop hcal ha ht hu hd hi hz hcond.1 hcond.2.1 hcond.2.2 hx hx' h
          · cases hc
        · cases hc
      · cases hc
    · cases hc
  · rename_i hcal
    split at hc
    · rename_i y t ts ha ht
      split at hc
      · rename_i x e hx hu
        simp only [Option.some.injEq] at hc; subst hc
        exact ok_cap hI hop hcal ha ht hu hx h
      · cases hc
    · cases hc
  · simp only [Option.some.injEq] at hc; subst hc
    exact h.elim
  · rename_i hcal
    split at hc
    · rename_i y z t ts ha ht
      split at hc
      · rename_i x x' e hx hx' hu
        rw [Option.map_eq_some_iff] at hc; obtain ⟨k, hk, rfl⟩ := hc
        exact ok_copy hI hop hcal ha ht hu hk hx hx' h
      · cases hc
    · cases hc
  · rename_i hcal
    rw [Option.map_eq_some_iff] at hc
    obtain ⟨xs, hx, rfl⟩ := hc
    exact ok_mn hI hop hcal hx h
  · rename_i hcal
    rw [Option.map_eq_some_iff] at hc
    obtain ⟨xs, hx, rfl⟩ := hc
    exact ok_mx hI hop hcal hx h
  · rename_i hcal
    split at hc
    · rename_i y y' t ts ha ht
      split at hc
      · rename_i x x' kt e hx hx' hu
        rw [Option.map_eq_some_iff] at hc
        obtain ⟨kk, hk, rfl⟩ := hc
        exact ok_del hI hop hcal ha ht hu hk hx hx' h
      · cases hc
    · cases hc
  · rename_i f hcal
    split at hc
    · rename_i xs hx
      simp only [Option.some.injEq] at hc
      split at hc
      · subst hc; exact ok_qcall hI hop hcal hx h
      · subst hc; simp only [astep] at h; exact ok_call hI hop hcal hx h
    · cases hc
  · rename_i y _ hcal
    split at hc
    · rename_i x xs hy hx
      simp only [Option.some.injEq] at hc
      split at hc
      · subst hc; exact ok_qcallv hI hop hcal hy hx h
      · subst hc; exact ok_callv' hI hop hcal hy hx h
    · cases hc
  · cases hc

theorem step_ok {A : Ann} {q : Bool} {r i : Nat} {ins : I} (hI : Inv w0 F κ a w ρ σ) (hN : ins.names = true → ¬ κ.dom nm ∧ nm < σ.next) (hc : compileOp P A q r i o = some ins)
    (h : astep (ACalls P) nm ρ σ K ins) : Good P w0 F o a w κ σ nm K := by
  have hV : ∀ {hd : Hold} {k : Nat} {xs : List X}, ins = .bslice k hd xs → hd ≠ .val → hd ≠ .zero → ¬ κ.dom nm ∧ nm < σ.next := by
    intro hd k xs e hne hnz; subst e; exact hN (by cases hd <;> simp [I.names] at hne hnz ⊢)
  have hV2 : ∀ {hd : Hold} {x : X}, ins = .convSB hd x → hd ≠ .val → hd ≠ .zero → ¬ κ.dom nm ∧ nm < σ.next := by
    intro hd x e hne hnz; subst e; exact hN (by cases hd <;> simp [I.names] at hne hnz ⊢)
  have hV3 : ∀ {hd : Hold} {k b : Nat} {z : AV} {x y : X}, ins = .mkS k b hd z x y → hd ≠ .val → hd ≠ .zero → ¬ κ.dom nm ∧ nm < σ.next := by
    intro hd k b z x y e hne hnz; subst e; exact hN (by cases hd <;> simp [I.names] at hne hnz ⊢)
  unfold compileOp at hc
  split at hc
  · -- move
    rename_i y hop
    rw [Option.map_eq_some_iff] at hc; obtain ⟨x, hx, rfl⟩ := hc
    exact ok_mv hI (.inl hop) hx h
  · rename_i y hop
    rw [Option.map_eq_some_iff] at hc; obtain ⟨x, hx, rfl⟩ := hc
    exact ok_mv hI (.inr hop) hx h
  · rename_i c y z hop
    split at hc
    · rename_i hc' hy hz
      simp only [Option.some.injEq] at hc; subst hc
      exact ok_pick hI hop hc' hy hz h
    · cases hc
  · rename_i t y hop
    rw [Option.map_eq_some_iff] at hc; obtain ⟨x, hx, rfl⟩ := hc
    exact ok_box hI (hN rfl).1 (hN rfl).2 hop hx h
  · rename_i t hop
    rw [Option.map_eq_some_iff] at hc; obtain ⟨z, hz, rfl⟩ := hc
    exact ok_alloc hI (hN rfl).1 (hN rfl).2 hop hz h
  · rename_i t parts hop
    split at hc
    · rename_i z fs hz hu
      split at hc
      · rename_i tab ht
        rw [Option.map_eq_some_iff] at hc; obtain ⟨ps, hp, rfl⟩ := hc
        exact ok_build hI hop hz hu ht hp h
      · cases hc
    · cases hc
  · rename_i t n parts hop
    split at hc
    · rename_i e hu
      split at hc
      · rename_i k z ps hk hz hp
        split at hc
        · rename_i hcond
          simp only [Option.some.injEq] at hc
          subst hc
          exact ok_bslice hI (hV rfl) hop hu hk hz hp hcond.1 hcond.2 h
        · cases hc
      · cases hc
    · cases hc
  · rename_i t y hop
    split at hc
    · rename_i k x hk hx
      simp only [Option.some.injEq] at hc
      split at hc
      · subst hc
        refine ok_load hI hop hk hx ?_
        simp only [astep] at h ⊢
        split at h
        · rename_i hn
          split at h
          · first | exact h | (simp only [hn]; exact h)
          · exact h.elim
        · rename_i hn; first | exact h | (simp only [hn]; exact h)
        · exact h.elim
      · subst hc
        exact ok_load hI hop hk hx h
    · cases hc
  · rename_i t y z hop
    split at hc
    · rename_i k x x' hk hx hx'
      simp only [Option.some.injEq] at hc; subst hc
      exact ok_store hI hop hk hx hx' h
    · cases hc
  · rename_i y hop
    rw [Option.map_eq_some_iff] at hc; obtain ⟨x, hx, rfl⟩ := hc
    exact ok_nilCheck hI hop hx h
  · rename_i op t y z t' hop
    split at hc
    · rename_i x x' hx hx'
      split at hc
      · rename_i k hu
        simp only [Option.some.injEq] at hc; subst hc
        exact ok_bin hI hop hx hx' h
      · rename_i hu
        simp only [Option.some.injEq] at hc; subst hc
        exact ok_sbin hI hop hx hx' h
      · rename_i hu
        split at hc
        · simp only [Option.some.injEq] at hc; subst hc
          exact ok_bbin hI (neg := false) hop hu hx hx' h
        · simp only [Option.some.injEq] at hc; subst hc
          exact ok_bbin hI (neg := true) hop hu hx hx' h
        · cases hc
      · rename_i ms hu
        split at hc
        · rename_i hts
          split at hc
          · simp only [Option.some.injEq] at hc; subst hc
            exact ok_eqI hI (neg := false) hop hu hts rfl hx hx' h
          · simp only [Option.some.injEq] at hc; subst hc
            exact ok_eqI hI (neg := true) hop hu hts rfl hx hx' h
          · cases hc
        · cases hc
      · rename_i e hu
        split at hc
        · rename_i k hk
          simp only [Option.some.injEq] at hc; subst hc
          exact ok_eqP hI (neg := false) hop hu hk hx hx' h
        · rename_i k hk
          simp only [Option.some.injEq] at hc; subst hc
          exact ok_eqP hI (neg := true) hop hu hk hx hx' h
        · cases hc
      · rename_i e hu
        split at hc
        · cases hc
        · split at hc
          · rename_i hz
            simp only [Option.some.injEq] at hc; subst hc
            exact ok_eqS hI (neg := false) hop hu hz hx h
          · rename_i hz
            simp only [Option.some.injEq] at hc; subst hc
            exact ok_eqS hI (neg := true) hop hu hz hx h
          · cases hc
      · cases hc
    · cases hc
  · rename_i op t y hop
    split at hc
    · rename_i x hx hu
      split at hc
      · simp only [Option.some.injEq] at hc; subst hc
        exact ok_not hI hop hx h
      · cases hc
    · rename_i x k hx hu
      split at hc
      · simp only [Option.some.injEq] at hc; subst hc
        exact ok_un hI hop hx h
      · simp only [Option.some.injEq] at hc; subst hc
        exact ok_un hI hop hx h
      · cases hc
    · cases hc
  · rename_i s d y hop
    split at hc
    · rename_i x k' k hx hs hd
      simp only [Option.some.injEq] at hc; subst hc
      exact ok_conv hI hop hs hd hx h
    · rename_i x e hx hs hd
      split at hc
      · rename_i he
        simp only [Option.some.injEq] at hc; subst hc
        exact ok_convBS hI hop hs he hd hx h
      · cases hc
    · rename_i x e' e hx hs hd
      split at hc
      · rename_i hsd he
        simp only [Option.some.injEq] at hc; subst hc
        have : s = d := by simpa using hsd
        subst this
        exact ok_cvt hI hop hd he hx h
      · cases hc
    · rename_i x e hx hs hd
      split at hc
      · rename_i he
        simp only [Option.some.injEq] at hc; subst hc
        exact ok_convSB hI (hV2 rfl) hop hs he hd hx h
      · cases hc
    · cases hc
  · rename_i t y hop
    split at hc
    · cases hc
    · rename_i x d hne hx ht
      simp only [Option.some.injEq] at hc; subst hc
      exact ok_mkI hI hop ht (fun ms he => hne ms he) hx h
    · cases hc
  · rename_i f p q' hop
    split at hc
    · rename_i x y hx hy
      simp only [Option.some.injEq] at hc; subst hc
      exact ok_mkF hI hop hx hy h
    · cases hc
  · rename_i t hop
    simp only [Option.some.injEq] at hc; subst hc
    exact ok_mkMap hI (hN rfl).1 (hN rfl).2 hop h
  · rename_i t l c hop
    split at hc
    · rename_i e hu
      split at hc
      · rename_i ti z x x' hi hz hx hx'
        split at hc
        · rename_i hcond
          simp only [Option.some.injEq] at hc; subst hc
          exact ok_mkS hI (hV3 rfl) hop hu hi hz hcond.1 hcond.2 hx hx' h
        · cases hc
      · cases hc
    · cases hc
  · rename_i t y lo hi hop
    split at hc
    · rename_i x lo' hi' hx hlo hhi
      split at hc
      · rename_i e hu
        rw [Option.map_eq_some_iff] at hc; obtain ⟨k, hk, rfl⟩ := hc
        exact ok_slice hI hop hu hk hx hlo hhi h
      · rename_i hu
        simp only [Option.some.injEq] at hc; subst hc
        exact ok_sslice hI hop hu hx hlo hhi h
      · cases hc
    · cases hc
  · rename_i s y f hop
    split at hc
    · rename_i fd x hf hx
      split at hc
      · rename_i k hk
        simp only [Option.some.injEq] at hc; subst hc
        exact ok_faddr hI hop hf hk hx h
      · cases hc
    · cases hc
  · rename_i s y f hop
    split at hc
    · rename_i fd x hf hx
      split at hc
      · rename_i k hk
        simp only [Option.some.injEq] at hc; subst hc
        exact ok_fld hI hop hf hk hx h
      · cases hc
    · cases hc
  · rename_i t y z hop
    split at hc
    · rename_i x x' e hx hx' hu
      rw [Option.map_eq_some_iff] at hc; obtain ⟨k, hk, rfl⟩ := hc
      exact ok_iaddr hI hop hu hk hx hx' h
    · rename_i x x' n e hx hx' hu
      rw [Option.map_eq_some_iff] at hc; obtain ⟨k, hk, rfl⟩ := hc
      exact ok_iaddrA hI hop hu hk hx hx' h
    · cases hc
  · rename_i t y z hop
    split at hc
    · rename_i x x' hx hx' hu
      simp only [Option.some.injEq] at hc; subst hc
      exact ok_idxS hI hop hu hx hx' h
    · cases hc
  · rename_i t m k ok hop
    split at hc
    · rename_i x x' kt e hx hx' hu
      split at hc
      · rename_i kk z hk hz
        simp only [Option.some.injEq] at hc; subst hc
        exact ok_look hI hop hu hk hz hx hx' h
      · cases hc
    · cases hc
  · rename_i t m k v hop
    split at hc
    · rename_i x x' x'' kt e hx hx' hx'' hu
      rw [Option.map_eq_some_iff] at hc; obtain ⟨kk, hk, rfl⟩ := hc
      exact ok_mapUp hI hop hu hk hx hx' hx'' h
    · cases hc
  · rename_i y j hop
    rw [Option.map_eq_some_iff] at hc; obtain ⟨x, hx, rfl⟩ := hc
    exact ok_ext hI hop hx h
  · rename_i c hop
    exact compileCall_ok hI hN hop hc h
  · simp only [Option.some.injEq] at hc; subst hc
    exact h.elim
  · rename_i t y hop
    split at hc
    · rename_i x kt e hx hu
      simp only [Option.some.injEq] at hc; subst hc
      exact ok_range hI (hN rfl).1 (hN rfl).2 hop hu hx h
    · rename_i x hx hu
      simp only [Option.some.injEq] at hc; subst hc
      exact ok_srange hI (hN rfl).1 (hN rfl).2 hop hu hx h
    · cases hc
  · rename_i y st hop
    split at hc
    · rename_i x hx
      split at hc
      · cases hc
      · simp only [Option.some.injEq] at hc
        cases st with
        | true => simp only [if_true] at hc; subst hc; exact ok_snext hI hop hx h
        | false => simp only [Bool.false_eq_true, if_false] at hc; subst hc; exact ok_next hI hop hx h
    · cases hc
  · rename_i y hop
    split at hc
    · rename_i x hx
      split at hc
      · cases hc
      · simp only [Option.some.injEq] at hc; subst hc
        exact ok_entry hI hop hx h
    · cases hc
  · cases hc
end
end Go.VL
