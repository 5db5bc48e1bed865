/- The value logic, part H: structs and slices that are built. -/
import Derived.Test.YtlbnimbgodmagaaVlG
namespace Go.VL
section
variable {P : Program} {w0 : World} {F : Nat → Prop} {o : Oper} {a : Act} {w : World} {κ : Kx} {ρ : List AV} {σ : St} {nm : Nat} {K : AV → St → Prop}

theorem foldl_set : ∀ (us : List Value) (k off : Nat) (cs : List Value), off + k + us.length ≤ cs.length →
    ((us.zipIdx k).foldl (fun (cs : Array Value) (p : Value × Nat) => cs.setIfInBounds (off + p.2) p.1) ⟨cs⟩) = ⟨cs.take (off + k) ++ us ++ cs.drop (off + k + us.length)⟩
  | [], k, off, cs, _ => by simp
  | u :: us, k, off, cs, h => by
    simp only [List.length_cons] at h
    simp only [List.zipIdx_cons, List.foldl_cons]
    have e0 : (⟨cs⟩ : Array Value).setIfInBounds (off + k) u = ⟨cs.set (off + k) u⟩ := by simp
    rw [e0, foldl_set us (k + 1) off (cs.set (off + k) u) (by simp; omega)]
    have e : (cs.set (off + k) u).take (off + (k + 1)) = cs.take (off + k) ++ [u] := by
      rw [show off + (k + 1) = off + k + 1 by omega, List.take_add_one, List.take_set_of_le (Nat.le_refl _)]
      have : off + k < cs.length := by omega
      simp [this]
    have e' : (cs.set (off + k) u).drop (off + (k + 1) + us.length) = cs.drop (off + k + (us.length + 1)) := by
      rw [List.drop_set_of_lt (by omega)]
      congr 1
      omega
    rw [e, e']
    simp

theorem fill_cons {place : Nat → Option (Nat × Nat)} {cs : List Value} {i off size : Nat} {v : Value} {r : List (Nat × Value)} (hp : place i = some (off, size)) (hs : v.cells.size = size) (hl : off + size ≤ cs.length) :
    Instr.fill place ⟨cs⟩ ((i, v) :: r) = Instr.fill place ⟨cs.take off ++ v.cells.toList ++ cs.drop (off + size)⟩ r := by
  have e := foldl_set v.cells.toList 0 off cs (by simp only [Array.length_toList]; omega)
  have e2 : v.cells.zipIdx.foldl (fun (cs : Array Value) (p : Value × Nat) => cs.setIfInBounds (off + p.2) p.1) ⟨cs⟩ = ⟨cs.take off ++ v.cells.toList ++ cs.drop (off + size)⟩ := by
    rw [← Array.foldl_toList, Array.toList_zipIdx, e]
    simp only [Array.length_toList, hs, Nat.add_zero]
  simp only [Instr.fill, hp]
  have h1 : ¬ (v.cells.size ≠ size) := by simp [hs]
  have h2 : ¬ (off + v.cells.size > cs.length) := by omega
  have hs' : (⟨cs⟩ : Array Value).size = cs.length := by simp
  rw [if_neg (by simp [hs]; omega)]
  exact congrArg (fun z => Instr.fill place z r) e2

theorem tabOf_get : ∀ {fs : List Field} {tab : List (Nat × Nat)}, tabOf P fs = some tab → (List.mapM (m := Sem) (fun f => do pure (f.offset, ← sizeOf f.type)) fs).run P w = .ok tab w
  | [], tab, h => by simp only [tabOf, Option.some.injEq] at h; subst h; simp
  | f :: r, tab, h => by
    simp only [tabOf] at h
    split at h
    · rename_i k y h1 h2
      simp only [Option.some.injEq] at h; subst h
      have := tabOf_get h2
      simp only [List.mapM_cons, Sem.run_bind, run_sizeOf h1, Result.andThen_ok, Sem.run_pure] at this ⊢
      rw [this]
      simp
    · cases h

theorem run_mapM_arr {α β : Type} (f : α → Sem β) (xs : Array α) (ys : List β) (h : (List.mapM (m := Sem) f xs.toList).run P w = .ok ys w) : (xs.mapM f).run P w = .ok ⟨ys⟩ w := by
  rw [Array.mapM_eq_mapM_toList]
  simp [h]

theorem fillA_ok (hI : Inv w0 F κ a w ρ σ) {tab : List (Nat × Nat)} : ∀ {parts : List (Nat × Operand)} {ps : List (Nat × Nat × X)} {us : List Value} {cs zs : List AV}, placesOf tab parts = some ps → Vl κ w us cs →
    fillA ρ cs ps = some zs → ∃ us', Instr.fill ((⟨tab⟩ : Array (Nat × Nat))[·]?) ⟨us⟩ (parts.map fun (i, x) => (i, a.eval x)) = some ⟨us'⟩ ∧ Vl κ w us' zs
  | [], ps, us, cs, zs, h, hv, hf => by
    simp only [placesOf, Option.some.injEq] at h; subst h
    simp only [fillA, Option.some.injEq] at hf; subst hf
    exact ⟨us, by simp [Instr.fill], hv⟩
  | (i, y) :: r, ps, us, cs, zs, h, hv, hf => by
    simp only [placesOf] at h
    split at h
    · rename_i f x z h1 h2 h3
      simp only [Option.some.injEq] at h; subst h
      simp only [fillA] at hf
      split at hf
      · rename_i hc
        obtain ⟨f1, f2, f3⟩ := fits_iff hc.1
        have vx := (hI.opX h2).cells f1
        have hl := vx.length
        have hl2 := hv.length
        have hsz : (a.eval y).cells.size = f.2 := by rw [← f2, ← hl]; simp
        obtain ⟨us', e1, e2⟩ := fillA_ok hI (us := us.take f.1 ++ (a.eval y).cells.toList ++ us.drop (f.1 + f.2)) h3
          (by unfold splice; rw [f2]; exact ((hv.take _).append vx).append (hv.drop _)) hf
        refine ⟨us', ?_, e2⟩
        rw [← e1, List.map_cons]
        exact fill_cons (off := f.1) (size := f.2) (by simpa using h1) hsz (by omega)
      · cases hf
    · cases h

theorem ok_build (hI : Inv w0 F κ a w ρ σ) {t : TypeId} {parts : Array (Nat × Operand)} {z : List AV} {fs : Array Field} {tab : List (Nat × Nat)} {ps : List (Nat × Nat × X)} (hop : o.op = .build t parts) (hz : zeroOf P t = some (.agg z)) (hu : P.underlying t = some (.struct fs))
    (ht : tabOf P fs.toList = some tab) (hp : placesOf tab parts.toList = some ps) (h : astep (ACalls P) nm ρ σ K (.build z ps)) : Good P w0 F o a w κ σ nm K := by
  obtain ⟨i, v, h1, h2, h3⟩ := zeroOf_ok hz
  obtain ⟨us, rfl, hl⟩ := (constV_ok (κ := κ) (w := w) h3).agg_inv
  simp only [astep] at h
  obtain ⟨x, hx, hK⟩ := opt_some h
  rw [Option.map_eq_some_iff] at hx
  obtain ⟨zs, hf, rfl⟩ := hx
  obtain ⟨us', e1, e2⟩ := fillA_ok hI hp hl hf
  refine .value hI (v := .agg ⟨us'⟩) ?_ (.agg _ _ e2) hK
  have hm := run_mapM_arr (P := P) (w := w) (fun f : Field => do pure (f.offset, ← sizeOf f.type)) fs tab (tabOf_get ht)
  obtain ⟨pl⟩ := parts
  have e1' : Instr.fill (fun x => tab[x]?) ⟨us⟩ (List.map (fun x => (x.fst, a.eval x.snd)) pl) = some ⟨us'⟩ := by simpa using e1
  simp only [bind_pure_comp] at hm
  simp [execOp, hop, Instr.build, zeroValue, typeInfo, h1, h2, underlying, hu, Value.cells]
  rw [hm]
  simp [e1']

/-! ### A slice that is made -/
theorem V.er1 {v : Value} {x : AV} (h : V κ w v x) : V κ w v x.er1 := by
  cases x <;> first | exact h | exact h.weak
theorem Vl.er1 : ∀ {vs : List Value} {xs : List AV}, Vl κ w vs xs → Vl κ w vs (xs.map AV.er1)
  | _, _, .nil => .nil
  | _, _, .cons _ _ _ _ h t => .cons _ _ _ _ h.er1 (Vl.er1 t)
theorem er_cells {k : Nat} {x : AV} (h : x.fits k = true) : x.er.cells = x.cells.map AV.er1 := by
  obtain ⟨_, _, h3⟩ := fits_iff h
  cases x <;> first | rfl | (simp [AV.cells, AV.one] at h3)
theorem er_len {k : Nat} {x : AV} (h : x.fits k = true) : x.er.cells.length = k := by
  rw [er_cells h, List.length_map]; exact (fits_iff h).2.1
theorem flat_er {k : Nat} : ∀ {xs : List AV}, xs.all (AV.fits k) = true → (xs.map AV.er).flatMap AV.cells = (xs.flatMap AV.cells).map AV.er1
  | [], _ => rfl
  | x :: xs, h => by
    simp only [List.all_cons, Bool.and_eq_true] at h
    simp only [List.map_cons, List.flatMap_cons, List.map_append, er_cells h.1, flat_er h.2]
theorem flat_len {k : Nat} : ∀ {xs : List AV}, xs.all (AV.fits k) = true → (xs.flatMap AV.cells).length = xs.length * k
  | [], _ => by simp
  | x :: xs, h => by
    simp only [List.all_cons, Bool.and_eq_true] at h
    simp only [List.flatMap_cons, List.length_append, flat_len h.2, (fits_iff h.1).2.1, List.length_cons, Nat.add_mul]
    omega
theorem all_len {k : Nat} {xs : List AV} (h : xs.all (AV.fits k) = true) : ∀ x ∈ xs.map AV.er, x.cells.length = k := by
  intro x hx
  obtain ⟨y, hy, rfl⟩ := List.mem_map.1 hx
  exact er_len (List.all_eq_true.1 h y hy)

/-- what a new row is told to be -/
theorem held_ok (hI : Inv w0 F κ a w ρ σ)  {k : Nat} {xs : List AV} {hd : Hold} (hn : hd ≠ .val → hd ≠ .zero → ¬ κ.dom nm ∧ nm < σ.next) (hk : xs.all (AV.fits k) = true) {us rest : List Value} {t : TypeId} {fz : Nat × Nat} {cap : Nat} {n : Nat}
    (hv : Vl κ w us (xs.flatMap AV.cells)) (hcap : cap * k ≤ us.length + rest.length) (hle : xs.length ≤ cap) (hf : hd ≠ .own → fzOk (us ++ rest).length fz) (hf' : fzOk us.length fz) (hn' : n = xs.length)
    (h : held k nm σ K xs hd)
    (he : ∃ w1 : World, w1.heap = w.heap ∧ w1.os = w.os ∧ w1.tape = w.tape ∧ w1.output = w.output ∧ (execOp a.eval o).run P w = .ok (.value (.slice (some ⟨w.heap.size, 0, none⟩) n cap)) (w1.alloc (.cells ⟨us ++ rest⟩ t fz))) :
    Good P w0 F o a w κ σ nm K := by
  subst hn'
  obtain ⟨w1, q1, q2, q3, q4, hrun⟩ := he
  have ewc : ∀ b i, w1.cell? ⟨b, i, none⟩ = w.cell? ⟨b, i, none⟩ := fun b i => cell_same (by rw [q1]) i
  have e1 : Ext κ w κ w1 := ⟨fun _ _ x => x, fun _ _ => rfl, fun _ _ => rfl, fun _ _ => rfl, fun _ _ => rfl, fun _ x => x, fun b i _ => ewc b i⟩
  have hr1 : R w0.heap.size F κ w1 σ := hI.r.step e1 hI.r.dom (fun b i hi => by rw [q1]; exact hI.r.imm b i hi) (fun n r hr => .inl ⟨hr, by rw [q1], fun _ x => x⟩)
  have hf1 : Fr F w0 w1 := ⟨q2.trans hI.fr.os, q3.trans hI.fr.tape, q4.trans hI.fr.output, by rw [q1]; exact hI.fr.size, fun b hb hF => by rw [q1]; exact hI.fr.block b hb hF⟩
  have hv1 : Vl κ w1 us (xs.flatMap AV.cells) := hv.mono e1
  have hs : w1.heap.size = w.heap.size := by rw [q1]
  have hlen : us.length = xs.length * k := by rw [hv.length]; exact flat_len hk
  have hcs : ∀ (fz' : Nat × Nat) i u, us[i]? = some u → (w1.alloc (.cells ⟨us ++ rest⟩ t fz')).cell? ⟨w1.heap.size, 0 + i, none⟩ = some u := by
    intro fz' i u hu
    have hi : i < us.length := (List.getElem?_eq_some_iff.1 hu).1
    rw [cell_of (heap_alloc_new _ _), Nat.zero_add, List.getElem?_append_left hi]
    exact hu
  cases hd with
  | val =>
    simp only [held] at h
    obtain ⟨e, hr⟩ := hr1.new_imm (us ++ rest) t fz us.length
    refine .value' (κ' := κ.imms w1.heap.size us.length) ⟨e1.trans e, fun n hd => .inl hd, hr, hf1.alloc _, Nat.le_refl _⟩ hrun ?_ h
    have := V.sl (κ := κ.imms w1.heap.size us.length) (w := w1.alloc (.cells ⟨us ++ rest⟩ t fz)) w1.heap.size 0 cap k (xs.map AV.er) (all_len hk) (by simpa using hle)
      (by rw [flat_er hk]; exact Vs.mk ((hv1.mono e).er1) (fun i u hu => ⟨.inr ⟨rfl, by simpa using (List.getElem?_eq_some_iff.1 hu).1⟩, hcs fz i u hu⟩))
    rw [hs] at this ⊢
    simpa using this
  | tip =>
    simp only [held] at h
    obtain ⟨e, hr⟩ := hr1.new_tip hf1.size (hn (by simp) (by simp)).1 (hn (by simp) (by simp)).2 (us ++ rest) t fz (hf (by simp)) us.length (cap * k) k (by simpa using hcap)
    refine .value' (κ' := (κ.imms w1.heap.size us.length).mark nm w1.heap.size us.length (cap * k) k) ⟨e1.trans e, fun n hd => hd.imp id .inl, hr, hf1.alloc _, Nat.le_refl _⟩ hrun ?_ h
    have := V.tip (κ := (κ.imms w1.heap.size us.length).mark nm w1.heap.size us.length (cap * k) k) (w := w1.alloc (.cells ⟨us ++ rest⟩ t fz)) 0 cap nm (xs.map AV.er) (by simpa [Kx.mark] using all_len hk)
      (by simpa using hle) (.inr rfl) (by simp [Kx.mark, hlen]) (by simp [Kx.mark])
      (by rw [flat_er hk]; exact Vs.mk ((hv1.mono e).er1) (fun i u hu => ⟨.inr ⟨by simp [Kx.mark], by simpa using (List.getElem?_eq_some_iff.1 hu).1⟩, by simpa [Kx.mark] using hcs fz i u hu⟩))
    simp only [Kx.mark, if_true, List.length_map] at this
    rw [hs] at this ⊢
    exact this
  | own =>
    simp only [held] at h
    obtain ⟨e, hr⟩ := hr1.new_obj hf1.size (hn (by simp) (by simp)).1 (hn (by simp) (by simp)).2 t rest fz hf' hv1
    refine .value' (κ' := κ.name nm w1.heap.size) ⟨e1.trans e, fun n hd => hd.imp id .inl, hr, hf1.alloc _, Nat.le_refl _⟩ hrun ?_ h
    have := V.ref (κ := κ.name nm w1.heap.size) (w := w1.alloc (.cells ⟨us ++ rest⟩ t fz)) nm 0 xs.length cap (.inr rfl) hle
    simp only [Kx.name, if_true] at this
    rw [hs] at this ⊢
    exact this
  | zero => exact h.elim
  | room =>
    simp only [held] at h
    obtain ⟨e, hr⟩ := hr1.new_tip hf1.size (hn (by simp) (by simp)).1 (hn (by simp) (by simp)).2 (us ++ rest) t fz (hf (by simp)) 0 (cap * k) k (by simpa using hcap)
    refine .value' (κ' := (κ.imms w1.heap.size 0).mark nm w1.heap.size 0 (cap * k) k) ⟨e1.trans e, fun n hd => hd.imp id .inl, hr, hf1.alloc _, Nat.le_refl _⟩ hrun ?_ h
    have := V.room (κ := (κ.imms w1.heap.size 0).mark nm w1.heap.size 0 (cap * k) k) (w := w1.alloc (.cells ⟨us ++ rest⟩ t fz)) 0 cap nm xs.length (.inr rfl) hle (by simp [Kx.mark]) (by simp [Kx.mark])
    simp only [Kx.mark, if_true] at this
    rw [hs] at this ⊢
    exact this

theorem fill_parts (hI : Inv w0 F κ a w ρ σ) {size : Nat} : ∀ {parts : List (Nat × Operand)} {xs : List X} (i : Nat) (cs : List Value), partsOf i parts = some xs → (xs.map (ev ρ)).all (AV.fits size) = true →
    (i + parts.length) * size ≤ cs.length → ∃ us, Instr.fill (fun i => some (i * size, size)) ⟨cs⟩ (parts.map fun (i, x) => (i, a.eval x)) = some ⟨cs.take (i * size) ++ us ++ cs.drop ((i + parts.length) * size)⟩ ∧
      Vl κ w us ((xs.map (ev ρ)).flatMap AV.cells)
  | [], xs, i, cs, h, _, _ => by
    simp only [partsOf, Option.some.injEq] at h; subst h
    exact ⟨[], by simp [Instr.fill], .nil⟩
  | (j, y) :: r, xs, i, cs, h, hf, hl => by
    simp only [partsOf] at h
    split at h
    · rename_i hj
      subst hj
      split at h
      · rename_i x z h1 h2
        simp only [Option.some.injEq] at h; subst h
        simp only [List.map_cons, List.all_cons, Bool.and_eq_true] at hf
        obtain ⟨f1, f2, f3⟩ := fits_iff hf.1
        have vx := (hI.opX h1).cells f1
        have hlx := vx.length
        have hsz : (a.eval y).cells.toList.length = size := by rw [hlx, f2]
        have hm : (j + ((j, y) :: r).length) * size = j * size + size + r.length * size := by simp only [List.length_cons, Nat.add_mul, Nat.one_mul]; omega
        rw [hm] at hl
        have hm1 : (j + 1) * size = j * size + size := by simp [Nat.add_mul]
        have hm2 : (j + 1 + r.length) * size = j * size + size + r.length * size := by simp [Nat.add_mul]
        have hlen : (cs.take (j * size) ++ (a.eval y).cells.toList ++ cs.drop (j * size + size)).length = cs.length := by
          simp only [List.length_append, List.length_take, List.length_drop, hsz]; omega
        obtain ⟨us, e1, e2⟩ := fill_parts hI (j + 1) (cs.take (j * size) ++ (a.eval y).cells.toList ++ cs.drop (j * size + size)) h2 hf.2 (by rw [hlen, hm2]; omega)
        refine ⟨(a.eval y).cells.toList ++ us, ?_, by simpa using vx.append e2⟩
        rw [List.map_cons, fill_cons (off := j * size) (size := size) rfl (by simpa using hsz) (by omega), e1, hm1, hm2, hm]
        congr 2
        have ht : (cs.take (j * size) ++ (a.eval y).cells.toList).length = j * size + size := by
          simp only [List.length_append, List.length_take, hsz]; omega
        rw [List.take_append_of_le_length (by rw [ht]; exact Nat.le_refl _), List.take_of_length_le (by rw [ht]; exact Nat.le_refl _)]
        rw [List.drop_append, ht, List.drop_eq_nil_of_le (by rw [ht]; omega), List.drop_drop]
        simp only [List.nil_append, List.append_assoc]
        congr 4
        omega
      · cases h
    · cases h

theorem ok_bslice (hI : Inv w0 F κ a w ρ σ)  {t e : TypeId} {n k : Nat} {parts : Array (Nat × Operand)} {xs : List X} {z : AV} {hd : Hold} (hn : hd ≠ .val → hd ≠ .zero → ¬ κ.dom nm ∧ nm < σ.next) (hop : o.op = .buildSlice t n parts) (hu : P.underlying t = some (.slice e))
    (hk : sizeOf' P e = some k) (hz : zeroOf P e = some z) (hp : partsOf 0 parts.toList = some xs) (hl : xs.length = n) (hsm : n * k ≤ 65536) (h : astep (ACalls P) nm ρ σ K (.bslice k hd xs)) : Good P w0 F o a w κ σ nm K := by
  obtain ⟨i, v, h1, h2, h3⟩ := zeroOf_ok hz
  have hrun : ∀ {us : List Value}, xs.length = parts.toList.length → Instr.fill (fun i => some (i * k, k)) ⟨((Array.range (n * k)).map ((if n * k = 0 then #[] else v.cells)[· % (if n * k = 0 then #[] else v.cells).size]!)).toList⟩ (parts.toList.map fun (i, x) => (i, a.eval x)) = some ⟨us⟩ →
      (execOp a.eval o).run P w = .ok (.value (.slice (some ⟨w.heap.size, 0, none⟩) n n)) (w.alloc (.cells ⟨us⟩ e (0, 0))) := by
    intro us hlen e1
    obtain ⟨pl⟩ := parts
    have hno : ¬ (n * k > 2 ^ 24) := by omega
    have e1' : Instr.fill (fun i => some (i * k, k)) ((Array.range (n * k)).map ((if n * k = 0 then #[] else v.cells)[· % (if n * k = 0 then #[] else v.cells).size]!)) (Array.map (fun x : Nat × Operand => (x.fst, a.eval x.snd)) ⟨pl⟩).toList = some ⟨us⟩ := by
      rw [Array.toList_map]; exact e1
    simp only [execOp, hop, Instr.buildSlice, Sem.run_bind, underlying, run_program, Result.andThen_ok, hu, Sem.run_pure, run_sizeOf hk, if_neg hno, Sem.run_ite]
    by_cases h0 : n * k = 0
    · simp only [h0, if_true] at e1' ⊢
      rw [e1']
      simp [newRow]
    · simp only [h0, if_false, Sem.run_bind, zeroValue, typeInfo, run_program, Sem.run_pure, Result.andThen_ok, h1, h2] at e1' ⊢
      rw [e1']
      simp [newRow]
  simp only [astep] at h
  split at h
  · -- no room at all
    split at h
    · rename_i hemp
      have hx : xs = [] := List.isEmpty_iff.1 hemp
      subst hx
      have hpn : parts.toList = [] := by
        cases hpp : parts.toList with
        | nil => rfl
        | cons p r =>
          rw [hpp] at hp
          simp only [partsOf] at hp
          split at hp
          · split at hp <;> simp at hp
          · cases hp
      have hn0 : n = 0 := by simpa using hl.symm
      subst hn0
      obtain ⟨e', hr⟩ := hI.r.new_imm [] e (0, 0) 0
      refine .value' (κ' := κ.imms w.heap.size 0) ⟨e', fun n hd => .inl hd, hr, hI.fr.alloc _, Nat.le_refl _⟩ (hrun (us := []) (by rw [hpn]; rfl) ?_) (.slz _ _ (.inr rfl)) h
      rw [hpn]
      simp [Instr.fill]
    · exact h.elim
  split at h
  · rename_i hf
    have hpl : ∀ {l : List (Nat × Operand)} {i : Nat} {xs : List X}, partsOf i l = some xs → l.length = xs.length := by
      intro l
      induction l with
      | nil => intro i xs h; simp only [partsOf, Option.some.injEq] at h; subst h; rfl
      | cons p r ih =>
        intro i xs h
        simp only [partsOf] at h
        split at h
        · split at h
          · rename_i h1 h2; simp only [Option.some.injEq] at h; subst h; simp [ih h2]
          · cases h
        · cases h
    have hlen := hpl hp
    let zs : Array Value := (if n * k = 0 then #[] else v.cells)
    let base : List Value := ((Array.range (n * k)).map (zs[· % zs.size]!)).toList
    have hb : base.length = n * k := by simp [base]
    obtain ⟨us, e1, e2⟩ := fill_parts hI (size := k) 0 base hp hf (by rw [hb, Nat.zero_add, hlen, hl]; exact Nat.le_refl _)
    rw [Nat.zero_add, Nat.zero_mul, List.take_zero, List.nil_append, List.drop_eq_nil_of_le (by rw [hb, hlen, hl]; exact Nat.le_refl _), List.append_nil] at e1
    refine held_ok (us := us) (rest := []) (t := e) (fz := (0, 0)) (cap := n) (n := n) hI hn hf e2 ?_ ?_ (fun _ => ?_) ?_ ?_ h ⟨w, rfl, rfl, rfl, rfl, ?_⟩
    · rw [e2.length, flat_len hf]; simp [hl]
    · simp [hl]
    · exact .inl rfl
    · exact .inl rfl
    · simp [hl]
    · rw [List.append_nil]
      exact hrun hlen.symm e1
  · exact h.elim

theorem ok_iaddr (hI : Inv w0 F κ a w ρ σ) {t e : TypeId} {k : Nat} {y z : Operand} {x x' : X} (hop : o.op = .indexAddr t y z) (hu : P.underlying t = some (.slice e)) (hk : sizeOf' P e = some k) (hx : opX y = some x) (hx' : opX z = some x')
    (h : astep (ACalls P) nm ρ σ K (.iaddr k x x')) : Good P w0 F o a w κ σ nm K := by
  have v1 := hI.opX hx
  have v2 := hI.opX hx'
  simp only [astep] at h
  split at h
  · rename_i xs g kk n h1 h2
    rw [h1] at v1; rw [h2] at v2
    have e2 := v2.int_inv
    split at h
    · rename_i hb
      split at h
      · rename_i y' hy
        split at h
        · rename_i hc
          rcases v1.sl_inv with ⟨_, _, rfl⟩ | ⟨b, i, cap, kq, e1, g1, g2, g3⟩
          · simp at hy
          · have hkq : kq = k := by rw [← hc]; exact (g1 y' (List.mem_of_getElem? hy)).symm
            subst hkq
            have hlt : n.toNat < xs.length := (List.getElem?_eq_some_iff.1 hy).1
            have hyq : xs[n.toNat] = y' := (List.getElem?_eq_some_iff.1 hy).2
            have hsp : xs = xs.take n.toNat ++ y' :: xs.drop (n.toNat + 1) := by rw [← hyq]; simp
            have hft : (xs.take n.toNat).flatMap AV.cells = (xs.flatMap AV.cells).take (n.toNat * kq) ∧ ((xs.take n.toNat).flatMap AV.cells).length = n.toNat * kq := by
              have hall : ∀ (l : List AV), (∀ x ∈ l, x.cells.length = kq) → (l.flatMap AV.cells).length = l.length * kq := by
                intro l
                induction l with
                | nil => intro _; simp
                | cons p r ih => intro hh; simp only [List.flatMap_cons, List.length_append, List.length_cons, Nat.add_mul, ih (fun x hx => hh x (List.mem_cons_of_mem _ hx)), hh p (List.mem_cons_self ..)]; omega
              have hl : ((xs.take n.toNat).flatMap AV.cells).length = n.toNat * kq := by
                rw [hall _ (fun x hx => g1 x (List.mem_of_mem_take hx)), List.length_take, Nat.min_eq_left (Nat.le_of_lt hlt)]
              refine ⟨?_, hl⟩
              conv => rhs; rw [hsp, List.flatMap_append]
              rw [← hl, List.take_left]
            rw [hsp, List.flatMap_append, List.flatMap_cons] at g3
            have g4 := (g3.right _).left
            rw [hft.2] at g4
            refine .value hI (v := .pointer (some ⟨b, i + n.toNat * kq, none⟩)) ?_ (.eptr _ _ _ g4) h
            simp [execOp, hop, e1, e2, Instr.indexAt, asIntOf, underlying, hu, hb, run_sizeOf hk, add_spot]
        · exact h.elim
      · exact h.elim
    · exact h.elim
  · rename_i m off len kk n h1 h2
    rw [h1] at v1; rw [h2] at v2
    have e2 := v2.int_inv
    obtain ⟨cap, e1, hcap, hd⟩ := v1.ref_inv
    split at h
    · rename_i hb
      refine .value hI (v := .pointer (some ⟨κ.φ m, off + n.toNat * k, none⟩)) ?_ (.ptr _ _ hd) h
      simp [execOp, hop, e1, e2, Instr.indexAt, asIntOf, underlying, hu, hb, run_sizeOf hk, add_spot]
    · exact h.elim
  · exact h.elim

theorem ok_iaddrA (hI : Inv w0 F κ a w ρ σ) {t e : TypeId} {k len : Nat} {y z : Operand} {x x' : X} (hop : o.op = .indexAddr t y z) (hu : P.underlying t = some (.array len e)) (hk : sizeOf' P e = some k) (hx : opX y = some x) (hx' : opX z = some x')
    (h : astep (ACalls P) nm ρ σ K (.iaddrA len k x x')) : Good P w0 F o a w κ σ nm K := by
  have v1 := hI.opX hx
  have v2 := hI.opX hx'
  simp only [astep] at h
  split at h
  · rename_i m off kk n h1 h2
    rw [h1] at v1; rw [h2] at v2
    have e2 := v2.int_inv
    obtain ⟨e1, hd⟩ := v1.ptr_inv
    split at h
    · rename_i hb
      refine .value hI (v := .pointer (some ⟨κ.φ m, off + n.toNat * k, none⟩)) ?_ (.ptr _ _ hd) h
      simp [execOp, hop, e1, e2, Instr.indexAt, Instr.sureAddr, asIntOf, underlying, hu, hb, run_sizeOf hk, add_spot]
    · exact h.elim
  · exact h.elim

theorem call_builtin {b : Builtin} {c : Call} {y : List Operand} {ts : List TypeId} (hop : o.op = .call c) (hc : c.callee = .builtin b) (ha : c.args.toList = y) (ht : c.argTypes.toList = ts) {v : Value} {w' : World}
    (h : ∀ cs, (builtin b ⟨ts⟩ o.type cs ⟨y.map a.eval⟩).run P w = .ok (.value v) w') : (execOp a.eval o).run P w = .ok (.value v) w' := by
  obtain ⟨callee, ⟨al⟩, ⟨tl⟩⟩ := c
  simp only at hc ha ht
  subst hc ha ht
  have := h (Array.map (fun x => match x with | .const _ => true | _ => false) ⟨al⟩)
  simp only [execOp, hop, resolve, Sem.run_bind, Sem.run_pure, Result.andThen_ok, invoke, List.map_toArray] at this ⊢
  exact this

theorem ok_len (hI : Inv w0 F κ a w ρ σ) {c : Call} {y : Operand} {x : X} {t e : TypeId} {ts : List TypeId} (hop : o.op = .call c) (hc : c.callee = .builtin .len) (ha : c.args.toList = [y]) (ht : c.argTypes.toList = t :: ts)
    (hu : P.underlying t = some (.slice e)) (hx : opX y = some x) (h : astep (ACalls P) nm ρ σ K (.len x)) : Good P w0 F o a w κ σ nm K := by
  have v1 := hI.opX hx
  simp only [astep] at h
  split at h
  · rename_i xs g hn
    rw [hn] at v1
    have hu' : ∃ n c, a.eval y = .slice n xs.length c := by
      rcases v1.sl_inv with ⟨_, e1, rfl⟩ | ⟨b, i, cap, kq, e1, _⟩
      · exact ⟨_, _, e1⟩
      · exact ⟨_, _, e1⟩
    obtain ⟨q1, q2, e1⟩ := hu'
    exact .value hI (call_builtin hop hc ha ht (fun cs => by simp [builtin, Builtin.len_, e1, underlying, hu, goInt])) (.int _ _) h
  · rename_i n off len hn
    rw [hn] at v1
    obtain ⟨cap, e1, _, _⟩ := v1.ref_inv
    exact .value hI (call_builtin hop hc ha ht (fun cs => by simp [builtin, Builtin.len_, e1, underlying, hu, goInt])) (.int _ _) h
  · exact h.elim

theorem ok_slen (hI : Inv w0 F κ a w ρ σ) {c : Call} {y : Operand} {x : X} {t : TypeId} {ts : List TypeId} (hop : o.op = .call c) (hc : c.callee = .builtin .len) (ha : c.args.toList = [y]) (ht : c.argTypes.toList = t :: ts)
    (hu : P.underlying t = some .string) (hx : opX y = some x) (h : astep (ACalls P) nm ρ σ K (.slen x)) : Good P w0 F o a w κ σ nm K := by
  have v1 := hI.opX hx
  simp only [astep] at h
  split at h
  · rename_i s hn
    rw [hn] at v1
    exact .value hI (call_builtin hop hc ha ht (fun cs => by simp [builtin, Builtin.len_, v1.str_inv, underlying, hu, goInt])) (.int _ _) h
  · exact h.elim

theorem Vm.length : ∀ {es : List MapEntry} {ps : List (AV × AV)}, Vm κ w es ps → es.length = ps.length
  | _, _, .nil => rfl
  | _, _, .cons _ _ _ _ _ _ t => by simp [t.length]

theorem ok_mlen (hI : Inv w0 F κ a w ρ σ) {c : Call} {y : Operand} {x : X} {t k e : TypeId} {ts : List TypeId} (hop : o.op = .call c) (hc : c.callee = .builtin .len) (ha : c.args.toList = [y]) (ht : c.argTypes.toList = t :: ts)
    (hu : P.underlying t = some (.map k e)) (hx : opX y = some x) (h : astep (ACalls P) nm ρ σ K (.mlen x)) : Good P w0 F o a w κ σ nm K := by
  have v1 := hI.opX hx
  simp only [astep] at h
  split at h
  · rename_i hn
    rw [hn] at v1
    exact .value hI (v := .int .i64 0) (call_builtin hop hc ha ht (fun cs => by simp [builtin, Builtin.len_, v1.nilm_inv, underlying, hu, goInt])) (.int _ _) h
  · rename_i n hn
    rw [hn] at v1
    obtain ⟨e1, hd⟩ := v1.map_inv
    split at h
    · rename_i es ts cl hr
      obtain ⟨_, ents, g1, g2, _⟩ := hI.r.own n _ hr
      have hl := g2.length
      refine .value hI (v := .int .i64 es.length) (call_builtin hop hc ha ht (fun cs => ?_)) (.int _ _) h
      have hg : (getObj (κ.φ n)).run P w = .ok (.map ⟨ents⟩ cl) w := by simp [getObj, Sem.run, g1]
      simp [builtin, Builtin.len_, e1, underlying, hu, goInt, hg, hl]
    · exact h.elim
  · exact h.elim

/-! ### Cutting -/
theorem run_bound {y : Operand} {d : Int} {x : X} {l : Int} (hI : Inv w0 F κ a w ρ σ) (hx : opX y = some x) (hl : idx ρ d (some x) = some l) (m : Nat) (code : BoundsCode) (h0 : 0 ≤ l) (h1 : l ≤ m) :
    (Instr.sliceBound (a.eval y) m code).run P w = .ok l.toNat w := by
  have v := hI.opX hx
  simp only [idx] at hl
  split at hl
  · rename_i k n hn
    rw [hn] at v
    simp only [Option.some.injEq] at hl; subst hl
    have hc : 0 ≤ n ∧ n ≤ (m : Int) := ⟨h0, h1⟩
    simp [Instr.sliceBound, v.int_inv, asIntOf, hc]
  · cases hl

theorem opXo_cases {y : Option Operand} {x : Option X} (h : opXo y = some x) : (y = none ∧ x = none) ∨ ∃ y' x', y = some y' ∧ x = some x' ∧ opX y' = some x' := by
  cases y with
  | none => simp only [opXo, Option.some.injEq] at h; exact .inl ⟨rfl, h.symm⟩
  | some y' =>
    simp only [opXo, Option.map_eq_some_iff] at h
    obtain ⟨x', h1, rfl⟩ := h
    exact .inr ⟨y', x', rfl, rfl, h1⟩

theorem run_bounds (hI : Inv w0 F κ a w ρ σ) {lo hi : Option Operand} {lo' hi' : Option X} (hlo : opXo lo = some lo') (hhi : opXo hi = some hi') {len cap : Nat} {l h : Int} (isS : Bool)
    (h1 : idx ρ 0 lo' = some l) (h2 : idx ρ len hi' = some h) (h0 : 0 ≤ l) (hlh : l ≤ h) (hc : h ≤ cap) :
    (Instr.sliceBounds isS len cap (lo.map a.eval) (hi.map a.eval) none).run P w = .ok (l.toNat, h.toNat, cap) w := by
  have hle : l ≤ (h.toNat : Int) := by omega
  rcases opXo_cases hhi with ⟨rfl, rfl⟩ | ⟨y, x, rfl, rfl, hx⟩
  · simp only [idx, Option.some.injEq] at h2; subst h2
    rcases opXo_cases hlo with ⟨rfl, rfl⟩ | ⟨y', x', rfl, rfl, hx'⟩
    · simp only [idx, Option.some.injEq] at h1; subst h1
      simp [Instr.sliceBounds]
    · have := run_bound (P := P) hI hx' h1 len .sliceB h0 (by omega)
      simp [Instr.sliceBounds, this]
  · have hq := run_bound (P := P) hI hx h2 cap (if isS = true then .sliceAcap else .sliceAlen) (by omega) hc
    rcases opXo_cases hlo with ⟨rfl, rfl⟩ | ⟨y', x', rfl, rfl, hx'⟩
    · simp only [idx, Option.some.injEq] at h1; subst h1
      simp [Instr.sliceBounds, hq]
    · have := run_bound (P := P) hI hx' h1 h.toNat .sliceB h0 hle
      simp [Instr.sliceBounds, hq, this]
end
end Go.VL
