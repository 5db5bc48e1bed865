/- The value logic, part K: append. -/
import Derived.Test.YtlbnimbgodmagaaVlJ
namespace Go.VL
section
variable {P : Program} {w0 : World} {F : Nat → Prop} {o : Oper} {a : Act} {w : World} {κ : Kx} {ρ : List AV} {σ : St} {nm : Nat} {K : AV → St → Prop}

theorem er_len' (x : AV) : x.er.cells.length = x.cells.length := by cases x <;> simp [AV.er, AV.er1, AV.cells]
theorem er_cells' (x : AV) : x.er.cells = x.cells.map AV.er1 := by cases x <;> simp [AV.er, AV.er1, AV.cells]

/-- a slice's cells, read -/
theorem run_first {xs : List AV} {g : Ver} {v : Value} {k : Nat} (hv : V κ w v (.sl xs g)) (hk : ∀ x ∈ xs, x.cells.length = k) :
    ∃ us, (∀ q, (Builtin.firstCells k xs.length v).run P { w with drawn := q } = .ok ⟨us⟩ { w with drawn := q }) ∧ Vl κ w us (xs.flatMap AV.cells) ∧ (∀ q, (Builtin.lenOf v).run P { w with drawn := q } = .ok xs.length { w with drawn := q }) := by
  have hfl : ∀ {l : List AV}, (∀ x ∈ l, x.cells.length = k) → (l.flatMap AV.cells).length = l.length * k := by
    intro l
    induction l with
    | nil => intro _; simp
    | cons p r ih => intro hh; simp only [List.flatMap_cons, List.length_append, List.length_cons, Nat.add_mul, ih (fun x hx => hh x (List.mem_cons_of_mem _ hx)), hh p (List.mem_cons_self ..)]; omega
  rcases hv.sl_inv with ⟨base, rfl, rfl⟩ | ⟨b, i, cap, kq, rfl, _, _, h3⟩
  · refine ⟨[], fun q => ?_, .nil, fun q => by simp [Builtin.lenOf]⟩
    cases base with
    | none => simp [Builtin.firstCells]
    | some a =>
      have hr := run_loadCells_list (P := P) (w := { w with drawn := q }) a [] (fun j v hj => by simp at hj)
      simp at hr
      simp [Builtin.firstCells, hr]
  · obtain ⟨us, g1, g2, g3⟩ := h3.row
    refine ⟨us, fun q => ?_, g1, fun q => by simp [Builtin.lenOf]⟩
    have hr := run_loadCells_list (P := P) (w := { w with drawn := q }) ⟨b, i, none⟩ us (fun j v hj => by rw [add_spot]; exact g3 j v hj)
    rw [g2, hfl hk] at hr
    simp [Builtin.firstCells, hr]

theorem bytes_all (s : List UInt8) : (bytesAV s).all (AV.fits 1) = true := by
  simp [bytesAV, AV.fits, AV.isAny, AV.cells, AV.one]
theorem bytes_flat : ∀ (s : List UInt8), (bytesAV s).flatMap AV.cells = bytesAV s
  | [] => rfl
  | _ :: r => by
    have := bytes_flat r
    simp only [bytesAV, List.map_cons, List.flatMap_cons] at this ⊢
    rw [this]; rfl
theorem Vl.bytes : ∀ (s : List UInt8), Vl κ w (s.map fun b => Value.int .u8 b.toNat) (bytesAV s)
  | [] => .nil
  | _ :: r => .cons _ _ _ _ (.int _ _) (Vl.bytes r)

theorem growBy_le (need : Nat) : ∀ (r c : Nat), c ≤ 2 * need → 256 ≤ need → Builtin.growBy need r c ≤ 2 * need
  | 0, c, h, _ => h
  | r + 1, c, h, h2 => by
    simp only [Builtin.growBy]
    split
    · exact h
    · exact growBy_le need r _ (by omega) h2
theorem next_le {need cap : Nat} (h : cap < need) : Builtin.nextslicecap need cap ≤ 2 * need := by
  unfold Builtin.nextslicecap
  split
  · omega
  · split
    · omega
    · exact growBy_le _ _ _ (by omega) (by omega)

theorem mul_two {n b : Nat} (h : n * b ≤ 70368744177664) : 2 * n * b ≤ 2 ^ 48 := by
  rw [Nat.mul_assoc]
  omega

theorem zeroCells_len (z : Array Value) (n : Nat) : (Builtin.zeroCells z n).toList.length = n * z.size := by simp [Builtin.zeroCells]

/-- the run of an append whose appended cells are known -/
theorem run_append_room {ti : TypeInfo} {t u e : TypeId} {ty : TypeId} {s x : Value} {base : Option Addr} {n cap m : Nat} {ys : List Value} {d : TypeDesc} (hu : P.underlying t = some (.slice e)) (hd : P.underlying u = some d) (hdi : ∀ k, d ≠ .int k)
    (hi : P.info? e = some ti) (hs : s = .slice base n cap) (hl : (Builtin.lenOf x).run P w = .ok m w) (hf : (Builtin.firstCells ti.size m x).run P w = .ok ⟨ys⟩ w) (hroom : n + m ≤ cap) {w' : World}
    (hst : ∀ b, base = some b → (storeCells (b.add (n * ti.size)) ys).run P w = .ok () w') (hno : base = none → w' = w) :
    (Builtin.append_ ⟨[t, u]⟩ ty ⟨[s, x]⟩).run P w = .ok (.slice base (n + m) cap) w' := by
  subst hs
  have hsz : (sizeOf e).run P w = .ok ti.size w := by simp [sizeOf, typeInfo, hi]
  cases base with
  | none =>
    have := hno rfl
    subst this
    simp [Builtin.append_, underlying, hu, hsz, hd, hl, hf, hroom]
  | some b =>
    have := hst b rfl
    simp [Builtin.append_, underlying, hu, hsz, hd, hl, hf, hroom, this]

theorem run_append_grow {ti : TypeInfo} {t u e : TypeId} {ty : TypeId} {s x z : Value} {base : Option Addr} {n cap m : Nat} {ys os : List Value} {d : TypeDesc} (hu : P.underlying t = some (.slice e)) (hd : P.underlying u = some d) (hdi : ∀ k, d ≠ .int k)
    (hi : P.info? e = some ti) (hz : ti.zero = some z) (hzs : z.cells.size = ti.size) (hs : s = .slice base n cap)
    (hl : ∀ q, (Builtin.lenOf x).run P { w with drawn := q } = .ok m { w with drawn := q }) (hf : ∀ q, (Builtin.firstCells ti.size m x).run P { w with drawn := q } = .ok ⟨ys⟩ { w with drawn := q })
    (ho : ∀ q, (Builtin.firstCells ti.size n s).run P { w with drawn := q } = .ok ⟨os⟩ { w with drawn := q })
    (hroom : cap < n + m) (hb : (n + m) * ti.bytes ≤ 70368744177664) (hb0 : 0 < ti.bytes) :
    ∃ (q c : Nat) (rest : List Value), n + m ≤ c ∧ rest.length = (c - (n + m)) * ti.size ∧
      (Builtin.append_ ⟨[t, u]⟩ ty ⟨[s, x]⟩).run P w = .ok (.slice (some ⟨w.heap.size, 0, none⟩) (n + m) c) (({ w with drawn := q } : World).alloc (.cells ⟨os ++ ys ++ rest⟩ e)) := by
  have hsz : ∀ q, (sizeOf e).run P { w with drawn := q } = .ok ti.size { w with drawn := q } := fun q => by simp [sizeOf, typeInfo, hi]
  have hw : ({ w with drawn := w.drawn } : World) = w := rfl
  have hl0 := hl w.drawn
  have hs0 := hsz w.drawn
  rw [hw] at hl0 hs0
  have hcut : ∀ T, n + m ≤ (Question.appendCap (n + m) cap e).cut T := fun T => by simp [Question.cut]
  have hnr : ¬ (n + m ≤ cap) := by omega
  have hb1 : ¬ (Builtin.nextslicecap (n + m) cap * ti.bytes > 2 ^ 48) := by
    have h1 := next_le hroom
    have h2 := mul_two hb
    have h3 := Nat.mul_le_mul_right ti.bytes h1
    omega
  have hti : (typeInfo e).run P w = .ok ti w := by simp [typeInfo, hi]
  have hbz : ¬ (ti.bytes = 0) := by omega
  refine ⟨w.drawn + 1, (Question.appendCap (n + m) cap e).cut (w.tape w.drawn (.appendCap (n + m) cap e)), (Builtin.zeroCells z.cells ((Question.appendCap (n + m) cap e).cut (w.tape w.drawn (.appendCap (n + m) cap e)) - (n + m))).toList, hcut _, ?_, ?_⟩
  · rw [zeroCells_len, hzs]
  · subst hs
    have hf1 : (Builtin.firstCells ti.size m x).run P w.drew = .ok ⟨ys⟩ w.drew := hf (w.drawn + 1)
    have ho1 : (Builtin.firstCells ti.size n (.slice base n cap)).run P w.drew = .ok ⟨os⟩ w.drew := ho (w.drawn + 1)
    generalize hC : (Question.appendCap (n + m) cap e).cut (w.tape w.drawn (.appendCap (n + m) cap e)) = C at *
    have hzv : (zeroValue e).run P w.drew = .ok z w.drew := by simp [zeroValue, typeInfo, hi, hz]
    have hti1 : (typeInfo e).run P w.drew = .ok ti w.drew := by simp [typeInfo, hi]
    simp [Builtin.append_, underlying, hu, hs0, hd, hl0, hnr, hti, hbz, hb1, Question.forced, hC, hti1, ho1, hf1, hzv, newRow]
    have he : ∀ A : Array Value, ((⟨os⟩ : Array Value) ++ ((⟨ys⟩ : Array Value) ++ A)) = ⟨os ++ (ys ++ A.toList)⟩ := fun A => by apply Array.ext'; simp
    rw [he]

theorem R.del {B : Nat} (h : R B F κ w σ) (n : Nat) : R B F κ w (σ.del n) :=
  h.step (.refl _ _) h.dom h.imm fun m r hm => by
    by_cases hx : m = n
    · subst hx; simp [St.del] at hm
    · have : (σ.del n).res m = σ.res m := by simp [St.del, hx]
      exact .inl ⟨by rw [← this]; exact hm, rfl, fun _ x => x⟩

theorem St.del_res (σ : St) {n m : Nat} {r : Res} (h : (σ.del n).res m = some r) : m ≠ n ∧ σ.res m = some r := by
  by_cases hx : m = n
  · subst hx; simp [St.del] at h
  · exact ⟨hx, by simpa [St.del, hx] using h⟩

theorem flat_er' : ∀ (xs : List AV), (xs.map AV.er).flatMap AV.cells = (xs.flatMap AV.cells).map AV.er1
  | [] => rfl
  | x :: xs => by simp only [List.map_cons, List.flatMap_cons, List.map_append, er_cells', flat_er' xs]

theorem one_cells {x : AV} (h : x.one = true) : x.er1.cells = [x.er1] := by
  cases x <;> first | rfl | (simp [AV.one] at h)
theorem ones_flat : ∀ {cs : List AV}, cs.all AV.one = true → (cs.map AV.er1).flatMap AV.cells = cs.map AV.er1
  | [], _ => rfl
  | x :: r, h => by
    simp only [List.all_cons, Bool.and_eq_true] at h
    simp only [List.map_cons, List.flatMap_cons, one_cells h.1, ones_flat h.2, List.cons_append, List.nil_append]

/-- what is read of an owned row of single cells -/
theorem ref_ok {B : Nat} {F : Nat → Prop} (hR : R B F κ w σ) {v : Value} {n off len : Nat} {cs : List AV} (hv : V κ w v (.ref n off len)) (hr : σ.res n = some (.obj cs)) (hle : off + len ≤ cs.length) (hone : ((cs.drop off).take len).all AV.one = true) :
    ∃ us, (∀ m q, m ≤ len → (Builtin.firstCells 1 m v).run P { w with drawn := q } = .ok ⟨us.take m⟩ { w with drawn := q }) ∧ Vl κ w us ((((cs.drop off).take len).map AV.er1).flatMap AV.cells) ∧ us.length = len ∧ (∀ q, (Builtin.lenOf v).run P { w with drawn := q } = .ok len { w with drawn := q }) := by
  obtain ⟨cap, rfl, _, hd⟩ := hv.ref_inv
  obtain ⟨us, q1, q2⟩ := Row.of_own (hR.own n _ hr).2
  have hl := q1.length
  have hlu : ((us.drop off).take len).length = len := by rw [List.length_take, List.length_drop]; omega
  refine ⟨(us.drop off).take len, fun m q hm => ?_, by rw [ones_flat hone]; exact ((q1.drop off).take len).er1, hlu, fun q => by simp [Builtin.lenOf]⟩
  have hrr := run_loadCells_list (P := P) (w := { w with drawn := q }) ⟨κ.φ n, off, none⟩ (((us.drop off).take len).take m) (fun j v hj => by
    rw [add_spot]
    have h0 := q2 (off + j) v (by
      rw [List.getElem?_take] at hj
      split at hj
      · rw [List.getElem?_take] at hj
        split at hj
        · simpa using hj
        · cases hj
      · cases hj)
    rw [Nat.zero_add] at h0; exact h0)
  rw [List.length_take, hlu, Nat.min_eq_left hm] at hrr
  simpa [Builtin.firstCells] using hrr

theorem src_ok {B : Nat} {F : Nat → Prop} (hR : R B F κ w σ) {v : Value} {x : AV} {ys : List AV} {k : Nat} (hv : V κ w v x) (hs : srcOf σ k x = some ys) (hk : ∀ y ∈ ys, y.cells.length = k) :
    ∃ us, (∀ q, (Builtin.firstCells k ys.length v).run P { w with drawn := q } = .ok ⟨us⟩ { w with drawn := q }) ∧ Vl κ w us (ys.flatMap AV.cells) ∧ (∀ q, (Builtin.lenOf v).run P { w with drawn := q } = .ok ys.length { w with drawn := q }) := by
  unfold srcOf at hs
  split at hs
  · rename_i zs g
    simp only [Option.some.injEq] at hs; subst hs
    obtain ⟨us, h1, h2, h3⟩ := run_first (P := P) (k := k) hv (fun z hz => by rw [← er_len' z]; exact hk _ (List.mem_map_of_mem hz))
    refine ⟨us, fun q => by rw [List.length_map]; exact h1 q, ?_, fun q => by rw [List.length_map]; exact h3 q⟩
    rw [flat_er']; exact h2.er1
  · rename_i s
    simp only [Option.some.injEq] at hs; subst hs
    have := hv.str_inv
    subst this
    refine ⟨s.data.toList.map fun b => Value.int .u8 b.toNat, fun q => ?_, by rw [bytes_flat]; exact Vl.bytes _, fun q => ?_⟩
    · have he : s.extract 0 (bytesAV s.data.toList).length = s := by
        obtain ⟨d⟩ := s
        simp [bytesAV, ByteArray.extract, ByteArray.copySlice]
      simp only [Builtin.firstCells, he, Sem.run_pure]
      congr 1
      apply Array.ext'
      simp
    · simp [bytesAV, Builtin.lenOf]
  · rename_i n off len
    split at hs
    · rename_i cs hr
      split at hs
      · rename_i hc
        obtain ⟨rfl, hle, hone⟩ := hc
        simp only [Option.some.injEq] at hs; subst hs
        obtain ⟨us, h1, h2, h3, h4⟩ := ref_ok (P := P) hR hv hr hle hone
        have hl : (((cs.drop off).take len).map AV.er1).length = len := by rw [List.length_map, List.length_take, List.length_drop]; omega
        refine ⟨us, fun q => ?_, h2, fun q => by rw [hl]; exact h4 q⟩
        have := h1 len q (Nat.le_refl _)
        rw [List.take_of_length_le (by omega)] at this
        rw [hl]; exact this
      · cases hs
    · cases hs
  · cases hs

theorem grow_ok (hI : Inv w0 F κ a w ρ σ) (hn : ¬ κ.dom nm) (hlt : nm < σ.next) {σ' : St} (hR : R w0.heap.size F κ w σ') (hnx : σ'.next = σ.next) {k : Nat} {xs : List AV} (hk : xs.all (AV.fits k) = true) {us rest : List Value} {t : TypeId} {n c q : Nat}
    (hv : Vl κ w us (xs.flatMap AV.cells)) (hle : n ≤ c) (hn' : n = xs.length) (hrl : rest.length = (c - n) * k) (hK : K (.sl xs (.tip nm)) (σ'.set nm (.tip k)))
    (hrun : (execOp a.eval o).run P w = .ok (.value (.slice (some ⟨w.heap.size, 0, none⟩) n c)) (({ w with drawn := q } : World).alloc (.cells ⟨us ++ rest⟩ t))) : Good P w0 F o a w κ σ nm K := by
  subst hn'
  have e1 : Ext κ w κ { w with drawn := q } := ⟨fun _ _ x => x, fun _ _ => rfl, fun _ _ => rfl, fun _ _ => rfl, fun _ _ => rfl, fun _ x => x, fun _ _ _ => rfl⟩
  have hr1 : R w0.heap.size F κ { w with drawn := q } σ' := hR.step e1 hR.dom hR.imm (fun n r hr => .inl ⟨hr, rfl, fun _ x => x⟩)
  have hf1 : Fr F w0 { w with drawn := q } := hI.fr.drawn q
  have hv1 : Vl κ { w with drawn := q } us (xs.flatMap AV.cells) := hv.mono e1
  have hlen : us.length = xs.length * k := by rw [hv.length]; exact flat_len hk
  have htot : c * k = us.length + rest.length := by rw [hlen, hrl, ← Nat.add_mul]; congr 1; omega
  obtain ⟨e, hr⟩ := hr1.new_tip hf1.size hn (by rw [hnx]; exact hlt) (us ++ rest) t (0, 0) (.inl rfl) us.length (c * k) k (by rw [htot, List.length_append]; exact Nat.le_refl _)
  refine .value' (κ' := (κ.imms w.heap.size us.length).mark nm w.heap.size us.length (c * k) k) ⟨e1.trans e, fun n hd => hd.imp id .inl, hr, hf1.alloc _, by simp [hnx]⟩ hrun ?_ hK
  have := V.tip (κ := (κ.imms w.heap.size us.length).mark nm w.heap.size us.length (c * k) k) (w := (({ w with drawn := q } : World).alloc (.cells ⟨us ++ rest⟩ t))) 0 c nm xs (by simpa [Kx.mark] using all_cl hk)
    hle (.inr rfl) (by simp [Kx.mark, hlen]) (by simp [Kx.mark])
    (Vs.mk (hv1.mono e) (fun i u hu => ⟨.inr ⟨by simp [Kx.mark], by simpa using (List.getElem?_eq_some_iff.1 hu).1⟩, by
      have hi : i < us.length := (List.getElem?_eq_some_iff.1 hu).1
      simp only [Kx.mark, if_true]
      rw [cell_of (heap_alloc_new ({ w with drawn := q } : World) _), Nat.zero_add, List.getElem?_append_left hi]
      exact hu⟩))
  simpa [Kx.mark] using this

theorem room_ok (hI : Inv w0 F κ a w ρ σ) (hn : ¬ κ.dom nm) (hlt : nm < σ.next) {h k i cap : Nat} {xs ys : List AV} (hk : (xs ++ ys).all (AV.fits k) = true) (hr : σ.res h = some (.tip k)) (hkq : ∀ x ∈ xs, x.cells.length = κ.ξ h) 
    (he1 : κ.ψ h = i + xs.length * κ.ξ h) (he2 : κ.χ h = i + cap * κ.ξ h) (hvs : Vs κ w (κ.φ h) i (xs.flatMap AV.cells)) (hroom : xs.length + ys.length ≤ cap) {us : List Value} (hv : Vl κ w us (ys.flatMap AV.cells))
    (hK : K (.sl (xs ++ ys) (.tip nm)) ((σ.del h).set nm (.tip k)))
    (hrun : ∀ w', (storeCells ((⟨κ.φ h, i, none⟩ : Addr).add (xs.length * k)) us).run P w = .ok () w' → (execOp a.eval o).run P w = .ok (.value (.slice (some ⟨κ.φ h, i, none⟩) (xs.length + ys.length) cap)) w') : Good P w0 F o a w κ σ nm K := by
  obtain ⟨hdom, hxi, bs, t, fz, g1, g2, g3, g4⟩ := hI.r.own h _ hr
  rw [List.all_append, Bool.and_eq_true] at hk
  have hlen : us.length = ys.length * k := by rw [hv.length]; exact flat_len hk.2
  rw [hxi] at he1 he2 hkq
  have hone : ∀ u ∈ us, u.oneCell' = true := by
    refine hv.ones (List.all_eq_true.2 fun x hx => ?_)
    obtain ⟨y, hy, hxy⟩ := List.mem_flatMap.1 hx
    exact List.all_eq_true.1 (fits_iff (List.all_eq_true.1 hk.2 y hy)).2.2 x hxy
  have hmul : (xs.length + ys.length) * k ≤ cap * k := Nat.mul_le_mul_right _ hroom
  rw [Nat.add_mul] at hmul
  obtain ⟨w', r1, r2, r3⟩ := run_storeCells (P := P) us (κ.ψ h) w bs g1 g2 (by omega) (Nat.le_refl _) hone (κ.ψ h) 0 rfl
  have hrr := hrun w' (by rw [add_spot, ← he1]; exact r1)
  let κ' : Kx := ({ κ with I := fun b o => κ.I b o ∨ (b = κ.φ h ∧ κ.ψ h ≤ o ∧ o < κ.ψ h + us.length) } : Kx).mark nm (κ.φ h) (κ.ψ h + us.length) (κ.χ h) k
  have hcell : ∀ b j, κ.I b j → w'.cell? ⟨b, j, none⟩ = w.cell? ⟨b, j, none⟩ := by
    intro b j hj
    by_cases hb : b = κ.φ h
    · subst hb
      have hlt' : j < κ.ψ h := by
        rcases Nat.lt_or_ge j (κ.ψ h) with hx | hx
        · exact hx
        · exact absurd hj (g4 j hx)
      rw [cell_of r2, cell_of g1, List.append_assoc, List.getElem?_append_left (by rw [List.length_take]; omega), List.getElem?_take, if_pos hlt']
    · exact cell_same (r3.block b hb) j
  have e : Ext κ w κ' w' := by
    have e1 : Ext κ w ({ κ with I := fun b o => κ.I b o ∨ (b = κ.φ h ∧ κ.ψ h ≤ o ∧ o < κ.ψ h + us.length) } : Kx) w' :=
      ⟨fun _ _ x => .inl x, fun _ _ => rfl, fun _ _ => rfl, fun _ _ => rfl, fun _ _ => rfl, fun _ x => x, hcell⟩
    exact e1.trans (.mark (κ := { κ with I := fun b o => κ.I b o ∨ (b = κ.φ h ∧ κ.ψ h ≤ o ∧ o < κ.ψ h + us.length) }) hn (fun _ _ _ => rfl))
  have hnew : ∀ j u, us[j]? = some u → w'.cell? ⟨κ.φ h, κ.ψ h + j, none⟩ = some u := by
    intro j u hu
    have hj : j < us.length := (List.getElem?_eq_some_iff.1 hu).1
    rw [cell_of r2, List.append_assoc, List.getElem?_append_right (by rw [List.length_take]; omega), List.length_take, Nat.min_eq_left (by omega), List.getElem?_append_left (by omega)]
    rw [show κ.ψ h + j - κ.ψ h = j by omega]; exact hu
  have hR' : R w0.heap.size F κ' w' ((σ.del h).set nm (.tip k)) := by
    refine hI.r.step e (fun n hd => ?_) (fun b j hj => ?_) (fun n r hnr => ?_)
    · rcases hd with hd | rfl
      · exact hI.r.dom n hd
      · exact hlt
    · rw [r3.size]
      rcases hj with hj | ⟨rfl, _⟩
      · exact hI.r.imm b j hj
      · exact hI.r.lt hr
    · by_cases hx : n = nm
      · subst hx
        simp only [St.set_same, Option.some.injEq] at hnr
        subst hnr
        refine .inr ⟨.inr rfl, ⟨by simp [κ', Kx.mark], _, t, fz, by simp only [κ', Kx.mark, if_true]; exact r2, ?_, ?_, fun j hp hj => ?_⟩, ?_, fun m s hm hmm => ?_⟩
        · refine g2.imp id (fun hx => Nat.le_trans ?_ hx)
          simp only [List.length_append, List.length_take, List.length_drop]
          omega
        · simp only [κ', Kx.mark, if_true, List.length_append, List.length_take, List.length_drop]; omega
        · simp only [κ', Kx.mark, if_true] at hp hj
          rcases hj with hj | hj
          · exact g4 j (by omega) hj
          · omega
        · simp only [κ', Kx.mark, if_true]; exact hI.r.foot h _ hr
        · by_cases hy : m = n
          · exact hy.symm
          · rw [St.set_other _ _ hy] at hm
            obtain ⟨hmh, hm'⟩ := St.del_res σ hm
            simp only [κ', Kx.mark, if_true, hy, if_false] at hmm
            exact absurd (hI.r.apart _ _ _ _ hr hm' hmm).symm hmh
      · rw [St.set_other _ _ hx] at hnr
        obtain ⟨hnh, hnr'⟩ := St.del_res σ hnr
        have hne : κ.φ n ≠ κ.φ h := fun hy => hnh (hI.r.apart _ _ _ _ hnr' hr hy)
        refine .inl ⟨hnr', r3.block _ hne, fun j hj => ?_⟩
        rcases hj with hj | ⟨hj, _⟩
        · exact hj
        · exact absurd hj hne
  refine .value' (κ' := κ') ⟨e, fun n hd => hd.imp id .inl, hR', hI.fr.owned hI.r rfl hr r3.os r3.tape r3.output r3.size r3.block, Nat.le_refl _⟩ hrr ?_ hK
  have := V.tip (κ := κ') (w := w') i cap nm (xs ++ ys) (fun x hx => ?_) (by rw [List.length_append]; exact hroom) (.inr rfl) ?_ ?_ ?_
  · simpa [κ', Kx.mark] using this
  · simp only [κ', Kx.mark, if_true]
    rcases List.mem_append.1 hx with hx | hx
    · exact hkq x hx
    · exact all_cl hk.2 x hx
  · simp only [κ', Kx.mark, if_true, List.length_append, Nat.add_mul]; omega
  · simp only [κ', Kx.mark, if_true]; exact he2
  · simp only [κ', Kx.mark, if_true]
    rw [List.flatMap_append]
    have hold := Vs.mono e hvs
    refine Vs.append (by simpa [κ', Kx.mark] using hold) ?_
    rw [flat_len hk.1, ← he1]
    exact Vs.mk (hv.mono e) (fun j u hu => ⟨.inr ⟨rfl, by omega, by have := (List.getElem?_eq_some_iff.1 hu).1; omega⟩, hnew j u hu⟩)

theorem own_ok (hI : Inv w0 F κ a w ρ σ) (hn : ¬ κ.dom nm) (hlt : nm < σ.next) {k : Nat} {xs : List AV} (hk : xs.all (AV.fits k) = true) {us rest : List Value} {t : TypeId} {n c q : Nat}
    (hv : Vl κ w us (xs.flatMap AV.cells)) (hle : n ≤ c) (hn' : n = xs.length) (hrl : rest.length = (c - n) * k) {hd : Hold} (hK : (hd = .own ∧ K (.ref nm 0 xs.length) (σ.set nm (.obj (xs.flatMap AV.cells)))) ∨ (hd = .room ∧ K (.room nm xs.length) (σ.set nm (.tip k))))
    (hrun : (execOp a.eval o).run P w = .ok (.value (.slice (some ⟨w.heap.size, 0, none⟩) n c)) (({ w with drawn := q } : World).alloc (.cells ⟨us ++ rest⟩ t))) : Good P w0 F o a w κ σ nm K := by
  refine held_ok (us := us) (rest := rest) (t := t) (fz := (0, 0)) (cap := c) (n := n) (k := k) (xs := xs) (hd := hd) hI (fun _ _ => ⟨hn, hlt⟩) hk hv ?_ (by omega) (fun _ => .inl rfl) (.inl rfl) hn' ?_ ⟨{ w with drawn := q }, rfl, rfl, rfl, rfl, hrun⟩
  · have hlen : us.length = xs.length * k := by rw [hv.length]; exact flat_len hk
    rw [hlen, hrl, ← Nat.add_mul, hn']
    exact Nat.mul_le_mul_right _ (by omega)
  · rcases hK with ⟨rfl, hK⟩ | ⟨rfl, hK⟩
    · exact hK
    · exact hK

theorem ok_app (hI : Inv w0 F κ a w ρ σ) (hn : ¬ κ.dom nm) (hlt : nm < σ.next) {c : Call} {y z : Operand} {x x' : X} {t u e : TypeId} {ti : TypeInfo} {d : TypeDesc} (hop : o.op = .call c) (hc : c.callee = .builtin .append)
    (ha : c.args.toList = [y, z]) (ht : c.argTypes.toList = [t, u]) (hu : P.underlying t = some (.slice e)) (hd : P.underlying u = some d) (hdi : ∀ k, d ≠ .int k) (hi : P.info? e = some ti) (hbz : 0 < ti.bytes) (hzl : zlen P e = some ti.size)
    (hx : opX y = some x) (hx' : opX z = some x') {hd0 : Hold} (h : astep (ACalls P) nm ρ σ K (.app ti.size ti.bytes hd0 x x')) : Good P w0 F o a w κ σ nm K := by
  have v1 := hI.opX hx
  have v2 := hI.opX hx'
  obtain ⟨zz, hzz, hzl'⟩ : ∃ zz, zeroOf P e = some zz ∧ zz.cells.length = ti.size := by
    unfold zlen at hzl; rw [Option.map_eq_some_iff] at hzl; exact hzl
  obtain ⟨ti', zv, hi', hz2, hz3⟩ := zeroOf_ok hzz
  rw [hi] at hi'; simp only [Option.some.injEq] at hi'; subst hi'
  have hzs : zv.cells.size = ti.size := by
    have := ((constV_ok (κ := κ) (w := w) hz3).cells (constV_ne hz3)).length
    rw [hzl'] at this; simpa using this
  simp only [astep] at h
  split at h
  · rename_i xs g hsx
    rw [hsx] at v1
    split at h
    · rename_i ys hys
      split at h
      · rename_i hcond
        simp only [Bool.and_eq_true, decide_eq_true_eq] at hcond
        obtain ⟨hall, hb, hsm⟩ := hcond
        have hall' := hall
        rw [List.all_append, Bool.and_eq_true] at hall'
        obtain ⟨us, f1, f2, f3⟩ := src_ok (P := P) hI.r v2 hys (all_cl hall'.2)
        obtain ⟨us0, o1, o2, _⟩ := run_first (P := P) v1 (all_cl hall'.1)
        have hrunB : ∀ {v : Value} {w' : World}, (Builtin.append_ ⟨[t, u]⟩ o.type ⟨[a.eval y, a.eval z]⟩).run P w = .ok v w' → (execOp a.eval o).run P w = .ok (.value v) w' := by
          intro v w' hr
          refine call_builtin hop hc ha ht (fun cs => ?_)
          simp only [builtin, List.map_cons, List.map_nil, Sem.run_bind, hr, Result.andThen_ok, Sem.run_pure]
        generalize hy : a.eval y = vy at v1
        -- out of nothing
        have hnew : ∀ (A : Option Addr) (g0 : Ver), (∀ gg, g0 ≠ .tip gg) → vy = .slice A 0 0 → V κ w vy (.sl [] g0) → xs = [] →
            (ys = [] → K (.sl [] g0) σ) → (ys ≠ [] → (K (.sl ys (.tip nm)) (σ.set nm (.tip ti.size)) ∨ ∃ hd : Hold, (hd = .own ∧ K (.ref nm 0 ys.length) (σ.set nm (.obj (ys.flatMap AV.cells)))) ∨ (hd = .room ∧ K (.room nm ys.length) (σ.set nm (.tip ti.size))))) → Good P w0 F o a w κ σ nm K := by
          intro A g0 _ hvy hV hxs hK1 hK2
          subst hxs
          have hy2 : a.eval y = .slice A 0 0 := by rw [hy, hvy]
          by_cases hye : ys = []
          · subst hye
            have hus : us = [] := by have := f2.length; simpa using this
            subst hus
            have hr := run_append_room (P := P) (w := w) (ty := o.type) (s := a.eval y) (x := a.eval z) (base := A) (n := 0) (cap := 0) (m := 0) (ys := []) (w' := w) hu hd hdi hi hy2 (f3 w.drawn) (f1 w.drawn) (Nat.le_refl _) (fun b _ => by simp [storeCells]) (fun _ => rfl)
            exact .value hI (hrunB hr) (by rw [← hvy]; exact hV) (hK1 rfl)
          · have hpos : 0 < ys.length := by cases ys <;> simp_all
            obtain ⟨q, cc, rest, p1, p2, p3⟩ := run_append_grow (P := P) (w := w) (ty := o.type) (s := a.eval y) (x := a.eval z) (base := A) (n := 0) (cap := 0) (m := ys.length) (ys := us) (os := us0) hu hd hdi hi hz2 hzs hy2 f3 f1 o1
              (by omega) (by simpa using hb) hbz
            have : us0 = [] := by have := o2.length; simpa using this
            subst this
            rcases hK2 hye with hK2 | ⟨hdx, hK2⟩
            · refine grow_ok hI hn hlt hI.r rfl (k := ti.size) (xs := ys) hall'.2 (us := us) (rest := rest) (t := e) (n := 0 + ys.length) (c := cc) (q := q) f2 p1 (by simp) p2 hK2 (hrunB ?_)
              simpa using p3
            · refine own_ok hI hn hlt (k := ti.size) (xs := ys) hall'.2 (us := us) (rest := rest) (t := e) (n := 0 + ys.length) (c := cc) (q := q) f2 p1 (by simp) p2 hK2 (hrunB ?_)
              simpa using p3
        have hsplit : ∀ {g0 : Ver}, xs = [] → (match (generalizing := false) hd0 with
            | .own => if ys.isEmpty then K (.sl [] g0) σ else K (.ref nm 0 ys.length) (σ.set nm (.obj (ys.flatMap AV.cells)))
            | .room => if ys.isEmpty then K (.sl [] g0) σ else K (.room nm ys.length) (σ.set nm (.tip ti.size))
            | _ => K (.sl (xs ++ ys) (if ys.isEmpty then g0 else .tip nm)) (if ys.isEmpty then σ else σ.set nm (.tip ti.size))) →
            (ys = [] → K (.sl [] g0) σ) ∧ (ys ≠ [] → (K (.sl ys (.tip nm)) (σ.set nm (.tip ti.size)) ∨ ∃ hd : Hold, (hd = .own ∧ K (.ref nm 0 ys.length) (σ.set nm (.obj (ys.flatMap AV.cells)))) ∨ (hd = .room ∧ K (.room nm ys.length) (σ.set nm (.tip ti.size))))) := by
          intro g0 hxs hh
          subst hxs
          refine ⟨fun hy => ?_, fun hy => ?_⟩
          · subst hy
            cases hd0 <;> simpa using hh
          · have hemp : ys.isEmpty = false := by cases ys <;> simp_all
            simp only [hemp, Bool.false_eq_true, if_false, List.nil_append] at hh
            cases hd0
            · exact .inl hh
            · exact .inl hh
            · exact .inr ⟨.own, .inl ⟨rfl, hh⟩⟩
            · exact .inl hh
            · exact .inr ⟨.room, .inr ⟨rfl, hh⟩⟩
        cases v1 with
        | slnil g hg =>
          rcases hg with rfl | rfl | rfl
          · obtain ⟨k1, k2⟩ := hsplit (g0 := .nil) rfl h
            exact hnew none .nil (by simp) rfl (.slnil _ (.inl rfl)) rfl k1 k2
          · exact h.elim
          · obtain ⟨k1, k2⟩ := hsplit (g0 := .zero) rfl h
            exact hnew none .zero (by simp) rfl (.slnil _ (.inr (.inr rfl))) rfl k1 k2
        | slz A g hg =>
          rcases hg with rfl | rfl
          · exact h.elim
          · obtain ⟨k1, k2⟩ := hsplit (g0 := .zero) rfl h
            exact hnew (some A) .zero (by simp) rfl (.slz A _ (.inr rfl)) rfl k1 k2
        | sl b i cap kq xs' hkq hcap hvs => exact h.elim
        | tip i cap gg xs' hkq hcap hgd he1 he2 hvs =>
          simp only at h
          split at h
          · rename_i k' hres
            split at h
            · rename_i hk'
              subst hk'
              by_cases hroom : xs.length + ys.length ≤ cap
              · refine room_ok hI hn hlt hall hres hkq he1 he2 hvs hroom f2 h (fun w' hst => hrunB ?_)
                exact run_append_room (P := P) (w := w) (ty := o.type) (s := a.eval y) (x := a.eval z) hu hd hdi hi hy (f3 w.drawn) (f1 w.drawn) hroom (fun b hb => by simp only [Option.some.injEq] at hb; subst hb; exact hst) (fun hb => by cases hb)
              · obtain ⟨q, cc, rest, p1, p2, p3⟩ := run_append_grow (P := P) (w := w) (ty := o.type) (s := a.eval y) (x := a.eval z) (n := xs.length) (cap := cap) (m := ys.length) (ys := us) (os := us0) hu hd hdi hi hz2 hzs hy f3 f1 o1
                  (by omega) hb hbz
                refine grow_ok hI hn hlt (hI.r.del gg) rfl (k := ti.size) (xs := xs ++ ys) hall (us := us0 ++ us) (rest := rest) (t := e) (n := xs.length + ys.length) (c := cc) (q := q) (by rw [List.flatMap_append]; exact o2.append f2) p1 (by simp) p2 h (hrunB p3)
            · exact h.elim
          · exact h.elim
      · exact h.elim
    · exact h.elim
  · exact h.elim
end
end Go.VL
