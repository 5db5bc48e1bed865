/- The value logic, part W: nil slices, room, copy, and walks over maps and texts. -/
import Derived.Test.YtlbnimbgodmagaaVlM
import Derived.Laws.NewFold
namespace Go.VL
section
variable {P : Program} {w0 : World} {F : Nat → Prop} {o : Oper} {a : Act} {w : World} {κ : Kx} {ρ : List AV} {σ : St} {nm : Nat} {K : AV → St → Prop}

theorem flat_len' {k : Nat} : ∀ {zs : List AV}, (∀ z ∈ zs, z.cells.length = k) → (zs.flatMap AV.cells).length = zs.length * k
  | [], _ => by simp
  | p :: r, h => by
    simp only [List.flatMap_cons, List.length_append, List.length_cons, Nat.add_mul, flat_len' (fun x hx => h x (List.mem_cons_of_mem _ hx)), h p (List.mem_cons_self ..)]
    omega

theorem run_es (d : Nat) {t e : TypeId} (ht : P.underlying t = some (.slice e)) (A : Option Addr) (n c : Nat) : (Op.equalIn (d + 1) t (.slice A n c) (.slice none 0 0)).run P w = .ok A.isNone w := by
  rw [Op.equalIn.eq_2]
  cases A <;> simp [underlying, ht]

theorem ok_eqS (hI : Inv w0 F κ a w ρ σ) {neg : Bool} {t t' e : TypeId} {y z : Operand} {x : X} (hop : o.op = .binOp (if neg then .neq else .eql) t y z t') (ht : P.underlying t = some (.slice e)) (hz : nilC z = true) (hx : opX y = some x)
    (h : astep (ACalls P) nm ρ σ K (.eqS neg x)) : Good P w0 F o a w κ σ nm K := by
  have v1 := hI.opX hx
  have ez : a.eval z = .slice none 0 0 := by
    unfold nilC at hz
    split at hz
    · rfl
    · cases hz
  have hrun : ∀ A n c, a.eval y = .slice A n c → (execOp a.eval o).run P w = .ok (.value (.bool (A.isNone != neg))) w := by
    intro A n c e1
    have he := run_es (P := P) (w := w) 9999 ht A n c
    have he' : (Op.equal t (.slice A n c) (.slice none 0 0)).run P w = .ok A.isNone w := he
    cases neg <;> simp [execOp, hop, e1, ez, eqGuard, binOp, he']
  simp only [astep] at h
  split at h
  · rename_i xs hn
    rw [hn] at v1
    generalize hy : a.eval y = vy at v1
    cases v1 with
    | slnil g hg => exact .value hI (hrun none 0 0 hy) (.bool _) h
    | slz A g hg => rcases hg with hg | hg <;> cases hg
  · rename_i xs g _ hn
    rw [hn] at v1
    rcases v1.sl_inv with ⟨A, e1, rfl⟩ | ⟨b, i, cap, kq, e1, _⟩
    · simp only [List.isEmpty_nil, if_true] at h
      exact .value hI (hrun A 0 0 e1) (.bool _) (h _)
    · split at h
      · exact .value hI (hrun _ _ _ e1) (.bool _) (h _)
      · exact .value hI (hrun _ _ _ e1) (.bool _) h
  · rename_i n off len hn
    rw [hn] at v1
    obtain ⟨cap, e1, _, _⟩ := v1.ref_inv
    exact .value hI (hrun _ _ _ e1) (.bool _) h
  · rename_i g n hn
    rw [hn] at v1
    obtain ⟨o', cap, e1, _⟩ := v1.room_inv
    exact .value hI (hrun _ _ _ e1) (.bool _) h
  · exact h.elim

theorem ok_cap (hI : Inv w0 F κ a w ρ σ) {c : Call} {y : Operand} {x : X} {t e : TypeId} {ts : List TypeId} (hop : o.op = .call c) (hc : c.callee = .builtin .cap) (ha : c.args.toList = [y]) (ht : c.argTypes.toList = t :: ts)
    (hu : P.underlying t = some (.slice e)) (hx : opX y = some x) (h : astep (ACalls P) nm ρ σ K (.cap x)) : Good P w0 F o a w κ σ nm K := by
  have v1 := hI.opX hx
  have hrun : ∀ A, a.eval y = .slice A 0 0 → K (.int .i64 0) σ → Good P w0 F o a w κ σ nm K := by
    intro A e1 hk
    exact .value hI (v := .int .i64 0) (call_builtin hop hc ha ht (fun cs => by simp [builtin, Builtin.cap_, e1, underlying, hu, goInt])) (.int _ _) hk
  simp only [astep] at h
  split at h
  · rename_i xs hn
    rw [hn] at v1
    generalize hy : a.eval y = vy at v1
    cases v1 with
    | slnil g hg => exact hrun none hy h
    | slz A g hg => rcases hg with hg | hg <;> cases hg
  · rename_i xs hn
    rw [hn] at v1
    generalize hy : a.eval y = vy at v1
    cases v1 with
    | slnil g hg => exact hrun none hy h
    | slz A g hg => exact hrun _ hy h
  · exact h.elim

/-- a slice's or text's first cells, read -/
theorem src_first {B : Nat} {F : Nat → Prop} (hR : R B F κ w σ) {v : Value} {x : AV} {ys : List AV} {k : Nat} (hv : V κ w v x) (hs : srcOf σ k x = some ys) (hk : ys.all (AV.fits k) = true) {m : Nat} (hm : m ≤ ys.length) :
    ∃ us, (Builtin.firstCells k m v).run P w = .ok ⟨us⟩ w ∧ Vl κ w us ((ys.take m).flatMap AV.cells) ∧ (Builtin.lenOf v).run P w = .ok ys.length w := by
  obtain ⟨us, h1, h2, h3⟩ := src_ok (P := P) (k := k) hR hv hs (all_cl hk)
  have hl := h3 w.drawn
  refine ⟨us.take (m * k), ?_, by rw [flat_take m hk]; exact h2.take _, hl⟩
  have hf := h1 w.drawn
  have ew : ({ w with drawn := w.drawn } : World) = w := rfl
  rw [ew] at hf
  have hlu : us.length = ys.length * k := by rw [h2.length, flat_len hk]
  unfold srcOf at hs
  split at hs
  · rename_i zs g
    simp only [Option.some.injEq] at hs; subst hs
    rcases hv.sl_inv with ⟨A, rfl, rfl⟩ | ⟨b, i, cap, kq, rfl, g1, _, hvs⟩
    · have hm0 : m = 0 := by simpa using hm
      subst hm0
      cases A with
      | none => simp [Builtin.firstCells]
      | some A =>
        have hr := run_loadCells_list (P := P) (w := w) A [] (fun j v hj => by simp at hj)
        simp at hr
        simp [Builtin.firstCells, hr]
    · obtain ⟨us2, q1, q2, q3⟩ := hvs.row
      have hr0 := run_loadCells_list (P := P) (w := w) ⟨b, i, none⟩ us2 (fun j v hj => by rw [add_spot]; exact q3 j v hj)
      have hlz : us2.length = zs.length * k := by
        rw [q2]
        have : ∀ z ∈ zs, z.cells.length = k := fun z hz => by rw [← er_len' z]; exact all_cl hk _ (List.mem_map_of_mem hz)
        exact flat_len' this
      have hus : us = us2 := by
        simp only [Builtin.firstCells, List.length_map] at hf
        rw [← hlz, hr0] at hf
        simp only [Result.ok.injEq, Array.mk.injEq] at hf
        exact hf.1.symm
      subst hus
      have hr := run_loadCells_list (P := P) (w := w) ⟨b, i, none⟩ (us.take (m * k)) (fun j v hj => by
        rw [add_spot]; exact q3 j v (by rw [List.getElem?_take] at hj; split at hj <;> simp_all))
      have hmk : m * k ≤ us.length := by rw [hlz]; exact Nat.mul_le_mul_right _ (by simpa using hm)
      rw [List.length_take, Nat.min_eq_left hmk] at hr
      simp [Builtin.firstCells, hr]
  · rename_i s
    simp only [Option.some.injEq] at hs; subst hs
    have := hv.str_inv
    subst this
    have hk1 : k = 1 ∨ (bytesAV s.data.toList) = [] := by
      cases hb : s.data.toList with
      | nil => right; rfl
      | cons b r =>
        left
        rw [hb] at hk
        have := (fits_iff (List.all_eq_true.1 hk (.int .u8 b.toNat) (by simp [bytesAV]))).2.1
        simpa [AV.cells] using this.symm
    have he : s.extract 0 (bytesAV s.data.toList).length = s := by
      obtain ⟨d⟩ := s
      simp [bytesAV, ByteArray.extract, ByteArray.copySlice]
    simp only [Builtin.firstCells, he, Sem.run_pure, Result.ok.injEq] at hf
    have hus : us = s.data.toList.map fun b => Value.int .u8 b.toNat := by
      have h0 := congrArg Array.toList hf.1
      simpa using h0.symm
    rcases hk1 with rfl | hnil
    · subst hus
      simp only [Builtin.firstCells, Sem.run_pure, Nat.mul_one, Result.ok.injEq, and_true]
      apply Array.ext'
      obtain ⟨d⟩ := s
      simp [ByteArray.extract, ByteArray.copySlice]
    · have hd : s.data.toList = [] := by simpa [bytesAV] using hnil
      have hm0 : m = 0 := by rw [hnil] at hm; simpa using hm
      subst hm0
      simp only [Builtin.firstCells, Sem.run_pure, Nat.zero_mul, List.take_zero, Result.ok.injEq, and_true]
      apply Array.ext'
      obtain ⟨d⟩ := s
      simp [ByteArray.extract, ByteArray.copySlice]
  · rename_i n off len
    split at hs
    · rename_i cs hr
      split at hs
      · rename_i hc
        obtain ⟨rfl, hle, hone⟩ := hc
        simp only [Option.some.injEq] at hs; subst hs
        obtain ⟨us2, k1, k2, k3, k4⟩ := ref_ok (P := P) hR hv hr hle hone
        have hll : (((cs.drop off).take len).map AV.er1).length = len := by rw [List.length_map, List.length_take, List.length_drop]; omega
        rw [hll] at hf hm
        have hf2 := k1 len w.drawn (Nat.le_refl _)
        rw [ew, List.take_of_length_le (by omega)] at hf2
        rw [hf2] at hf
        simp only [Result.ok.injEq, Array.mk.injEq, and_true] at hf
        have hf3 := k1 m w.drawn hm
        rw [ew] at hf3
        rw [Nat.mul_one, ← hf]; exact hf3
      · cases hs
    · cases hs
  · cases hs

theorem ok_copy (hI : Inv w0 F κ a w ρ σ) {c : Call} {y z : Operand} {x x' : X} {t e : TypeId} {ts : List TypeId} {k : Nat} (hop : o.op = .call c) (hc : c.callee = .builtin .copy) (ha : c.args.toList = [y, z]) (ht : c.argTypes.toList = t :: ts)
    (hu : P.underlying t = some (.slice e)) (hk : sizeOf' P e = some k) (hx : opX y = some x) (hx' : opX z = some x') (h : astep (ACalls P) nm ρ σ K (.copy k x x')) : Good P w0 F o a w κ σ nm K := by
  have v1 := hI.opX hx
  have v2 := hI.opX hx'
  simp only [astep] at h
  split at h
  · rename_i n off len hn
    rw [hn] at v1
    obtain ⟨cap, e1, hcap, hd⟩ := v1.ref_inv
    split at h
    · rename_i cs hr
      split at h
      · rename_i ys hys
        split at h
        · rename_i hcond
          simp only [Bool.and_eq_true, decide_eq_true_eq] at hcond
          obtain ⟨hall, hle⟩ := hcond
          obtain ⟨us, f1, f2, f3⟩ := src_first (P := P) hI.r v2 hys hall (m := min ys.length len) (Nat.min_le_left _ _)
          obtain ⟨hdom, us0, rest, tt, fz, g1, g2, g3, g4⟩ := hI.r.own n _ hr
          have hl := g3.length
          have htk : ys.take (min ys.length len) = ys.take len := by
            rcases Nat.le_total ys.length len with hh | hh
            · rw [Nat.min_eq_left hh, List.take_of_length_le (Nat.le_refl _), List.take_of_length_le hh]
            · rw [Nat.min_eq_right hh]
          rw [htk] at f2
          have hlu : us.length ≤ len * k := by
            rw [f2.length, flat_len (all_take _ hall)]
            exact Nat.mul_le_mul_right _ (by rw [List.length_take]; exact Nat.min_le_left _ _)
          have hone : ∀ u ∈ us, u.oneCell' = true := by
            refine f2.ones (List.all_eq_true.2 fun q hq => ?_)
            obtain ⟨p, hp, hqp⟩ := List.mem_flatMap.1 hq
            exact List.all_eq_true.1 (fits_iff (List.all_eq_true.1 (all_take _ hall) p hp)).2.2 q hqp
          obtain ⟨w', r1, r2, r3⟩ := run_storeCells (P := P) (N := us0.length) us off w (us0 ++ rest) g1 g2 (by omega) (by simp) hone off 0 rfl
          have hsp : (us0 ++ rest).take off ++ us ++ (us0 ++ rest).drop (off + us.length) = (us0.take off ++ us ++ us0.drop (off + us.length)) ++ rest := by
            rw [List.take_append_of_le_length (by omega), List.drop_append_of_le_length (by omega), List.append_assoc _ _ rest]
          rw [hsp] at r2
          obtain ⟨e', hr'⟩ := hI.r.set_obj (cs' := splice cs off ((ys.take len).flatMap AV.cells)) hr r2 (by
              refine g2.imp id (fun hx => Nat.le_trans ?_ hx)
              simp only [List.length_append, List.length_take, List.length_drop]
              omega) r3.block r3.size
            (((g3.take off).append f2).append (by have := g3.drop (off + ((ys.take len).flatMap AV.cells).length); rwa [← f2.length] at this ⊢))
          refine .value' (v := .int .i64 (min ys.length len : Nat)) (.own e' rfl hr' (hI.fr.owned hI.r rfl hr r3.os r3.tape r3.output r3.size r3.block) rfl) ?_ (.int _ _) h
          refine call_builtin hop hc ha ht (fun cs => ?_)
          have hmin : Nat.min ys.length len = min ys.length len := rfl
          simp [builtin, Builtin.copy_, e1, underlying, hu, run_sizeOf hk, f3, hmin, f1, r1, goInt]
        · exact h.elim
      · exact h.elim
    · exact h.elim
  · rename_i xs g hn
    rw [hn] at v1
    split at h
    · rename_i ys hys
      split at h
      · rename_i hcond
        simp only [Bool.and_eq_true, List.isEmpty_iff] at hcond
        obtain ⟨rfl, hall⟩ := hcond
        obtain ⟨us, f1, f2, f3⟩ := src_first (P := P) hI.r v2 hys hall (m := 0) (Nat.zero_le _)
        have hus : us = [] := by have := f2.length; simpa using this
        subst hus
        have hy : ∃ A c, a.eval y = .slice A 0 c := by
          rcases v1.sl_inv with ⟨A, e1, _⟩ | ⟨b, i, cap, kq, e1, _⟩
          · exact ⟨_, _, e1⟩
          · exact ⟨_, _, e1⟩
        obtain ⟨A, c', e1⟩ := hy
        refine .value hI (v := .int .i64 0) ?_ (.int _ _) h
        refine call_builtin hop hc ha ht (fun cs => ?_)
        have hmin : Nat.min ys.length 0 = 0 := Nat.min_zero _
        cases A <;> simp [builtin, Builtin.copy_, e1, underlying, hu, run_sizeOf hk, f3, f1, goInt, storeCells]
      · exact h.elim
    · exact h.elim
  · exact h.elim

theorem ok_appZ (hI : Inv w0 F κ a w ρ σ) (hn : ¬ κ.dom nm) (hlt : nm < σ.next) {c : Call} {y z : Operand} {x x' : X} {t u e : TypeId} {ti : TypeInfo} {k : IntKind} {zz : AV} (hop : o.op = .call c) (hc : c.callee = .builtin .append)
    (ha : c.args.toList = [y, z]) (ht : c.argTypes.toList = [t, u]) (hu : P.underlying t = some (.slice e)) (hd : P.underlying u = some (.int k)) (hi : P.info? e = some ti) (hz : zeroOf P e = some zz) (hsp : 0 < ti.size) (_ : 0 < ti.bytes) (hzl : zz.cells.length = ti.size)
    (hx : opX y = some x) (hx' : opX z = some x') (h : astep (ACalls P) nm ρ σ K (.appZ ti.size ti.bytes zz x x')) : Good P w0 F o a w κ σ nm K := by
  have v1 := hI.opX hx
  have v2 := hI.opX hx'
  obtain ⟨ti', zv, hi', hz2, hz3⟩ := zeroOf_ok hz
  rw [hi] at hi'; simp only [Option.some.injEq] at hi'; subst hi'
  simp only [astep] at h
  split at h
  · rename_i g k1 n h1 h2
    rw [h1] at v1; rw [h2] at v2
    split at h
    · rename_i hcond
      obtain ⟨hg, hn0, hnb, hnm, hzf⟩ := hcond
      have hy : ∃ A, a.eval y = .slice A 0 0 := by
        generalize hvy : a.eval y = vy at v1
        cases v1 with
        | slnil g hg' => exact ⟨_, rfl⟩
        | slz A g hg' => exact ⟨_, rfl⟩
        | sl b i cap kq xs hk hc' hh => simp [Ver.noRoom] at hg
        | tip i cap gg xs hkq hcap hgd he1 he2 hvs => simp [Ver.noRoom] at hg
      obtain ⟨A, ey⟩ := hy
      have e2 := v2.int_inv
      obtain ⟨m, rfl⟩ := Int.eq_ofNat_of_zero_le (Int.le_of_lt hn0)
      have hm0 : 0 < m := by omega
      have hmb : m * ti.bytes ≤ 70368744177664 := by
        have h0 : ((m * ti.bytes : Nat) : Int) ≤ 70368744177664 := by rw [Int.natCast_mul]; exact hnb
        omega
      have hvz := (constV_ok (κ := κ) (w := w) hz3).cells (constV_ne hz3)
      have hzs : zv.cells.size = ti.size := by have := hvz.length; rw [hzl] at this; simpa using this
      have hw : IntKind.i64.wrap (m : Int) = m := by simp [IntKind.wrap, IntKind.bits, IntKind.signed]; omega
      have hm1 : (m : Int) ≤ 4611686018427387904 := hnm
      have hcut : ∀ T, m ≤ (Question.appendCap m 0 e).cut T := fun T => by simp [Question.cut]
      have hb1 : ¬ (Builtin.nextslicecap m 0 * ti.bytes > 2 ^ 48) := by
        have h1 := next_le (need := m) (cap := 0) hm0
        have h2 := mul_two hmb
        have h3 := Nat.mul_le_mul_right ti.bytes h1
        omega
      have hb2 : ¬ ((281474976710656 : Int) < (m : Int) * ti.bytes) := by omega
      have hzc : ∀ r, (Builtin.zeroCells zv.cells r).toList = (List.replicate r zv.cells.toList).flatten := fun r => range_mod (by omega) r
      generalize hC : (Question.appendCap m 0 e).cut (w.tape w.drawn (.appendCap m 0 e)) = C
      have hCm : m ≤ C := by rw [← hC]; exact hcut _
      have hfl : (List.replicate m zz).flatMap AV.cells = (List.replicate m zz.cells).flatten := by simp [List.flatMap]
      have hlen : ((List.replicate m zv.cells.toList).flatten).length = m * ti.size := by
        rw [List.length_flatten, List.map_replicate, List.sum_replicate_nat, Array.length_toList, hzs]
      have hK : held ti.size nm σ K (List.replicate m zz) .room := by
        simp only [held, List.length_replicate]; simpa using h
      refine held_ok (us := (List.replicate m zv.cells.toList).flatten) (rest := (List.replicate (C - m) zv.cells.toList).flatten) (t := e) (fz := (0, 0)) (cap := C) (n := m) (k := ti.size) (xs := List.replicate m zz) (hd := .room) hI (fun _ _ => ⟨hn, hlt⟩) (flat_rep _ hzf)
        (by rw [hfl]; exact hvz.rep _) ?_ (by simpa using hCm) (fun _ => .inl rfl) (.inl rfl) (by simp) hK ⟨w.drew, rfl, rfl, rfl, rfl, ?_⟩
      · rw [hlen, List.length_flatten, List.map_replicate, List.sum_replicate_nat, Array.length_toList, hzs, ← Nat.add_mul]
        exact Nat.mul_le_mul_right _ (by omega)
      · refine call_builtin hop hc ha ht (fun cs => ?_)
        have hsz : ∀ q, (sizeOf e).run P { w with drawn := q } = .ok ti.size { w with drawn := q } := fun q => by simp [sizeOf, typeInfo, hi]
        have hs0 : (sizeOf e).run P w = .ok ti.size w := hsz w.drawn
        have hti : (typeInfo e).run P w = .ok ti w := by simp [typeInfo, hi]
        have hti1 : (typeInfo e).run P w.drew = .ok ti w.drew := by simp [typeInfo, hi]
        have hzv1 : (zeroValue e).run P w.drew = .ok zv w.drew := by simp [zeroValue, typeInfo, hi, hz2]
        have ho1 : (Builtin.firstCells ti.size 0 (.slice A 0 0)).run P w.drew = .ok #[] w.drew := by
          cases A with
          | none => simp [Builtin.firstCells]
          | some A =>
            have hr := run_loadCells_list (P := P) (w := w.drew) A [] (fun j v hj => by simp at hj)
            simp at hr
            simp [Builtin.firstCells, hr]
        have hmz : ¬ (m = 0 ∨ ti.size = 0) := by omega
        have hnm2 : ¬ ((9223372036854775807 : Int) < (m : Int)) := by omega
        have hmax : IntKind.i64.max = 9223372036854775807 := by decide
        have hz0 : ∀ A B : Array Value, (#[] : Array Value) ++ A ++ B = ⟨A.toList ++ B.toList⟩ := fun A B => by apply Array.ext'; simp
        have hneg : ¬ ((m : Int) < 0) := by omega
        have hm00 : ¬ m = 0 := by omega
        simp [builtin, Builtin.append_, ey, e2, asInt, asIntOf, underlying, hu, hd, hs0, hw, hneg, hti, hb2, hm00, hmax, hnm2, hb1, Question.forced, hC, hti1, ho1, hzv1, newRow]
        rw [if_neg (Nat.mul_ne_zero hm00 (by omega))]
        congr 4
        apply Array.ext'
        rw [Array.toList_append, hzc, hzc]
    · exact h.elim
  · exact h.elim

theorem ok_cvt (hI : Inv w0 F κ a w ρ σ) {t e : TypeId} {y : Operand} {x : X} (hop : o.op = .convert t t y) (hu : P.underlying t = some (.slice e)) (he : P.underlying e = some (.int .u8)) (hx : opX y = some x)
    (h : astep (ACalls P) nm ρ σ K (.cvt x)) : Good P w0 F o a w κ σ nm K := by
  have v1 := hI.opX hx
  simp only [astep] at h
  split at h
  · rename_i n off len hn
    rw [hn] at v1
    obtain ⟨cap, e1, hcap, hd⟩ := v1.ref_inv
    split at h
    · rename_i cs hr
      obtain ⟨hdom, us, rest, tt, fz, g1, g2, g3, g4⟩ := hI.r.own n _ hr
      let N := (us ++ rest).length
      let fz' : Nat × Nat := if fz.1 == fz.2 then (N, N + 1) else (min fz.1 N, max fz.2 (N + 1))
      let w' : World := w.freeze { block := κ.φ n, off := N } 1
      have hb : w'.heap[κ.φ n]? = some (.cells ⟨us ++ rest⟩ tt fz') := by
        obtain ⟨lo, hi⟩ := fz
        simp only [w', World.freeze, fz']
        simp [Array.getElem?_modify, g1]
      have hsame : Same w w' (κ.φ n) := by
        refine ⟨by simp [w', World.freeze], by simp [w', World.freeze], by simp [w', World.freeze], by simp [w', World.freeze], fun b' hb' => ?_⟩
        have : ¬ κ.φ n = b' := fun e => hb' e.symm
        simp [w', World.freeze, Array.getElem?_modify, this]
      have hfz' : fzOk us.length fz' := by
        have hN : us.length ≤ N := by simp [N]
        simp only [fz']
        split
        · right; exact hN
        · rename_i hne
          rcases g2 with hx | hx
          · exact absurd (by simpa using hx) hne
          · right; simp only; omega
      obtain ⟨e', hr'⟩ := hI.r.set_obj (cs' := cs) hr hb hfz' hsame.block hsame.size g3
      rw [St.set_self hr] at hr'
      refine .value' (v := a.eval y) (.own e' rfl hr' (hI.fr.owned hI.r rfl hr hsame.os hsame.tape hsame.output hsame.size hsame.block) rfl) ?_ (by rw [e1]; exact .ref n off len cap hd hcap) h
      have hsh : (shape (κ.φ n)).run P w = .ok (some (tt, N)) w := by simp [shape, Sem.run, World.shape?, g1, N]
      simp [execOp, hop, convert, underlying, hu, he, e1, markStringish, hsh, freeze, Sem.run]
      rfl
    · exact h.elim
  · exact h.elim

/-! ### Walks -/
theorem run_getObj {b : Nat} {ob : Obj} (h : w.heap[b]? = some ob) (ho : ∀ c e f, ob ≠ .cells c e f) : (getObj b).run P w = .ok ob w := by
  cases ob <;> first | (exact absurd rfl (ho _ _ _)) | simp [getObj, Sem.run, h]

theorem ok_range (hI : Inv w0 F κ a w ρ σ) (hn : ¬ κ.dom nm) (hlt : nm < σ.next) {t kt e : TypeId} {y : Operand} {x : X} (hop : o.op = .range t y) (hu : P.underlying t = some (.map kt e)) (hx : opX y = some x)
    (h : astep (ACalls P) nm ρ σ K (.range x)) : Good P w0 F o a w κ σ nm K := by
  have v1 := hI.opX hx
  have hptr : ∀ {w' : World}, V (κ.name nm w.heap.size) w' (.pointer (some ⟨w.heap.size, 0, none⟩)) (.ptr nm 0) := by
    intro w'
    have := V.ptr (κ := κ.name nm w.heap.size) (w := w') nm 0 (.inr rfl)
    simpa [Kx.name] using this
  simp only [astep] at h
  split at h
  · rename_i hnn
    rw [hnn] at v1
    obtain ⟨e', hr⟩ := hI.r.new_other hI.hB hn hlt (.mapIter none 0 #[] 0) (.iter none 0 [] 0) (fun κ' w' hφ _ hw hI' => by
      refine And.intro (by rw [hφ, hw]; rfl) (And.intro (fun m' hm => by cases hm) (by rw [hφ]; exact hI')))
    refine .value' (κ' := κ.name nm w.heap.size) ⟨e', fun n hd => hd.imp id .inl, hr, hI.fr.alloc _, Nat.le_refl _⟩ (v := .pointer (some ⟨w.heap.size, 0, none⟩)) ?_ hptr h
    simp [execOp, hop, v1.nilm_inv, Instr.range, underlying, hu]
  · rename_i n hnn
    rw [hnn] at v1
    obtain ⟨e1, hd⟩ := v1.map_inv
    split at h
    · rename_i es ts clk hr0
      obtain ⟨_, ents, g1, g2, g3, _⟩ := hI.r.own n _ hr0
      have hg := run_getMap (P := P) g1
      obtain ⟨e', hr⟩ := hI.r.new_other hI.hB hn hlt (.mapIter (some (κ.φ n)) clk #[] clk) (.iter (some n) clk [] clk) (fun κ' w' hφ he hw hI' => by
        refine And.intro (by rw [hφ, hw]; simp [he.φ n hd]) (And.intro (fun m' hm => ?_) (by rw [hφ]; exact hI'))
        simp only [Option.some.injEq] at hm; subst hm; exact he.dom _ hd)
      refine .value' (κ' := κ.name nm w.heap.size) ⟨e', fun n hd => hd.imp id .inl, hr, hI.fr.alloc _, Nat.le_refl _⟩ (v := .pointer (some ⟨w.heap.size, 0, none⟩)) ?_ hptr h
      simp [execOp, hop, e1, Instr.range, underlying, hu, hg]
    · exact h.elim
  · exact h.elim

theorem ok_srange (hI : Inv w0 F κ a w ρ σ) (hn : ¬ κ.dom nm) (hlt : nm < σ.next) {t : TypeId} {y : Operand} {x : X} (hop : o.op = .range t y) (hu : P.underlying t = some .string) (hx : opX y = some x)
    (h : astep (ACalls P) nm ρ σ K (.srange x)) : Good P w0 F o a w κ σ nm K := by
  have v1 := hI.opX hx
  simp only [astep] at h
  split at h
  · rename_i s hnn
    rw [hnn] at v1
    obtain ⟨e', hr⟩ := hI.r.new_other hI.hB hn hlt (.stringIter s 0) (.siter s 0) (fun κ' w' hφ _ hw hI' => ⟨by rw [hφ, hw], by rw [hφ]; exact hI'⟩)
    refine .value' (κ' := κ.name nm w.heap.size) ⟨e', fun n hd => hd.imp id .inl, hr, hI.fr.alloc _, Nat.le_refl _⟩ (v := .pointer (some ⟨w.heap.size, 0, none⟩)) ?_ ?_ h
    · simp [execOp, hop, v1.str_inv, Instr.range, underlying, hu]
    · have := V.ptr (κ := κ.name nm w.heap.size) (w := w.alloc (.stringIter s 0)) nm 0 (.inr rfl)
      simpa [Kx.name] using this
  · exact h.elim

theorem Vm.get? : ∀ {es : List MapEntry} {ps : List (AV × AV)}, Vm κ w es ps → ∀ (i : Nat) (e : MapEntry), es[i]? = some e → ∃ p, ps[i]? = some p ∧ V κ w e.key p.1 ∧ V κ w e.val p.2
  | _, _, .nil, i, e, h => by simp at h
  | _, _, .cons e p es ps h1 h2 t, 0, e', h => by simp only [List.getElem?_cons_zero, Option.some.injEq] at h; subst h; exact ⟨p, rfl, h1, h2⟩
  | _, _, .cons e p es ps h1 h2 t, i + 1, e', h => by simpa using Vm.get? t i e' (by simpa using h)

theorem run_setObj {b : Nat} {ob : Obj} (h : w.heap[b]? = some ob) (ho : ∀ c e f, ob ≠ .cells c e f) (ob' : Obj) : ∃ w', (setObj b ob').run P w = .ok () w' ∧ w'.heap[b]? = some ob' ∧ Same w w' b := by
  have hlt := (Array.getElem?_eq_some_iff.1 h).1
  refine ⟨{ w with heap := w.heap.setIfInBounds b ob' }, by cases ob <;> first | (exact absurd rfl (ho _ _ _)) | simp [setObj, Sem.run, h], ?_, rfl, rfl, rfl, by simp, fun b' hb => ?_⟩
  · simp [hlt]
  · simp only [Array.getElem?_setIfInBounds]
    rw [if_neg (fun e => hb e.symm)]

theorem ok_snext (hI : Inv w0 F κ a w ρ σ) {y : Operand} {x : X} (hop : o.op = .next y true) (hx : opX y = some x)
    (h : astep (ACalls P) nm ρ σ K (.snext x)) : Good P w0 F o a w κ σ nm K := by
  have v1 := hI.opX hx
  simp only [astep] at h
  split at h
  · rename_i it hnn
    rw [hnn] at v1
    obtain ⟨e1, hd⟩ := v1.ptr_inv
    split at h
    · rename_i s pos hr
      obtain ⟨hdom, g1, g2⟩ := hI.r.own it _ hr
      have hg := run_getObj (P := P) g1 (by simp)
      split at h
      · rename_i hp
        obtain ⟨w', r1, r2, r3⟩ := run_setObj (P := P) g1 (by simp) (.stringIter s (pos + (Utf8.decode s pos).2))
        obtain ⟨e', hr'⟩ := hI.r.set_res (r' := .siter s (pos + (Utf8.decode s pos).2)) hr g2 r3.block r3.size (fun _ => ⟨r2, g2⟩)
        refine .value' (v := .tuple #[.bool true, goInt pos, .int .i32 (Utf8.decode s pos).1]) (.own e' rfl hr' (hI.fr.owned hI.r rfl hr r3.os r3.tape r3.output r3.size r3.block) rfl) ?_
          (.tup [_, _, _] _ (.cons _ _ _ _ (.bool _) (.cons _ _ _ _ (.int _ _) (.cons _ _ _ _ (.int _ _) .nil)))) h
        simp [execOp, hop, e1, Instr.next, hg, hp, r1]
      · rename_i hp
        refine .value hI (v := .tuple #[.bool false]) ?_ (.tup [_] _ (.cons _ _ _ _ (.bool _) .nil)) h
        simp [execOp, hop, e1, Instr.next, hg, hp]
    · exact h.elim
  · exact h.elim

theorem ok_entry (hI : Inv w0 F κ a w ρ σ) {y : Operand} {x : X} (hop : o.op = .entry y) (hx : opX y = some x)
    (h : astep (ACalls P) nm ρ σ K (.entry x)) : Good P w0 F o a w κ σ nm K := by
  have v1 := hI.opX hx
  simp only [astep] at h
  split at h
  · rename_i it hnn
    rw [hnn] at v1
    obtain ⟨e1, hd⟩ := v1.ptr_inv
    split at h
    · rename_i m since seen last hr
      obtain ⟨hdom, g1, gm, g2⟩ := hI.r.own it _ hr
      split at h
      · rename_i es ts clk hm
        obtain ⟨_, ents, q1, q2, q3, q4, q5, q6⟩ := hI.r.own m _ hm
        split at h
        · rename_i hl
          subst hl
          obtain ⟨i, p, t, k1, k2, k3, hk⟩ := h
          have hg := run_getObj (P := P) g1 (by simp)
          have hg2 := run_getMap (P := P) q1
          obtain ⟨e0, he0⟩ : ∃ e0, ents[i]? = some e0 := by
            rw [← q4, List.getElem?_map, Option.map_eq_some_iff] at k2
            obtain ⟨e0, he0, _⟩ := k2; exact ⟨e0, he0⟩
          have hb : e0.born = t := by
            rw [← q4, List.getElem?_map, he0] at k2
            simpa using k2
          obtain ⟨p', hp', hv1, hv2⟩ := q2.get? i e0 he0
          rw [k3] at hp'; simp only [Option.some.injEq] at hp'; subst hp'
          have hfind : (⟨ents⟩ : Array MapEntry).find? (fun e => e.born == t) = some e0 := by
            simp only [List.find?_toArray]
            rw [List.find?_eq_some_iff_getElem]
            have hi := List.getElem?_eq_some_iff.1 he0
            refine ⟨by simp [hb], i, hi.1, hi.2, fun j hj => ?_⟩
            simp only [Bool.not_eq_true', beq_eq_false_iff_ne, ne_eq]
            intro hjb
            have hjl : j < ts.length := by rw [← q4, List.length_map]; exact Nat.lt_trans hj hi.1
            have hil : i < ts.length := by rw [← q4, List.length_map]; exact hi.1
            have h1 : ts[j] = t := by simp only [← q4, List.getElem_map]; exact hjb
            have h2 : ts[i] = t := by simp only [← q4, List.getElem_map, hi.2]; exact hb
            exact List.pairwise_iff_getElem.1 q5 j i hjl hil hj (by rw [h1, h2])
          have hback : (⟨seen⟩ : Array Nat).back? = some t := by simpa [List.getLast?_eq_getElem?, Array.back?] using k1
          refine .value hI (v := .tuple #[e0.key, e0.val]) ?_ (.tup [_, _] _ (.cons _ _ _ _ hv1 (.cons _ _ _ _ hv2 .nil))) hk
          simp only [Option.map_some] at hg
          simp [execOp, hop, e1, Instr.entry, hg, hback, hg2, hfind]
        · exact h.elim
      · exact h.elim
    · exact h.elim
  · exact h.elim

theorem ok_next (hI : Inv w0 F κ a w ρ σ) {y : Operand} {x : X} (hop : o.op = .next y false) (hx : opX y = some x)
    (h : astep (ACalls P) nm ρ σ K (.next x)) : Good P w0 F o a w κ σ nm K := by
  have v1 := hI.opX hx
  simp only [astep] at h
  split at h
  · rename_i it hnn
    rw [hnn] at v1
    obtain ⟨e1, hd⟩ := v1.ptr_inv
    split at h
    · rename_i since seen last hr
      obtain ⟨hdom, g1, _⟩ := hI.r.own it _ hr
      have hg := run_getObj (P := P) g1 (by simp)
      refine .value hI (v := .tuple #[.bool false]) ?_ (.tup [_] _ (.cons _ _ _ _ (.bool _) .nil)) h
      simp only [Option.map_none] at hg
      simp [execOp, hop, e1, Instr.next, hg]
    · rename_i m since seen last hr
      obtain ⟨hdom, g1, gm, g2⟩ := hI.r.own it _ hr
      split at h
      · rename_i es ts clk hm
        obtain ⟨_, ents, q1, q2, q3, q4, q5, q6⟩ := hI.r.own m _ hm
        split at h
        · rename_i hc
          obtain ⟨hc1, hc2⟩ := hc
          subst hc2
          subst hc1
          obtain ⟨hyes, hno⟩ := h
          simp only [Option.map_some] at g1
          have hg := run_getObj (P := P) g1 (by simp)
          have hg2 := run_getMap (P := P) q1
          have hlt : ∀ e ∈ ents, e.born < since := fun e he => q6 _ (by rw [← q4]; exact List.mem_map_of_mem he)
          have hcond : (!(⟨seen⟩ : Array Nat).isEmpty && !(⟨ents⟩ : Array MapEntry).isEmpty && (⟨ents⟩ : Array MapEntry).all (fun e => decide (e.born ≥ since))) = false := by
            cases hents : ents with
            | nil => simp
            | cons e r =>
              have := hlt e (by rw [hents]; simp)
              have : decide (e.born ≥ since) = false := by simp; omega
              simp [this]
          let L : List MapEntry := ents.filter fun e => !seen.contains e.born
          have hleft : (⟨ents⟩ : Array MapEntry).filter (fun e => !(⟨seen⟩ : Array Nat).contains e.born) = ⟨L⟩ := by
            apply Array.ext'; simp [L]
          have hold : (⟨L⟩ : Array MapEntry).filter (fun e => decide (e.born < since)) = ⟨L⟩ := by
            apply Array.ext'
            simp only [List.filter_toArray]
            rw [List.filter_eq_self.2]
            intro e he
            simpa using hlt e ((List.mem_filter.1 he).1)
          have hnew : (⟨L⟩ : Array MapEntry).filter (fun e => decide (e.born ≥ since)) = ⟨[]⟩ := by
            apply Array.ext'
            simp only [List.filter_toArray]
            rw [List.filter_eq_nil_iff.2]
            intro e he
            have := hlt e ((List.mem_filter.1 he).1)
            simp; omega
          let Cn : List (Option MapEntry) := (if L = [] then [none] else []) ++ L.map some
          have hcand : (if (⟨L⟩ : Array MapEntry).isEmpty = true then #[none] else #[]) ++ ((⟨L⟩ : Array MapEntry) ++ (⟨[]⟩ : Array MapEntry)).map some = (⟨Cn⟩ : Array (Option MapEntry)) := by
            by_cases hl : L = []
            · rw [hl]; simp [Cn, hl]
            · have : (⟨L⟩ : Array MapEntry).isEmpty = false := by
                cases hL : L with
                | nil => exact absurd hL hl
                | cons _ _ => simp
              rw [this]; simp [Cn, hl]
          have hpos : 0 < Cn.length := by
            cases hL : L with
            | nil => simp [Cn, hL]
            | cons _ _ => simp [Cn, hL]
          -- the run, up to what was drawn
          obtain ⟨j, wq, hjl, hch, hwq⟩ : ∃ j wq, j < Cn.length ∧ (choose (.mapNext Cn.length)).run P w = .ok j wq ∧ ∃ q, wq = { w with drawn := q } := by
            rw [run_choose_drew]
            split
            · exact ⟨0, w, hpos, rfl, w.drawn, rfl⟩
            · exact ⟨_, _, Nat.mod_lt _ hpos, rfl, _, rfl⟩
          obtain ⟨q, rfl⟩ := hwq
          have hrun : ∀ {z : Value} {w' : World}, ((match Cn[j]? with
              | some (some e) => (do setObj (κ.φ it) (.mapIter (some (κ.φ m)) since ((⟨seen⟩ : Array Nat).push e.born) since); pure (.tuple #[.bool true, e.key, e.val]) : Sem Value)
              | some none => pure (.tuple #[.bool false])
              | none => stuck "Next: no such candidate").run P { w with drawn := q }) = .ok z w' → (execOp a.eval o).run P w = .ok (.value z) w' := by
            intro z w' hz
            have hsz : (⟨Cn⟩ : Array (Option MapEntry)).size = Cn.length := rfl
            simp only [execOp, hop, e1, Instr.next, Sem.run_bind, hg, Result.andThen_ok, hg2, hcond, Bool.false_eq_true, if_false, Sem.run_pure, hleft, hold, hnew, hcand, hsz, hch, List.getElem?_toArray]
            split at hz <;> rename_i hz0 <;> (try simp only [hz0]) <;> (try simp only [Sem.run_bind] at hz ⊢) <;> rw [hz] <;> rfl
          have eq1 : Ext κ w κ { w with drawn := q } := ⟨fun _ _ x => x, fun _ _ => rfl, fun _ _ => rfl, fun _ _ => rfl, fun _ _ => rfl, fun _ x => x, fun _ _ _ => rfl⟩
          have hr1 : R w0.heap.size F κ { w with drawn := q } σ := hI.r.step eq1 hI.r.dom hI.r.imm (fun n r hr => .inl ⟨hr, rfl, fun _ x => x⟩)
          have hf1 : Fr F w0 { w with drawn := q } := hI.fr.drawn q
          by_cases hL : L = []
          · have hCn : Cn = [none] := by simp [Cn, hL]
            have hj0 : j = 0 := by rw [hCn] at hjl; simpa using hjl
            have hall : ∀ t ∈ ts, t ∈ seen := by
              intro t ht
              rw [← q4, List.mem_map] at ht
              obtain ⟨e, he, rfl⟩ := ht
              by_cases hs : e.born ∈ seen
              · exact hs
              · have : e ∈ L := List.mem_filter.2 ⟨he, by simpa using hs⟩
                rw [hL] at this; cases this
            refine .value' (v := .tuple #[.bool false]) (.own eq1 rfl hr1 hf1 rfl) (hrun ?_) (.tup [_] _ (.cons _ _ _ _ (.bool _) .nil)) (hno hall)
            rw [hCn, hj0]
            simp
          · have hCn : Cn = L.map some := by simp [Cn, hL]
            have hjL : j < L.length := by rw [hCn] at hjl; simpa using hjl
            have hcj : Cn[j]? = some (some L[j]) := by rw [hCn]; simp [hjL]
            have hmem : L[j] ∈ L := List.getElem_mem _
            generalize L[j] = e0 at hcj hmem
            obtain ⟨hme, hns⟩ := List.mem_filter.1 hmem
            obtain ⟨i, hi⟩ := List.getElem?_of_mem hme
            obtain ⟨p, hp, hv1, hv2⟩ := q2.get? i e0 hi
            have hti : ts[i]? = some e0.born := by rw [← q4, List.getElem?_map, hi]; rfl
            have hnin : e0.born ∉ seen := by simpa using hns
            have hk := hyes i p e0.born hp hti hnin
            obtain ⟨w', r1, r2, r3⟩ := run_setObj (P := P) (w := { w with drawn := q }) g1 (by simp) (.mapIter (some (κ.φ m)) since ((⟨seen⟩ : Array Nat).push e0.born) since)
            obtain ⟨e', hr'⟩ := hr1.set_res (r' := .iter (some m) since (seen ++ [e0.born]) since) hr g2 r3.block r3.size (fun _ => by
              refine And.intro ?_ (And.intro gm g2)
              rw [r2]; simp)
            refine .value' (v := .tuple #[.bool true, e0.key, e0.val]) (.own (eq1.trans e') rfl hr' (hf1.owned hr1 rfl hr r3.os r3.tape r3.output r3.size r3.block) rfl) (hrun ?_)
              (.tup [_, _, _] _ (.cons _ _ _ _ (.bool _) (.cons _ _ _ _ (hv1.mono (eq1.trans e')) (.cons _ _ _ _ (hv2.mono (eq1.trans e')) .nil)))) hk
            rw [hcj]
            simp only [Sem.run_bind, r1, Result.andThen_ok, Sem.run_pure]
        · exact h.elim
      · exact h.elim
    · exact h.elim
  · exact h.elim
end
end Go.VL
