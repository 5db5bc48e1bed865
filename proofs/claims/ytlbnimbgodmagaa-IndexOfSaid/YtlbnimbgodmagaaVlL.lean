/- The value logic, part L: texts and bytes, make, maps, comparing, calls. -/
import Derived.Test.YtlbnimbgodmagaaVlK
import Derived.Laws.BytesArg
import Derived.Lib.ConvBytes
namespace Go.VL
section
variable {P : Program} {w0 : World} {F : Nat → Prop} {o : Oper} {a : Act} {w : World} {κ : Kx} {ρ : List AV} {σ : St} {nm : Nat} {K : AV → St → Prop}

theorem toBytes_ok : ∀ {xs : List AV} {bs : List UInt8} {us : List Value}, toBytes xs = some bs → Vl κ w us xs → ∃ ns : List Int, us = ns.map (Value.int .u8) ∧ bs = ns.map fun n => UInt8.ofNat n.toNat
  | [], bs, us, h, hv => by
    simp only [toBytes, Option.some.injEq] at h; subst h
    cases hv; exact ⟨[], rfl, rfl⟩
  | x :: r, bs, us, h, hv => by
    unfold toBytes at h
    split at h
    · rename_i e; cases e
    · rename_i n r' e
      obtain ⟨rfl, rfl⟩ := e
      rw [Option.map_eq_some_iff] at h
      obtain ⟨cs, hc, rfl⟩ := h
      cases hv with
      | cons v x vs xs hh t =>
        obtain ⟨ns, rfl, rfl⟩ := toBytes_ok hc t
        have := hh.int_inv; subst this
        exact ⟨n :: ns, rfl, rfl⟩
    · cases h

theorem toBytes_len : ∀ {xs : List AV} {bs : List UInt8}, toBytes xs = some bs → ∀ x ∈ xs, x.cells = [x]
  | [], _, _, x, hx => by simp at hx
  | y :: r, bs, h, x, hx => by
    unfold toBytes at h
    split at h
    · rename_i e; cases e
    · rename_i n r' e
      obtain ⟨rfl, rfl⟩ := e
      rw [Option.map_eq_some_iff] at h
      obtain ⟨cs, hc, _⟩ := h
      rcases List.mem_cons.1 hx with rfl | hx
      · rfl
      · exact toBytes_len hc x hx
    · cases h
theorem flat_single : ∀ {xs : List AV}, (∀ x ∈ xs, x.cells = [x]) → xs.flatMap AV.cells = xs
  | [], _ => rfl
  | x :: r, h => by rw [List.flatMap_cons, h x (List.mem_cons_self ..), flat_single (fun y hy => h y (List.mem_cons_of_mem _ hy))]; rfl

theorem row_str {src d e : TypeId} (hs : P.underlying src = some (.slice e)) (he : P.underlying e = some (.int .u8)) (hd : P.underlying d = some .string) {b i cap len : Nat} {xs : List AV} {bs : List UInt8} (hr : Row κ w b i xs) (hlen : xs.length = len) (hb : toBytes xs = some bs) :
    (convert src d (.slice (some ⟨b, i, none⟩) len cap)).run P w = .ok (.string ⟨bs.toArray⟩) w := by
  obtain ⟨us, h1, h3⟩ := hr
  obtain ⟨ns, rfl, rfl⟩ := toBytes_ok hb h1
  have hl := h1.length
  rw [List.length_map] at hl
  have := run_convert_bytes_arg (P := P) w src e hs he b i len cap ns (by omega) (fun j hj => by
    have hj' : j < ns.length := by omega
    refine h3 j _ ?_
    simp [List.getD, hj']) d hd
  rw [this]
  rfl

theorem ok_convBS (hI : Inv w0 F κ a w ρ σ) {s d e : TypeId} {y : Operand} {x : X} (hop : o.op = .convert s d y) (hs : P.underlying s = some (.slice e)) (he : P.underlying e = some (.int .u8)) (hd : P.underlying d = some .string) (hx : opX y = some x)
    (h : astep (ACalls P) nm ρ σ K (.convBS x)) : Good P w0 F o a w κ σ nm K := by
  have v1 := hI.opX hx
  simp only [astep] at h
  split at h
  · rename_i xs g hn
    rw [hn] at v1
    obtain ⟨bs, hb, hK⟩ := opt_some h
    rcases v1.sl_inv with ⟨base, e1, rfl⟩ | ⟨b, i, cap, kq, e1, _, _, hvs⟩
    · simp only [toBytes, Option.some.injEq] at hb; subst hb
      refine .value hI (v := .string ByteArray.empty) ?_ (.str _) hK
      cases base with
      | none =>
        have := run_convert_bytes_nil (P := P) w s e hs he 0 0 d hd
        simp [execOp, hop, e1, this]
      | some A =>
        have hr := run_loadCells_list (P := P) (w := w) A [] (fun j v hj => by simp at hj)
        simp at hr
        simp [execOp, hop, e1, convert, underlying, hs, he, hd, Conv.bytesToString, hr]
    · rw [flat_single (toBytes_len hb)] at hvs
      refine .value hI (v := .string ⟨bs.toArray⟩) ?_ (.str _) hK
      have := row_str (P := P) (cap := cap) hs he hd (Row.of_vs hvs) rfl hb
      simp [execOp, hop, e1, this]
  · rename_i n off len hn
    rw [hn] at v1
    obtain ⟨cap, e1, _, hdm⟩ := v1.ref_inv
    split at h
    · rename_i cs hr
      split at h
      · rename_i hle
        obtain ⟨bs, hb, hK⟩ := opt_some h
        refine .value hI (v := .string ⟨bs.toArray⟩) ?_ (.str _) hK
        have hrow := (Row.of_own (hI.r.own n _ hr).2).drop off
        rw [Nat.zero_add] at hrow
        have hrow' : Row κ w (κ.φ n) off ((cs.drop off).take len) := by
          obtain ⟨us, q1, q2⟩ := hrow
          exact ⟨us.take len, q1.take len, fun i u hu => q2 i u (by rw [List.getElem?_take] at hu; split at hu <;> simp_all)⟩
        have := row_str (P := P) (cap := cap) hs he hd hrow' (len := len) (by rw [List.length_take, List.length_drop]; omega) hb
        simp [execOp, hop, e1, this]
      · exact h.elim
    · exact h.elim
  · exact h.elim

theorem bytesWorld_eq (w : World) (e : TypeId) (s : ByteArray) : Lib.bytesWorld w e s = w.drew.alloc (.cells (Lib.bytesCells w e s) e ((Lib.bytesCells w e s).size, (Lib.bytesCells w e s).size + 1)) := by
  have hh : (Lib.bytesWorld w e s).heap = (w.drew.alloc (.cells (Lib.bytesCells w e s) e ((Lib.bytesCells w e s).size, (Lib.bytesCells w e s).size + 1))).heap := by
    apply Array.ext_getElem?
    intro i
    by_cases hi : i < w.heap.size
    · rw [Lib.bytesWorld_at_old w e s i hi]
      have := heap_alloc w.drew (.cells (Lib.bytesCells w e s) e ((Lib.bytesCells w e s).size, (Lib.bytesCells w e s).size + 1)) i hi
      rw [this]; rfl
    · by_cases hi2 : i = w.heap.size
      · subst hi2
        rw [Lib.bytesWorld_at_new]
        exact (heap_alloc_new w.drew _).symm
      · rw [Array.getElem?_eq_none (by rw [Lib.bytesWorld_size]; omega), Array.getElem?_eq_none (by rw [size_alloc]; show w.heap.size + 1 ≤ i; omega)]
  have h2 : Lib.bytesWorld w e s = { w.drew with heap := (Lib.bytesWorld w e s).heap } := by
    simp only [Lib.bytesWorld, World.freeze]
    split <;> rfl
  rw [h2, hh]
  rfl

theorem ok_convSB (hI : Inv w0 F κ a w ρ σ)  {s d e : TypeId} {y : Operand} {x : X} {hd : Hold} (hn : hd ≠ .val → hd ≠ .zero → ¬ κ.dom nm ∧ nm < σ.next) (hop : o.op = .convert s d y) (hs : P.underlying s = some .string) (he : P.underlying e = some (.int .u8)) (hdd : P.underlying d = some (.slice e)) (hx : opX y = some x)
    (h : astep (ACalls P) nm ρ σ K (.convSB hd x)) : Good P w0 F o a w κ σ nm K := by
  have v1 := hI.opX hx
  simp only [astep] at h
  split at h
  · rename_i t hnn
    rw [hnn] at v1
    have hr := Lib.run_convert_string_bytes (P := P) w s d e t hs hdd he
    rw [bytesWorld_eq] at hr
    have hcap : t.size ≤ grownCap w t.size 0 e := by simp [grownCap, Question.cut]
    have hsz : (bytesAV t.data.toList).length = t.size := by simp [bytesAV]
    have hbc : Lib.bytesCells w e t = ⟨(t.data.toList.map fun b => Value.int .u8 b.toNat) ++ List.replicate (grownCap w t.size 0 e - t.size) (.int .u8 0)⟩ := by
      apply Array.ext'
      simp [Lib.bytesCells]
    have hls : (Lib.bytesCells w e t).size = grownCap w t.size 0 e := by
      rw [hbc]; simp; omega
    rw [hls, hbc] at hr
    refine held_ok (us := t.data.toList.map fun b => Value.int .u8 b.toNat) (rest := List.replicate (grownCap w t.size 0 e - t.size) (.int .u8 0)) (t := e) (fz := (grownCap w t.size 0 e, grownCap w t.size 0 e + 1))
      (cap := grownCap w t.size 0 e) (n := t.size) (k := 1) (xs := bytesAV t.data.toList) hI hn (bytes_all _) (by rw [bytes_flat]; exact Vl.bytes _) ?_ (by rw [hsz]; exact hcap) (fun _ => ?_) ?_ hsz.symm h ⟨w.drew, rfl, rfl, rfl, rfl, ?_⟩
    · simp; omega
    · right; simp; omega
    · right; simp; omega
    · simp only [execOp, hop, v1.str_inv, Sem.run_bind, hr, Result.andThen_ok, Sem.run_pure]
  · exact h.elim

theorem flat_rep {k : Nat} {z : AV} : ∀ n, z.fits k = true → (List.replicate n z).all (AV.fits k) = true
  | 0, _ => rfl
  | n + 1, h => by simp only [List.replicate_succ, List.all_cons, h, flat_rep n h, Bool.and_self]

theorem Vl.rep {us : List Value} {cs : List AV} (h : Vl κ w us cs) : ∀ n, Vl κ w (List.replicate n us).flatten ((List.replicate n cs).flatten)
  | 0 => .nil
  | n + 1 => by simp only [List.replicate_succ, List.flatten_cons]; exact h.append (Vl.rep h n)

theorem range_mod {z : Array Value} (hz : 0 < z.size) : ∀ n, ((Array.range (n * z.size)).map (z[· % z.size]!)).toList = (List.replicate n z.toList).flatten
  | 0 => by simp
  | n + 1 => by
    have ih := range_mod hz n
    rw [Array.toList_map, Array.toList_range] at ih ⊢
    rw [show (n + 1) * z.size = n * z.size + z.size by rw [Nat.add_mul]; omega, List.range_add, List.map_append, ih, List.replicate_succ', List.flatten_append, List.map_map]
    congr 1
    simp only [List.flatten_cons, List.flatten_nil, List.append_nil]
    apply List.ext_getElem?
    intro i
    by_cases hi : i < z.size
    · simp [hi, Nat.mod_eq_of_lt hi]
    · simp [hi]

theorem ok_mkS (hI : Inv w0 F κ a w ρ σ)  {t e : TypeId} {y y' : Operand} {x x' : X} {ti : TypeInfo} {z : AV} {hd : Hold} (hn : hd ≠ .val → hd ≠ .zero → ¬ κ.dom nm ∧ nm < σ.next) (hop : o.op = .makeSlice t y y') (hu : P.underlying t = some (.slice e)) (hi : P.info? e = some ti) (hz : zeroOf P e = some z)
    (hzs : ti.size = z.cells.length) (hpos : 0 < ti.size) (hx : opX y = some x) (hx' : opX y' = some x') (h : astep (ACalls P) nm ρ σ K (.mkS ti.size ti.bytes hd z x x')) : Good P w0 F o a w κ σ nm K := by
  have v1 := hI.opX hx
  have v2 := hI.opX hx'
  obtain ⟨ti', zv, hi', hz2, hz3⟩ := zeroOf_ok hz
  rw [hi] at hi'; simp only [Option.some.injEq] at hi'; subst hi'
  simp only [astep] at h
  split at h
  · rename_i kl l kc c hl hc
    rw [hl] at v1; rw [hc] at v2
    split at h
    · rename_i hcond
      obtain ⟨c0, c1, c2, c3, c5, c6⟩ := hcond
      subst c6
      have hvz := (constV_ok (κ := κ) (w := w) hz3).cells (constV_ne hz3)
      have hzl : zv.cells.size = ti.size := by have := hvz.length; rw [← hzs] at this; simpa using this
      have hw : IntKind.i64.wrap c = c := by simp [IntKind.wrap, IntKind.bits, IntKind.signed]; omega
      have hfl : (List.replicate c.toNat z).flatMap AV.cells = (List.replicate c.toNat z.cells).flatten := by
        simp [List.flatMap]
      have hlen : ((List.replicate c.toNat zv.cells.toList).flatten).length = c.toNat * ti.size := by
        rw [List.length_flatten, List.map_replicate, List.sum_replicate_nat, Array.length_toList, hzl]
      refine held_ok (us := (List.replicate c.toNat zv.cells.toList).flatten) (rest := []) (t := e) (fz := (0, 0)) (cap := c.toNat) (n := c.toNat) (k := ti.size) (xs := List.replicate c.toNat z) hI hn (flat_rep _ c5)
        (by rw [hfl]; exact hvz.rep _) (by rw [hlen]; simp) (by simp) (fun _ => .inl rfl) (.inl rfl) (by simp) h ⟨w, rfl, rfl, rfl, rfl, ?_⟩
      have hno2 : ¬ ((281474976710656 : Int) < (ti.bytes : Int) * c) := by
        have : (ti.bytes : Int) * c = c * ti.bytes := Int.mul_comm _ _
        omega
      have hnn : ¬ c < 0 := by omega
      have hr := range_mod (z := zv.cells) (by omega) c.toNat
      rw [hzl] at hr
      have harr : (Array.range (c.toNat * ti.size)).map (fun i => zv.cells[i % ti.size]!) = ⟨(List.replicate c.toNat zv.cells.toList).flatten⟩ := by
        apply Array.ext'; exact hr
      by_cases h0 : c.toNat = 0
      · simp [execOp, hop, v1.int_inv, v2.int_inv, Instr.makeSlice, underlying, hu, asInt, asIntOf, typeInfo, hi, hw, hno2, hnn, h0, sizeOf, newRow]
        have hz0 : ∀ g : Nat → Value, (Array.range 0).map g = ⟨[]⟩ := fun g => by apply Array.ext'; simp
        rw [hz0]
      · have h1 : ¬ (c.toNat * ti.size = 0) := Nat.mul_ne_zero h0 (by omega)
        have h2 : ¬ (c.toNat = 0 ∨ ti.size = 0) := by omega
        have h3 : ¬ (c ≤ 0 ∨ ti.size = 0) := by omega
        simp [execOp, hop, v1.int_inv, v2.int_inv, Instr.makeSlice, underlying, hu, asInt, asIntOf, typeInfo, hi, hw, hno2, hnn, sizeOf, newRow, zeroValue, hz2, hzl, harr]
        exact fun hx => absurd hx h1
    · exact h.elim
  · exact h.elim

/-! ### Comparing -/
theorem eqAv_ok : ∀ {xs ys : List AV} {us vs : List Value} {r : Bool}, eqAv xs ys = some r → Vl κ w us xs → Vl κ w vs ys → us.length = vs.length
  | [], ys, us, vs, r, h, hu, hv => by
    cases ys <;> simp [eqAv] at h
    cases hu; cases hv; rfl
  | x :: xs, ys, us, vs, r, h, hu, hv => by
    cases ys with
    | nil => cases x <;> simp [eqAv] at h
    | cons y ys =>
      have : ∃ r', eqAv xs ys = some r' := by
        cases x <;> cases y <;> simp only [eqAv, reduceCtorEq] at h <;> (try split at h) <;> first
          | (rw [Option.map_eq_some_iff] at h; obtain ⟨r', h1, _⟩ := h; exact ⟨r', h1⟩)
          | (cases h; done)
      obtain ⟨r', hr⟩ := this
      cases hu with
      | cons u x us xs h1 t1 =>
        cases hv with
        | cons v y vs ys h2 t2 => simp [eqAv_ok hr t1 t2]

/-! ### Maps -/
theorem keyKind_cases {kt : TypeId} {kk : Nat} (h : keyKind P kt = some kk) : (∃ k, P.underlying kt = some (.int k) ∧ kk = 0) ∨ (P.underlying kt = some .string ∧ kk = 1) := by
  unfold keyKind at h
  split at h
  · simp only [Option.some.injEq] at h; exact .inl ⟨_, by assumption, h.symm⟩
  · simp only [Option.some.injEq] at h; exact .inr ⟨by assumption, h.symm⟩
  · cases h

theorem run_checkKey1 {kt : TypeId} {kk : Nat} (h : keyKind P kt = some kk) (e : Bool) (d : Nat) (v : Value) : (Instr.checkKey e (d + 1) kt v).run P w = .ok () w := by
  rcases keyKind_cases h with ⟨k, hk, _⟩ | ⟨hk, _⟩ <;> simp [Instr.checkKey, underlying, hk]
theorem run_checkKey {kt : TypeId} {kk : Nat} (h : keyKind P kt = some kk) (e : Bool) (v : Value) : (Instr.checkKey e 10000 kt v).run P w = .ok () w := run_checkKey1 h e 9999 v

/-- what is found of a key -/
structure Found (κ : Kx) (w : World) (d : TypeDesc) (k : Value) (x : AV) (es : List MapEntry) (ps : List (AV × AV)) (i j : Nat) (u : Value) (v : AV) (e : MapEntry) : Prop where
  now : Instr.findNow d k es i = some (some (i + j, u))
  at_ : es[j]? = some e
  val : u = e.val
  fits : V κ w u v
  lt : j < ps.length
  key : e.key = k
  put : ∀ z, mput x z ps = ps.set j (x, z)
  del : mdel x ps = ps.eraseIdx j
  idx : midx x ps = j

theorem find_ok {d : TypeDesc} {k : Value} {x : AV} (hk : V κ w k x) (hd : (∃ kk, d = .int kk) ∧ kshape 0 x = true ∨ d = .string ∧ kshape 1 x = true) : ∀ {es : List MapEntry} {ps : List (AV × AV)} {r : Option AV} (i : Nat), Vm κ w es ps → mfind x ps = some r →
    (r = none ∧ Instr.findNow d k es i = some none ∧ (∀ v, mput x v ps = ps ++ [(x, v)]) ∧ mdel x ps = ps) ∨ (∃ v j u e, r = some v ∧ Found κ w d k x es ps i j u v e)
  | _, _, r, i, .nil, hf => by
    simp only [mfind, Option.some.injEq] at hf; subst hf
    exact .inl ⟨rfl, rfl, fun _ => rfl, rfl⟩
  | _, _, r, i, .cons e p es ps hek hev t, hf => by
    have hs : ∃ b, keq x p.1 = some b ∧ Instr.sameNow d k e.key = some b ∧ (b = true → e.key = k) := by
      rcases hd with ⟨⟨kk, rfl⟩, hx⟩ | ⟨rfl, hx⟩
      · obtain ⟨k1, n1, rfl⟩ : ∃ k1 n1, x = .int k1 n1 := by
          cases x <;> simp only [kshape, Bool.false_eq_true] at hx
          exact ⟨_, _, rfl⟩
        have ek := hk.int_inv; subst ek
        simp only [mfind] at hf
        obtain ⟨k2, n2, hp⟩ : ∃ k2 n2, p.1 = .int k2 n2 := by
          cases hp : p.1 <;> rw [hp] at hf <;> simp only [keq, reduceCtorEq] at hf
          exact ⟨_, _, rfl⟩
        rw [hp] at hf hek
        rw [hek.int_inv, hp]
        by_cases hkk : k1 = k2
        · subst hkk
          exact ⟨n1 == n2, by simp [keq], by simp [Instr.sameNow], fun hb => by simp at hb; rw [hb]⟩
        · simp [keq, hkk] at hf
      · obtain ⟨s1, rfl⟩ : ∃ s1, x = .str s1 := by
          cases x <;> simp only [kshape, Bool.false_eq_true] at hx
          exact ⟨_, rfl⟩
        have ek := hk.str_inv; subst ek
        simp only [mfind] at hf
        obtain ⟨s2, hp⟩ : ∃ s2, p.1 = .str s2 := by
          cases hp : p.1 <;> rw [hp] at hf <;> simp only [keq, reduceCtorEq] at hf
          exact ⟨_, rfl⟩
        rw [hp] at hf hek
        rw [hek.str_inv, hp]
        exact ⟨decide (s1 = s2), by simp [keq], by simp [Instr.sameNow, ba_beq], fun hb => by simp at hb; rw [hb]⟩
    obtain ⟨b, h1, h2, h3⟩ := hs
    cases b with
    | true =>
      simp only [mfind, h1, Option.some.injEq] at hf
      subst hf
      exact .inr ⟨p.2, 0, e.val, e, rfl, by simp [Instr.findNow, h2], rfl, rfl, hev, by simp, h3 rfl, fun z => by simp [mput, h1], by simp [mdel, h1], by simp [midx, h1]⟩
    | false =>
      simp only [mfind, h1] at hf
      rcases find_ok hk hd (i + 1) t hf with ⟨g0, g1, g2, g3⟩ | ⟨v, j, u, e', g0, g⟩
      · exact .inl ⟨g0, by simp [Instr.findNow, h2, g1], fun v => by simp [mput, h1, g2], by simp [mdel, h1, g3]⟩
      · exact .inr ⟨v, j + 1, u, e', g0, by simp [Instr.findNow, h2, g.now]; omega, by simpa using g.at_, g.val, g.fits, by have := g.lt; simp; omega, g.key, fun z => by simp [mput, h1, g.put], by simp [mdel, h1, g.del], by simp [midx, h1, g.idx]⟩

theorem run_findKey {kt : TypeId} {d : TypeDesc} (hu : P.underlying kt = some d) {k : Value} {es : List MapEntry} {r : Option (Nat × Value)} (h : Instr.findNow d k es 0 = some r) : (Instr.findKey kt k es).run P w = .ok r w := by
  simp [Instr.findKey, underlying, hu, h]

theorem kind_shape {kt : TypeId} {kk : Nat} {x : AV} (h : keyKind P kt = some kk) (hs : kshape kk x = true) : ∃ d, P.underlying kt = some d ∧ ((∃ k, d = .int k) ∧ kshape 0 x = true ∨ d = .string ∧ kshape 1 x = true) := by
  rcases keyKind_cases h with ⟨k, hk, rfl⟩ | ⟨hk, rfl⟩
  · exact ⟨_, hk, .inl ⟨⟨k, rfl⟩, hs⟩⟩
  · exact ⟨_, hk, .inr ⟨rfl, hs⟩⟩

theorem run_getMap {b : Nat} {ents : List MapEntry} {cl : Nat} (h : w.heap[b]? = some (.map ⟨ents⟩ cl)) : (getObj b).run P w = .ok (.map ⟨ents⟩ cl) w := by
  simp [getObj, Sem.run, h]

theorem ok_look (hI : Inv w0 F κ a w ρ σ) {t kt e : TypeId} {y y' : Operand} {x x' : X} {ok : Bool} {kk : Nat} {z : AV} (hop : o.op = .lookup t y y' ok) (hu : P.underlying t = some (.map kt e)) (hk : keyKind P kt = some kk) (hz : zeroOf P e = some z) (hx : opX y = some x) (hx' : opX y' = some x')
    (h : astep (ACalls P) nm ρ σ K (.look kk z ok x x')) : Good P w0 F o a w κ σ nm K := by
  have v1 := hI.opX hx
  have v2 := hI.opX hx'
  obtain ⟨i, zv, h1, h2, h3⟩ := zeroOf_ok hz
  have hzr : (zeroValue e).run P w = .ok zv w := by simp [zeroValue, typeInfo, h1, h2]
  have hzv := constV_ok (κ := κ) (w := w) h3
  have htup : ∀ {u : Value} {v : AV} (b : Bool), V κ w u v → V κ w (if ok then .tuple #[u, .bool b] else u) (if ok then .tup [v, .bool b] else v) := by
    intro u v b hv
    cases ok
    · exact hv
    · exact .tup [u, .bool b] _ (.cons _ _ _ _ hv (.cons _ _ _ _ (.bool _) .nil))
  simp only [astep] at h
  split at h
  · rename_i hn
    rw [hn] at v1
    refine .value hI (v := if ok then .tuple #[zv, .bool false] else zv) ?_ (htup false hzv) h
    have hf : (Instr.findKey kt (a.eval y') []).run P w = .ok none w := by
      rcases keyKind_cases hk with ⟨k, hkk, _⟩ | ⟨hkk, _⟩ <;> exact run_findKey hkk rfl
    simp [execOp, hop, v1.nilm_inv, Instr.lookup, underlying, hu, run_checkKey hk, hf, hzr]
  · rename_i n hn
    rw [hn] at v1
    obtain ⟨e1, hd⟩ := v1.map_inv
    split at h
    · rename_i es ts cl hr
      obtain ⟨_, ents, g1, g2, g3, g4, g5, g6⟩ := hI.r.own n _ hr
      split at h
      · rename_i hs
        obtain ⟨d, hdd, hds⟩ := kind_shape hk hs
        have hg := run_getMap (P := P) g1
        split at h
        · rename_i v hf
          rcases find_ok v2 hds 0 g2 hf with ⟨q, _⟩ | ⟨v', j, u, e', q, g⟩
          · cases q
          · simp only [Option.some.injEq] at q; subst q
            refine .value hI (v := if ok then .tuple #[u, .bool true] else u) ?_ (htup true g.fits) h
            have hfk := run_findKey (P := P) (w := w) hdd g.now
            simp [execOp, hop, e1, Instr.lookup, underlying, hu, hg, run_checkKey hk, hfk]
        · rename_i hf
          rcases find_ok v2 hds 0 g2 hf with ⟨_, q, _⟩ | ⟨v', j, u, e', q, g⟩
          · refine .value hI (v := if ok then .tuple #[zv, .bool false] else zv) ?_ (htup false hzv) h
            have hfk := run_findKey (P := P) (w := w) hdd q
            simp [execOp, hop, e1, Instr.lookup, underlying, hu, hg, run_checkKey hk, hfk, hzr]
          · cases q
        · exact h.elim
      · exact h.elim
    · exact h.elim
  · exact h.elim

theorem Vm.append : ∀ {es es' : List MapEntry} {ps ps' : List (AV × AV)}, Vm κ w es ps → Vm κ w es' ps' → Vm κ w (es ++ es') (ps ++ ps')
  | _, _, _, _, .nil, k => by simpa using k
  | _, _, _, _, .cons e p es ps h1 h2 t, k => by simpa using Vm.cons e p _ _ h1 h2 (Vm.append t k)
theorem Vm.set : ∀ {es : List MapEntry} {ps : List (AV × AV)} (_ : Vm κ w es ps) (i : Nat) {e : MapEntry} {p : AV × AV}, V κ w e.key p.1 → V κ w e.val p.2 → Vm κ w (es.set i e) (ps.set i p)
  | _, _, .nil, i, _, _, _, _ => by simpa using Vm.nil
  | _, _, .cons e p es ps h1 h2 t, 0, _, _, k1, k2 => by simpa using Vm.cons _ _ _ _ k1 k2 t
  | _, _, .cons e p es ps h1 h2 t, i + 1, _, _, k1, k2 => by simpa using Vm.cons _ _ _ _ h1 h2 (Vm.set t i k1 k2)
theorem Vm.erase : ∀ {es : List MapEntry} {ps : List (AV × AV)} (_ : Vm κ w es ps) (i : Nat), Vm κ w (es.eraseIdx i) (ps.eraseIdx i)
  | _, _, .nil, i => by simpa using Vm.nil
  | _, _, .cons e p es ps h1 h2 t, 0 => by simpa using t
  | _, _, .cons e p es ps h1 h2 t, i + 1 => by simpa using Vm.cons _ _ _ _ h1 h2 (Vm.erase t i)

theorem run_setMap {b : Nat} {ents : List MapEntry} {cl : Nat} (h : w.heap[b]? = some (.map ⟨ents⟩ cl)) (ob : Obj) : ∃ w', (setObj b ob).run P w = .ok () w' ∧ w'.heap[b]? = some ob ∧ Same w w' b := by
  have hlt := (Array.getElem?_eq_some_iff.1 h).1
  refine ⟨{ w with heap := w.heap.setIfInBounds b ob }, by simp [setObj, Sem.run, h], ?_, rfl, rfl, rfl, by simp, fun b' hb => ?_⟩
  · simp [hlt]
  · simp only [Array.getElem?_setIfInBounds]
    rw [if_neg (fun e => hb e.symm)]

theorem sameBits_key {kk : Nat} {k : Value} {x : AV} (hv : V κ w k x) (hs : kshape kk x = true) (hkk : kk = 0 ∨ kk = 1) : Instr.sameBits 10000 k k = true := by
  rcases hkk with rfl | rfl
  · cases x <;> simp only [kshape, reduceCtorEq] at hs
    rw [hv.int_inv]; unfold Instr.sameBits; simp
  · cases x <;> simp only [kshape, reduceCtorEq] at hs
    rw [hv.str_inv]; unfold Instr.sameBits; simp [ba_beq]

theorem ok_mapUp (hI : Inv w0 F κ a w ρ σ) {t kt e : TypeId} {y y' y'' : Operand} {x x' x'' : X} {kk : Nat} (hop : o.op = .mapUpdate t y y' y'') (hu : P.underlying t = some (.map kt e)) (hk : keyKind P kt = some kk) (hx : opX y = some x) (hx' : opX y' = some x') (hx'' : opX y'' = some x'')
    (h : astep (ACalls P) nm ρ σ K (.mapUp kk x x' x'')) : Good P w0 F o a w κ σ nm K := by
  have v1 := hI.opX hx
  have v2 := hI.opX hx'
  have v3 := hI.opX hx''
  have hkk : kk = 0 ∨ kk = 1 := by rcases keyKind_cases hk with ⟨_, _, q⟩ | ⟨_, q⟩ <;> simp [q]
  simp only [astep] at h
  split at h
  · rename_i n hn
    rw [hn] at v1
    obtain ⟨e1, hd⟩ := v1.map_inv
    split at h
    · rename_i es ts cl hr
      obtain ⟨_, ents, g1, g2, g3, g4, g5, g6⟩ := hI.r.own n _ hr
      split at h
      · rename_i hs
        obtain ⟨d, hdd, hds⟩ := kind_shape hk hs
        have hg := run_getMap (P := P) g1
        split at h
        · rename_i r hf
          rcases find_ok v2 hds 0 g2 hf with ⟨q, _⟩ | ⟨v', j, u, e', q, g⟩
          · cases q
          · have hjl : j < ents.length := (List.getElem?_eq_some_iff.1 g.at_).1
            obtain ⟨w', r1, r2, r3⟩ := run_setMap (P := P) g1 (.map ⟨ents.set j { e' with key := a.eval y', val := a.eval y'' }⟩ cl)
            have hbs : (ents.set j { e' with key := a.eval y', val := a.eval y'' }).map (·.born) = ts := by
              rw [← g4]
              apply List.ext_getElem?
              intro i
              rw [List.getElem?_map, List.getElem?_map, List.getElem?_set]
              split
              · rename_i hi; subst hi; have hb := (List.getElem?_eq_some_iff.1 g.at_).2; simp [hjl, hb]
              · rfl
            obtain ⟨ee, hr'⟩ := hI.r.set_map hr r2 r3.block r3.size (g2.set j (e := { e' with key := a.eval y', val := a.eval y'' }) (p := (ev ρ x', ev ρ x'')) v2 v3) hbs g5 g6
            rw [g.put] at h
            refine .skip' (.own ee rfl hr' (hI.fr.owned hI.r rfl hr r3.os r3.tape r3.output r3.size r3.block) rfl) ?_ h
            have hfk := run_findKey (P := P) (w := w) hdd g.now
            rw [Nat.zero_add] at hfk
            have hst : (Instr.keyThatStays (a.eval y') (a.eval y')).run P w = .ok (a.eval y') w := by
              simp [Instr.keyThatStays, sameBits_key v2 hs hkk]
            have hek : ((ents[j]?).map (·.key)).getD (a.eval y') = a.eval y' := by rw [g.at_]; exact g.key
            have hmod : (⟨ents⟩ : Array MapEntry).modify j (fun e => { e with key := a.eval y', val := a.eval y'' }) = ⟨ents.set j { e' with key := a.eval y', val := a.eval y'' }⟩ := by
              apply Array.ext'
              have : ents[j] = e' := (List.getElem?_eq_some_iff.1 g.at_).2
              simp [List.modify_eq_set, g.at_]
            simp only [execOp, hop, e1, Instr.mapUpdate, Sem.run_bind, underlying, run_program, Result.andThen_ok, hu, hg, run_checkKey hk, hfk, Sem.run_pure, List.getElem?_toArray, hek, hst, hmod, r1]
        · rename_i hf
          rcases find_ok v2 hds 0 g2 hf with ⟨_, q1, q2, _⟩ | ⟨v', j, u, e', q, g⟩
          · obtain ⟨w', r1, r2, r3⟩ := run_setMap (P := P) g1 (.map ⟨ents ++ [{ key := a.eval y', val := a.eval y'', born := cl }]⟩ (cl + 1))
            obtain ⟨ee, hr'⟩ := hI.r.set_map (ts' := ts ++ [cl]) hr r2 r3.block r3.size (g2.append (.cons _ (ev ρ x', ev ρ x'') _ _ v2 v3 .nil)) (by simp [g4])
              (by rw [List.nodup_append]; exact ⟨g5, by simp, fun t ht u hu => by simp only [List.mem_singleton] at hu; subst hu; exact Nat.ne_of_lt (g6 t ht)⟩)
              (fun t ht => by rcases List.mem_append.1 ht with ht | ht; exact Nat.lt_succ_of_lt (g6 t ht); simp only [List.mem_singleton] at ht; subst ht; exact Nat.lt_succ_self _)
            rw [q2] at h
            refine .skip' (.own ee rfl hr' (hI.fr.owned hI.r rfl hr r3.os r3.tape r3.output r3.size r3.block) rfl) ?_ h
            have hfk := run_findKey (P := P) (w := w) hdd q1
            simp [execOp, hop, e1, Instr.mapUpdate, underlying, hu, hg, run_checkKey hk, hfk, r1]
          · cases q
        · exact h.elim
      · exact h.elim
    · exact h.elim
  · exact h.elim
end
end Go.VL
