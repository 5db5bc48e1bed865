/- The value logic, part M: equality, least and greatest, delete, and calls. -/
import Derived.Test.YtlbnimbgodmagaaVlL
namespace Go.VL

section
variable {P : Program} {w0 : World} {F : Nat → Prop} {o : Oper} {a : Act} {w : World} {κ : Kx} {ρ : List AV} {σ : St} {nm : Nat} {K : AV → St → Prop}

theorem errsOk_mem : ∀ {ts : List (Nat × IntKind)}, errsOk P ts = true → ∀ p ∈ ts, ∃ i, P.underlying p.1 = some (.int p.2) ∧ P.info? p.1 = some i ∧ i.comparable = true
  | [], _, p, hp => by cases hp
  | (t, k) :: r, h, p, hp => by
    simp only [errsOk, Bool.and_eq_true] at h
    rcases List.mem_cons.1 hp with rfl | hp
    · have h1 := h.1
      split at h1
      · rename_i k' i e1 e2
        simp only [Bool.and_eq_true, beq_iff_eq] at h1
        exact ⟨i, by rw [e1, h1.1], e2, h1.2⟩
      · cases h1
    · exact errsOk_mem h.2 p hp

theorem run_equalIn_int (d : Nat) {t : TypeId} {k : IntKind} (ht : P.underlying t = some (.int k)) (m n : Int) (k' : IntKind) : (Op.equalIn (d + 1) t (.int k' m) (.int k' n)).run P w = .ok (m == n) w := by
  rw [Op.equalIn.eq_2]; simp [underlying, ht]
theorem run_eq_nn (d : Nat) {t : TypeId} {ms : Array (String × TypeId)} (ht : P.underlying t = some (.interface ms)) : (Op.equalIn (d + 1) t .nilIface .nilIface).run P w = .ok true w := by
  rw [Op.equalIn.eq_2]; simp [underlying, ht]
theorem run_eq_ni (d : Nat) {t : TypeId} {ms : Array (String × TypeId)} (ht : P.underlying t = some (.interface ms)) (t' : TypeId) (v : Value) : (Op.equalIn (d + 1) t .nilIface (.iface t' v)).run P w = .ok false w := by
  rw [Op.equalIn.eq_2]; simp [underlying, ht]
theorem run_eq_in (d : Nat) {t : TypeId} {ms : Array (String × TypeId)} (ht : P.underlying t = some (.interface ms)) (t' : TypeId) (v : Value) : (Op.equalIn (d + 1) t (.iface t' v) .nilIface).run P w = .ok false w := by
  rw [Op.equalIn.eq_2]; simp [underlying, ht]
theorem run_eq_ne (d : Nat) {t : TypeId} {ms : Array (String × TypeId)} (ht : P.underlying t = some (.interface ms)) {t1 t2 : TypeId} (hne : t1 ≠ t2) (u v : Value) : (Op.equalIn (d + 1) t (.iface t1 u) (.iface t2 v)).run P w = .ok false w := by
  rw [Op.equalIn.eq_2]; simp [underlying, ht, hne]
theorem run_eq_ii (d : Nat) {t : TypeId} {ms : Array (String × TypeId)} (ht : P.underlying t = some (.interface ms)) {t1 : TypeId} {k : IntKind} {i : TypeInfo} (h1 : P.underlying t1 = some (.int k)) (h2 : P.info? t1 = some i) (h3 : i.comparable = true) (m n : Int) :
    (Op.equalIn (d + 1 + 1) t (.iface t1 (.int k m)) (.iface t1 (.int k n))).run P w = .ok (m == n) w := by
  have := run_equalIn_int (P := P) (w := w) d h1 m n k
  rw [Op.equalIn.eq_2]; simp [underlying, ht, typeInfo, h2, h3, this]

theorem run_equalIn_iface (d : Nat) {t : TypeId} {ms : Array (String × TypeId)} (ht : P.underlying t = some (.interface ms)) {ts : List (Nat × IntKind)} (hts : errsOk P ts = true) {lit : Bool} {x y : AV} {u v : Value} {r : Bool}
    (hu : V κ w u x) (hv : V κ w v y) (h : eqIv lit ts x y = some r) : (Op.equalIn (d + 1 + 1) t u v).run P w = .ok r w := by
  unfold eqIv at h
  split at h
  · split at h
    · simp only [Option.some.injEq] at h; subst h
      rw [hu.nili_inv, hv.nili_inv]; exact run_eq_nn _ ht
    · cases h
  · simp only [Option.some.injEq] at h; subst h
    obtain ⟨v', rfl, _⟩ := hv.iface_inv
    rw [hu.nili_inv]; exact run_eq_ni _ ht _ _
  · simp only [Option.some.injEq] at h; subst h
    obtain ⟨u', rfl, _⟩ := hu.iface_inv
    rw [hv.nili_inv]; exact run_eq_in _ ht _ _
  · rename_i t1 k m t2 k' n
    obtain ⟨u', rfl, hu'⟩ := hu.iface_inv
    obtain ⟨v', rfl, hv'⟩ := hv.iface_inv
    split at h
    · rename_i he
      subst he
      split at h
      · rename_i hk
        simp only [Bool.and_eq_true, decide_eq_true_eq, List.any_eq_true, beq_iff_eq, Prod.exists] at hk
        obtain ⟨rfl, t3, k3, hm, rfl, rfl⟩ := hk
        obtain ⟨i, g1, g2, g3⟩ := errsOk_mem hts _ hm
        simp only [Option.some.injEq] at h; subst h
        rw [hu'.int_inv, hv'.int_inv]; exact run_eq_ii _ ht g1 g2 g3 _ _
      · cases h
    · rename_i he
      simp only [Option.some.injEq] at h; subst h
      exact run_eq_ne _ ht he _ _
  · rename_i t1 x1 t2 x2 _
    obtain ⟨u', rfl, hu'⟩ := hu.iface_inv
    obtain ⟨v', rfl, hv'⟩ := hv.iface_inv
    split at h
    · cases h
    · rename_i he
      simp only [Option.some.injEq] at h; subst h
      exact run_eq_ne _ ht he _ _
  · cases h
theorem run_equal_iface {t : TypeId} {ms : Array (String × TypeId)} (ht : P.underlying t = some (.interface ms)) {ts : List (Nat × IntKind)} (hts : errsOk P ts = true) {lit : Bool} {x y : AV} {u v : Value} {r : Bool}
    (hu : V κ w u x) (hv : V κ w v y) (h : eqIv lit ts x y = some r) : (Op.equal t u v).run P w = .ok r w := run_equalIn_iface 9998 ht hts hu hv h

theorem run_eqGuard_iface {neg : Bool} {t : TypeId} {y z : Operand} {lit : Bool} {ts : List (Nat × IntKind)} {x x' : AV} {u v : Value} {r : Bool} (hl : lit = (isC y || isC z))
    (hu : V κ w u x) (hv : V κ w v x') (h : eqIv lit ts x x' = some r) : (eqGuard (if neg then .neq else .eql) t y z u v).run P w = .ok () w := by
  have : u = .nilIface ∧ v = .nilIface ∧ lit = true ∨ (∃ t1 u', u = .iface t1 u') ∨ (u = .nilIface ∧ ∃ t1 v', v = .iface t1 v') := by
    unfold eqIv at h
    split at h
    · split at h
      · rename_i hl; exact .inl ⟨hu.nili_inv, hv.nili_inv, hl⟩
      · cases h
    · obtain ⟨v', e, _⟩ := hv.iface_inv; exact .inr (.inr ⟨hu.nili_inv, _, v', e⟩)
    · obtain ⟨v', e, _⟩ := hu.iface_inv; exact .inr (.inl ⟨_, v', e⟩)
    · obtain ⟨v', e, _⟩ := hu.iface_inv; exact .inr (.inl ⟨_, v', e⟩)
    · obtain ⟨v', e, _⟩ := hu.iface_inv; exact .inr (.inl ⟨_, v', e⟩)
    · cases h
  rcases this with ⟨rfl, rfl, hl'⟩ | ⟨t1, u', rfl⟩ | ⟨rfl, t1, v', rfl⟩
  · rw [hl] at hl'
    simp only [Bool.or_eq_true] at hl'
    rcases hl' with hl' | hl'
    · cases y <;> simp [isC] at hl' <;> cases neg <;> simp [eqGuard]
    · cases z <;> simp [isC] at hl' <;> cases neg <;> simp [eqGuard]
  · cases neg <;> simp [eqGuard]
  · cases neg <;> simp [eqGuard]

theorem binOp_eq {neg : Bool} {t : TypeId} {u v : Value} {r : Bool} (h : (Op.equal t u v).run P w = .ok r w) (hi : (∃ t1 u', u = .iface t1 u') ∨ u = .nilIface ∨ ∃ p, u = .pointer p) :
    (binOp (if neg then .neq else .eql) t u v).run P w = .ok (.bool (r != neg)) w := by
  rcases hi with ⟨t1, u', rfl⟩ | rfl | ⟨p, rfl⟩ <;> cases neg <;> simp [binOp, h]

theorem ok_eqI (hI : Inv w0 F κ a w ρ σ) {neg lit : Bool} {t t' : TypeId} {y z : Operand} {x x' : X} {ms : Array (String × TypeId)} {ts : List (Nat × IntKind)} (hop : o.op = .binOp (if neg then .neq else .eql) t y z t') (ht : P.underlying t = some (.interface ms))
    (hts : errsOk P ts = true) (hl : lit = (isC y || isC z)) (hx : opX y = some x) (hx' : opX z = some x')
    (h : astep (ACalls P) nm ρ σ K (.eqI neg lit ts x x')) : Good P w0 F o a w κ σ nm K := by
  have v1 := hI.opX hx
  have v2 := hI.opX hx'
  simp only [astep] at h
  split at h
  · rename_i r hr
    refine .value hI (v := .bool (r != neg)) ?_ (.bool _) h
    have hi : (∃ t1 u', a.eval y = .iface t1 u') ∨ a.eval y = .nilIface := by
      unfold eqIv at hr
      split at hr
      · rename_i h1 _; rw [h1] at v1; exact .inr v1.nili_inv
      · rename_i h1 _; rw [h1] at v1; exact .inr v1.nili_inv
      · rename_i h1 _; rw [h1] at v1; obtain ⟨v', e, _⟩ := v1.iface_inv; exact .inl ⟨_, v', e⟩
      · rename_i h1 _; rw [h1] at v1; obtain ⟨v', e, _⟩ := v1.iface_inv; exact .inl ⟨_, v', e⟩
      · rename_i h1 _; rw [h1] at v1; obtain ⟨v', e, _⟩ := v1.iface_inv; exact .inl ⟨_, v', e⟩
      · cases hr
    have hb := binOp_eq (neg := neg) (run_equal_iface ht hts v1 v2 hr) (hi.imp id .inl)
    simp [execOp, hop, run_eqGuard_iface (P := P) hl v1 v2 hr, hb]
  · exact h.elim

theorem run_ep_nb (d : Nat) {t e : TypeId} (ht : P.underlying t = some (.pointer e)) (b : Option Addr) : (Op.equalIn (d + 1) t (.pointer none) (.pointer b)).run P w = .ok b.isNone w := by
  rw [Op.equalIn.eq_2]; simp [underlying, ht]
theorem run_ep_sn (d : Nat) {t e : TypeId} (ht : P.underlying t = some (.pointer e)) (b : Addr) : (Op.equalIn (d + 1) t (.pointer (some b)) (.pointer none)).run P w = .ok false w := by
  rw [Op.equalIn.eq_2]; simp [underlying, ht]
theorem run_ep_ss (d : Nat) {t e : TypeId} (ht : P.underlying t = some (.pointer e)) {k : Nat} (hk : sizeOf' P e = some (k + 1)) (b i j : Nat) : (Op.equalIn (d + 1) t (.pointer (some ⟨b, i, none⟩)) (.pointer (some ⟨b, j, none⟩))).run P w = .ok (i == j) w := by
  have hs := run_sizeOf (w := w) hk
  have : ((⟨b, i, none⟩ : Addr) == ⟨b, j, none⟩) = (i == j) := by
    rw [Bool.eq_iff_iff]; simp
  rw [Op.equalIn.eq_2]; simp [underlying, ht, hs, sameAddr, this]

theorem ok_eqP (hI : Inv w0 F κ a w ρ σ) {neg : Bool} {t t' e : TypeId} {y z : Operand} {x x' : X} (hop : o.op = .binOp (if neg then .neq else .eql) t y z t') (ht : P.underlying t = some (.pointer e)) {k : Nat} (hk : sizeOf' P e = some (k + 1)) (hx : opX y = some x) (hx' : opX z = some x')
    (h : astep (ACalls P) nm ρ σ K (.eqP neg x x')) : Good P w0 F o a w κ σ nm K := by
  have v1 := hI.opX hx
  have v2 := hI.opX hx'
  simp only [astep] at h
  split at h
  · rename_i r hr
    refine .value hI (v := .bool (r != neg)) ?_ (.bool _) h
    have hq : (∃ p, a.eval y = .pointer p) ∧ (∃ p, a.eval z = .pointer p) ∧ (Op.equalIn (9999 + 1) t (a.eval y) (a.eval z)).run P w = .ok r w := by
      unfold eqPv at hr
      split at hr
      · rename_i h1 h2; rw [h1] at v1; rw [h2] at v2
        simp only [Option.some.injEq] at hr; subst hr
        rw [v1.nilp_inv, v2.nilp_inv]
        exact ⟨⟨_, rfl⟩, ⟨_, rfl⟩, run_ep_nb _ ht _⟩
      · rename_i h1 h2; rw [h1] at v1; rw [h2] at v2
        simp only [Option.some.injEq] at hr; subst hr
        rw [v1.nilp_inv, v2.ptr_inv.1]
        exact ⟨⟨_, rfl⟩, ⟨_, rfl⟩, run_ep_nb _ ht _⟩
      · rename_i h1 h2; rw [h1] at v1; rw [h2] at v2
        simp only [Option.some.injEq] at hr; subst hr
        rw [v1.ptr_inv.1, v2.nilp_inv]
        exact ⟨⟨_, rfl⟩, ⟨_, rfl⟩, run_ep_sn _ ht _⟩
      · rename_i n i m j h1 h2; rw [h1] at v1; rw [h2] at v2
        split at hr
        · rename_i he; subst he
          simp only [Option.some.injEq] at hr; subst hr
          rw [v1.ptr_inv.1, v2.ptr_inv.1]
          refine ⟨⟨_, rfl⟩, ⟨_, rfl⟩, ?_⟩
          exact run_ep_ss _ ht hk _ _ _
        · cases hr
      · cases hr
    obtain ⟨⟨p, hp⟩, ⟨q, hq'⟩, he⟩ := hq
    rw [hp, hq'] at he
    have hb := binOp_eq (neg := neg) (t := t) (u := .pointer p) (v := .pointer q) he (.inr (.inr ⟨_, rfl⟩))
    have hg : (eqGuard (if neg then .neq else .eql) t y z (.pointer p) (.pointer q)).run P w = .ok () w := by cases neg <;> simp [eqGuard]
    simp [execOp, hop, hp, hq', hg, hb]
  · exact h.elim

theorem mn_ok : ∀ {xs : List AV} {us : List Value} {x z : AV} {u : Value}, Vl κ w us xs → V κ w u x → xs.foldlM mn2 x = some z → ∃ v, (us.foldlM (m := Sem) Builtin.min2 u).run P w = .ok v w ∧ V κ w v z
  | _, _, x, z, u, .nil, hu, h => by
    simp only [List.foldlM_nil, Option.pure_def, Option.some.injEq] at h; subst h
    exact ⟨u, by simp, hu⟩
  | _, _, x, z, u, .cons v y vs ys h1 t, hu, h => by
    simp only [List.foldlM_cons] at h
    cases hx : mn2 x y with
    | none => rw [hx] at h; cases h
    | some x' =>
      rw [hx] at h
      unfold mn2 at hx
      split at hx
      · simp only [Option.some.injEq] at hx; subst hx
        obtain ⟨v', g1, g2⟩ := mn_ok t (.int _ _) h
        refine ⟨v', ?_, g2⟩
        rw [hu.int_inv, h1.int_inv]
        simp [Builtin.min2, g1]
      · cases hx
theorem mx_ok : ∀ {xs : List AV} {us : List Value} {x z : AV} {u : Value}, Vl κ w us xs → V κ w u x → xs.foldlM mx2 x = some z → ∃ v, (us.foldlM (m := Sem) Builtin.max2 u).run P w = .ok v w ∧ V κ w v z
  | _, _, x, z, u, .nil, hu, h => by
    simp only [List.foldlM_nil, Option.pure_def, Option.some.injEq] at h; subst h
    exact ⟨u, by simp, hu⟩
  | _, _, x, z, u, .cons v y vs ys h1 t, hu, h => by
    simp only [List.foldlM_cons] at h
    cases hx : mx2 x y with
    | none => rw [hx] at h; cases h
    | some x' =>
      rw [hx] at h
      unfold mx2 at hx
      split at hx
      · simp only [Option.some.injEq] at hx; subst hx
        obtain ⟨v', g1, g2⟩ := mx_ok t (.int _ _) h
        refine ⟨v', ?_, g2⟩
        rw [hu.int_inv, h1.int_inv]
        simp [Builtin.max2, g1]
      · cases hx

theorem ok_mn (hI : Inv w0 F κ a w ρ σ) {c : Call} {xs : List X} (hop : o.op = .call c) (hc : c.callee = .builtin .min) (hx : opXs c.args.toList = some xs)
    (h : astep (ACalls P) nm ρ σ K (.mn xs)) : Good P w0 F o a w κ σ nm K := by
  have v1 := hI.opXs hx
  simp only [astep] at h
  split at h
  · exact h.elim
  · rename_i y r hy
    obtain ⟨z, hz, hk⟩ := opt_some h
    rw [hy] at v1
    generalize hl : List.map a.eval c.args.toList = l at v1
    cases v1 with
    | cons v _ vs _ h1 t =>
      obtain ⟨u, g1, g2⟩ := mn_ok (P := P) t h1 hz
      refine .value hI (v := u) ?_ g2 hk
      exact call_builtin hop hc rfl rfl (fun cs => by rw [hl]; simp [builtin, Builtin.min_, g1])
theorem ok_mx (hI : Inv w0 F κ a w ρ σ) {c : Call} {xs : List X} (hop : o.op = .call c) (hc : c.callee = .builtin .max) (hx : opXs c.args.toList = some xs)
    (h : astep (ACalls P) nm ρ σ K (.mx xs)) : Good P w0 F o a w κ σ nm K := by
  have v1 := hI.opXs hx
  simp only [astep] at h
  split at h
  · exact h.elim
  · rename_i y r hy
    obtain ⟨z, hz, hk⟩ := opt_some h
    rw [hy] at v1
    generalize hl : List.map a.eval c.args.toList = l at v1
    cases v1 with
    | cons v _ vs _ h1 t =>
      obtain ⟨u, g1, g2⟩ := mx_ok (P := P) t h1 hz
      refine .value hI (v := u) ?_ g2 hk
      exact call_builtin hop hc rfl rfl (fun cs => by rw [hl]; simp [builtin, Builtin.max_, g1])

theorem map_erase {α β : Type} (f : α → β) : ∀ (l : List α) (i : Nat), (l.eraseIdx i).map f = (l.map f).eraseIdx i
  | [], i => by simp
  | x :: l, 0 => rfl
  | x :: l, i + 1 => by simp [map_erase f l i]

theorem ok_del (hI : Inv w0 F κ a w ρ σ) {c : Call} {t kt e : TypeId} {ts : List TypeId} {y y' : Operand} {x x' : X} {kk : Nat} (hop : o.op = .call c) (hc : c.callee = .builtin .delete) (ha : c.args.toList = [y, y']) (ht : c.argTypes.toList = t :: ts)
    (hu : P.underlying t = some (.map kt e)) (hk : keyKind P kt = some kk) (hx : opX y = some x) (hx' : opX y' = some x')
    (h : astep (ACalls P) nm ρ σ K (.del kk x x')) : Good P w0 F o a w κ σ nm K := by
  have v1 := hI.opX hx
  have v2 := hI.opX hx'
  simp only [astep] at h
  split at h
  · rename_i n hn
    rw [hn] at v1
    obtain ⟨e1, hd⟩ := v1.map_inv
    split at h
    · rename_i es ts cl hr
      obtain ⟨_, ents, g1, g2, g3, g4, g5, g6⟩ := hI.r.own n _ hr
      split at h
      · rename_i hs
        obtain ⟨d, hdd, hds⟩ := kind_shape hk hs
        have hg := run_getMap (P := P) g1
        split at h
        · rename_i r hf
          rcases find_ok v2 hds 0 g2 hf with ⟨q, _⟩ | ⟨v', j, u, e', q, g⟩
          · cases q
          · have hjl : j < ents.length := (List.getElem?_eq_some_iff.1 g.at_).1
            obtain ⟨w', r1, r2, r3⟩ := run_setMap (P := P) g1 (.map ⟨ents.eraseIdx j⟩ cl)
            have hsub : ∀ t ∈ ts.eraseIdx j, t ∈ ts := fun t ht => List.mem_of_mem_eraseIdx ht
            obtain ⟨ee, hr'⟩ := hI.r.set_map hr r2 r3.block r3.size (g2.erase j) (by rw [map_erase, g4]) (g5.sublist (List.eraseIdx_sublist _ _)) (fun t ht => g6 t (hsub t ht))
            rw [g.del, g.idx] at h
            refine .value' (v := .tuple #[]) (.own ee rfl hr' (hI.fr.owned hI.r rfl hr r3.os r3.tape r3.output r3.size r3.block) rfl) ?_ (.tup [] [] .nil) h
            have hfk := run_findKey (P := P) (w := w) hdd g.now
            rw [Nat.zero_add] at hfk
            have her : (⟨ents⟩ : Array MapEntry).eraseIdxIfInBounds j = ⟨ents.eraseIdx j⟩ := by
              apply Array.ext'
              simp [Array.eraseIdxIfInBounds, hjl]
            exact call_builtin hop hc ha ht (fun cs => by simp [builtin, Builtin.delete_, e1, underlying, hu, hg, run_checkKey hk, hfk, r1])
        · rename_i hf
          rcases find_ok v2 hds 0 g2 hf with ⟨_, q1, _, q2⟩ | ⟨v', j, u, e', q, g⟩
          · obtain ⟨w', r1, r2, r3⟩ := run_setMap (P := P) g1 (.map ⟨ents⟩ cl)
            obtain ⟨ee, hr'⟩ := hI.r.set_map hr r2 r3.block r3.size g2 g4 g5 g6
            rw [St.set_self hr] at hr'
            refine .value' (v := .tuple #[]) (.own ee rfl hr' (hI.fr.owned hI.r rfl hr r3.os r3.tape r3.output r3.size r3.block) rfl) ?_ (.tup [] [] .nil) h
            have hfk := run_findKey (P := P) (w := w) hdd q1
            exact call_builtin hop hc ha ht (fun cs => by simp [builtin, Builtin.delete_, e1, underlying, hu, hg, run_checkKey hk, hfk, r1])
          · cases q
        · exact h.elim
      · exact h.elim
    · exact h.elim
  · exact h.elim

/-! ### Calls -/
theorem run_callFunc {f : Nat} (h : Enters P f) (args : Array Value) : (callFunc f args).run P w = .ok (.enter f args) w := by
  obtain ⟨fn, h1, h2, h3⟩ := h
  simp only [callFunc, Sem.run_bind, run_program, Result.andThen_ok, h1]
  have h3' : ¬ (fn.name == "runtime.NumGoroutine") = true := by rw [h3]; simp
  have h2' : ¬ fn.body.isNone = true := by rw [h2]; simp
  rw [if_neg h3', if_neg h2']
  simp

theorem good_enter (hI : Inv w0 F κ a w ρ σ) {f : Nat} {vs : List Value} {xs : List AV} (he : (execOp a.eval o).run P w = .ok (.enter f ⟨vs⟩) w) (hv : Vl κ w vs xs) (h : ACalls P f xs σ K) : Good P w0 F o a w κ σ nm K := by
  intro next Q hn
  unfold Oper.wp
  rw [he]
  simp only [Oper.upon]
  refine (h.2 κ w vs _ F hI.r hv).mono ?_
  rintro e w' ⟨v, x, κ', σ', rfl, h2, h3, h4, h5, h6, h7, h8⟩
  exact hn v w' κ' x σ' ⟨h2, fun n hd => (h3 n hd).imp id .inr, hI.r.widen hI.hB h4, hI.fr.widen hI.r rfl h5, h6⟩ h7 h8

theorem Vl.app : ∀ {us vs : List Value} {xs ys : List AV}, Vl κ w us xs → Vl κ w vs ys → Vl κ w (us ++ vs) (xs ++ ys)
  | _, _, _, _, .nil, k => by simpa using k
  | _, _, _, _, .cons v x _ _ h t, k => by simpa using Vl.cons v x _ _ h (Vl.app t k)

theorem ok_call (hI : Inv w0 F κ a w ρ σ) {c : Call} {f : Nat} {xs : List X} (hop : o.op = .call c) (hc : c.callee = .value (.func f)) (hx : opXs c.args.toList = some xs)
    (h : ACalls P f (xs.map (ev ρ)) σ K) : Good P w0 F o a w κ σ nm K := by
  refine good_enter hI (f := f) (vs := c.args.toList.map a.eval) ?_ (hI.opXs hx) h
  obtain ⟨callee, ⟨al⟩, ts⟩ := c
  simp only at hc; subst hc
  simp [execOp, hop, resolve, Act.eval, Deferred.ofValue, invoke, run_callFunc h.1]

theorem ok_callv (hI : Inv w0 F κ a w ρ σ) {c : Call} {y : Operand} {x : X} {f : Nat} {fi ca : List AV} {xs : List X} (hop : o.op = .call c) (hc : c.callee = .value y) (hy : opX y = some x) (hx : opXs c.args.toList = some xs) (he : ev ρ x = .func f fi ca)
    (h : ACalls P f (fi ++ xs.map (ev ρ) ++ ca) σ K) : Good P w0 F o a w κ σ nm K := by
  have v1 := hI.opX hy
  rw [he] at v1
  obtain ⟨p, q, e1, hp, hq⟩ := v1.func_inv
  refine good_enter hI (f := f) (vs := p ++ c.args.toList.map a.eval ++ q) ?_ ((hp.app (hI.opXs hx)).app hq) h
  obtain ⟨callee, ⟨al⟩, ts⟩ := c
  simp only at hc; subst hc
  simp [execOp, hop, resolve, e1, Deferred.ofValue, invoke, run_callFunc h.1]
end
end Go.VL
