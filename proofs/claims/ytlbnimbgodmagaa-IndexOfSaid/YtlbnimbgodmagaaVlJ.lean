/- The value logic, part J: slices that are cut, and grown. -/
import Derived.Test.YtlbnimbgodmagaaVlH
namespace Go.VL
section
variable {P : Program} {w0 : World} {F : Nat → Prop} {o : Oper} {a : Act} {w : World} {κ : Kx} {ρ : List AV} {σ : St} {nm : Nat} {K : AV → St → Prop}

theorem flat_take {k : Nat} : ∀ {xs : List AV} (n : Nat), xs.all (AV.fits k) = true → (xs.take n).flatMap AV.cells = (xs.flatMap AV.cells).take (n * k)
  | [], n, _ => by simp
  | x :: xs, 0, _ => by simp
  | x :: xs, n + 1, h => by
    simp only [List.all_cons, Bool.and_eq_true] at h
    simp only [List.take_succ_cons, List.flatMap_cons, flat_take n h.2]
    have e : (n + 1) * k = x.cells.length + n * k := by rw [(fits_iff h.1).2.1, Nat.add_mul]; omega
    rw [e, List.take_length_add_append]
theorem flat_drop {k : Nat} : ∀ {xs : List AV} (n : Nat), xs.all (AV.fits k) = true → (xs.drop n).flatMap AV.cells = (xs.flatMap AV.cells).drop (n * k)
  | [], n, _ => by simp
  | x :: xs, 0, _ => by simp
  | x :: xs, n + 1, h => by
    simp only [List.all_cons, Bool.and_eq_true] at h
    simp only [List.drop_succ_cons, List.flatMap_cons, flat_drop n h.2]
    have e : (n + 1) * k = x.cells.length + n * k := by rw [(fits_iff h.1).2.1, Nat.add_mul]; omega
    rw [e, List.drop_length_add_append]

theorem all_take {k : Nat} {xs : List AV} (n : Nat) (h : xs.all (AV.fits k) = true) : (xs.take n).all (AV.fits k) = true :=
  List.all_eq_true.2 fun x hx => List.all_eq_true.1 h x (List.mem_of_mem_take hx)
theorem all_drop {k : Nat} {xs : List AV} (n : Nat) (h : xs.all (AV.fits k) = true) : (xs.drop n).all (AV.fits k) = true :=
  List.all_eq_true.2 fun x hx => List.all_eq_true.1 h x (List.mem_of_mem_drop hx)
theorem all_cl {k : Nat} {xs : List AV} (h : xs.all (AV.fits k) = true) : ∀ x ∈ xs, x.cells.length = k := fun x hx => (fits_iff (List.all_eq_true.1 h x hx)).2.1

theorem Vs.take {b i : Nat} {cs : List AV} (h : Vs κ w b i cs) (n : Nat) : Vs κ w b i (cs.take n) := by
  have : Vs κ w b i (cs.take n ++ cs.drop n) := by rwa [List.take_append_drop]
  exact this.left _

theorem ok_slice (hI : Inv w0 F κ a w ρ σ) {t e : TypeId} {y : Operand} {lo hi : Option Operand} {x : X} {lo' hi' : Option X} {k : Nat} (hop : o.op = .slice t y lo hi none) (hu : P.underlying t = some (.slice e)) (hk : sizeOf' P e = some k)
    (hx : opX y = some x) (hlo : opXo lo = some lo') (hhi : opXo hi = some hi') (h : astep (ACalls P) nm ρ σ K (.slice k x lo' hi')) : Good P w0 F o a w κ σ nm K := by
  have v1 := hI.opX hx
  have hrun : ∀ (A : Option Addr) (n c : Nat) (l hh : Int), a.eval y = .slice A n c → idx ρ 0 lo' = some l → idx ρ n hi' = some hh → 0 ≤ l → l ≤ hh → hh ≤ c →
      (execOp a.eval o).run P w = .ok (.value (.slice (if c = l.toNat then A else A.map (·.add (l.toNat * k))) (hh.toNat - l.toNat) (c - l.toNat))) w := by
    intro A n c l hh e1 h1 h2 h3 h4 h5
    have hb := run_bounds (P := P) hI hlo hhi true (len := n) (cap := c) h1 h2 h3 h4 h5
    have hm : (none : Option Operand).map a.eval = none := rfl
    simp [execOp, hop, e1, Instr.sliceAt, Instr.slice, underlying, hu, hb, run_sizeOf hk]
  simp only [astep] at h
  split at h
  · rename_i xs g hn
    rw [hn] at v1
    split at h
    · rename_i l hh h1 h2
      split at h
      · rename_i hc
        obtain ⟨c0, c1, c2, c3⟩ := hc
        have hlenT : ((xs.drop l.toNat).take (hh - l).toNat).length = hh.toNat - l.toNat := by
          rw [List.length_take, List.length_drop]; omega
        generalize hy : a.eval y = vy at v1
        cases v1 with
        | slnil g hg =>
          have hh0 : hh = 0 := by simp only [List.length_nil] at c2; omega
          have hl0 : l = 0 := by omega
          subst hh0; subst hl0
          refine .value hI (hrun none 0 0 0 0 hy h1 h2 (Int.le_refl _) (Int.le_refl _) (Int.le_refl _)) ?_ h
          rcases hg with rfl | rfl | rfl <;> simp <;> exact .slnil _ (by simp)
        | slz A gz hgz =>
          have hh0 : hh = 0 := by simp only [List.length_nil] at c2; omega
          have hl0 : l = 0 := by omega
          subst hh0; subst hl0
          refine .value hI (hrun (some A) 0 0 0 0 hy h1 h2 (Int.le_refl _) (Int.le_refl _) (Int.le_refl _)) ?_ h
          rcases hgz with rfl | rfl <;> simp <;> exact .slz A _ (by simp)
        | sl b i cap kq xs' hkq hcap hvs =>
          refine .value hI (hrun _ _ _ l hh hy h1 h2 c0 c1 (by omega)) ?_ h
          have hg : (if hh = (xs.length : Int) ∧ (l = 0 ∨ l < hh) then Ver.none else .none) = Ver.none := by split <;> rfl
          rw [hg]
          by_cases hcl : cap = l.toNat
          · have he : (xs.drop l.toNat).take (hh - l).toNat = [] := by
              apply List.eq_nil_of_length_eq_zero; rw [hlenT]; omega
            rw [he, if_pos hcl, show hh.toNat - l.toNat = ([] : List AV).length by simp; omega]
            exact .sl b i _ k [] (by simp) (by simp) (.nil _ _)
          · rw [if_neg hcl, Option.map_some, add_spot, ← hlenT]
            refine .sl b _ _ k _ (fun x hx => all_cl c3 x (List.mem_of_mem_drop (List.mem_of_mem_take hx))) (by rw [hlenT]; omega) ?_
            rw [flat_take _ (all_drop _ c3), flat_drop _ c3]
            refine Vs.take (hvs.drop _ ?_) _
            rw [flat_len c3]; exact Nat.mul_le_mul_right _ (by omega)
        | tip i cap gg xs' hkq hcap hgd he1 he2 hvs =>
          refine .value hI (hrun _ _ _ l hh hy h1 h2 c0 c1 (by omega)) ?_ h
          by_cases hg : hh = (xs.length : Int) ∧ (l = 0 ∨ l < hh)
          · rw [if_pos hg]
            have hkk : l.toNat * k = l.toNat * κ.ξ gg := by
              rcases hg.2 with hz | hz
              · subst hz; simp
              · congr 1
                have : 0 < xs.length := by omega
                obtain ⟨x0, hx0⟩ : ∃ x0, x0 ∈ xs := ⟨xs[0], List.getElem_mem _⟩
                rw [← all_cl c3 x0 hx0, hkq x0 hx0]
            have haddr : (if cap = l.toNat then some (⟨κ.φ gg, i, none⟩ : Addr) else (some (⟨κ.φ gg, i, none⟩ : Addr)).map (·.add (l.toNat * k))) = some ⟨κ.φ gg, i + l.toNat * κ.ξ gg, none⟩ := by
              split
              · rename_i hcl
                have : l.toNat = 0 := by rcases hg.2 with hz | hz <;> omega
                rw [this]; simp
              · rw [Option.map_some, add_spot, hkk]
            rw [haddr, ← hlenT]
            have hl1 : l.toNat ≤ xs.length := by omega
            have hmul : xs.length * κ.ξ gg = l.toNat * κ.ξ gg + (xs.length - l.toNat) * κ.ξ gg := by rw [← Nat.add_mul]; congr 1; omega
            have hmulc : cap * κ.ξ gg = l.toNat * κ.ξ gg + (cap - l.toNat) * κ.ξ gg := by rw [← Nat.add_mul]; congr 1; omega
            refine .tip _ _ gg _ (fun x hx => hkq x (List.mem_of_mem_drop (List.mem_of_mem_take hx))) (by rw [hlenT]; omega) hgd ?_ ?_ ?_
            · rw [hlenT, he1, hmul, show hh.toNat = xs.length by omega]; omega
            · rw [he2, hmulc]; omega
            · rw [flat_take _ (all_drop _ c3), flat_drop _ c3, hkk]
              refine Vs.take (hvs.drop _ ?_) _
              rw [flat_len c3, ← hkk]; exact Nat.mul_le_mul_right _ hl1
          · rw [if_neg hg]
            by_cases hcl : cap = l.toNat
            · have he : (xs.drop l.toNat).take (hh - l).toNat = [] := by
                apply List.eq_nil_of_length_eq_zero; rw [hlenT]; omega
              rw [he, if_pos hcl, show hh.toNat - l.toNat = ([] : List AV).length by simp; omega]
              exact .sl _ i _ k [] (by simp) (by simp) (.nil _ _)
            · rw [if_neg hcl, Option.map_some, add_spot, ← hlenT]
              refine .sl _ _ _ k _ (fun x hx => all_cl c3 x (List.mem_of_mem_drop (List.mem_of_mem_take hx))) (by rw [hlenT]; omega) ?_
              rw [flat_take _ (all_drop _ c3), flat_drop _ c3]
              refine Vs.take (hvs.drop _ ?_) _
              rw [flat_len c3]; exact Nat.mul_le_mul_right _ (by omega)
      · exact h.elim
    · exact h.elim
  · rename_i n off len hn
    rw [hn] at v1
    obtain ⟨cap, e1, hcap, hd⟩ := v1.ref_inv
    split at h
    · rename_i l hh h1 h2
      split at h
      · rename_i hc
        obtain ⟨c0, c1, c2⟩ := hc
        refine .value hI (hrun _ _ _ l hh e1 h1 h2 c0 c1 (by omega)) ?_ h
        by_cases hlh : l = hh
        · rw [if_pos hlh, show hh.toNat - l.toNat = ([] : List AV).length by simp; omega]
          split
          · exact .sl _ off _ k [] (by simp) (by simp) (.nil _ _)
          · rw [Option.map_some, add_spot]; exact .sl _ _ _ k [] (by simp) (by simp) (.nil _ _)
        · rw [if_neg hlh, if_neg (by omega), Option.map_some, add_spot, show (hh - l).toNat = hh.toNat - l.toNat by omega]
          exact .ref n _ _ _ hd (by omega)
      · exact h.elim
    · exact h.elim
  · rename_i g n hn
    rw [hn] at v1
    obtain ⟨o', cap, e1, hd, hcap, hp, hx'⟩ := v1.room_inv
    split at h
    · rename_i l hh h1 h2
      split at h
      · rename_i hc
        obtain ⟨rfl, rfl⟩ := hc
        refine .value hI (hrun _ _ _ 0 0 e1 h1 h2 (Int.le_refl _) (Int.le_refl _) (by omega)) ?_ h
        have ha : (if cap = Int.toNat 0 then some (⟨κ.φ g, o', none⟩ : Addr) else (some (⟨κ.φ g, o', none⟩ : Addr)).map (·.add (Int.toNat 0 * k))) = some ⟨κ.φ g, o', none⟩ := by
          split
          · rfl
          · rw [Option.map_some, add_spot]; simp
        rw [ha]
        exact .tip o' cap g [] (by simp) (Nat.zero_le _) hd (by simpa using hp) hx' (.nil _ _)
      · exact h.elim
    · exact h.elim
  · exact h.elim

theorem ok_sslice (hI : Inv w0 F κ a w ρ σ) {t : TypeId} {y : Operand} {lo hi : Option Operand} {x : X} {lo' hi' : Option X} (hop : o.op = .slice t y lo hi none) (hu : P.underlying t = some .string)
    (hx : opX y = some x) (hlo : opXo lo = some lo') (hhi : opXo hi = some hi') (h : astep (ACalls P) nm ρ σ K (.sslice x lo' hi')) : Good P w0 F o a w κ σ nm K := by
  have v1 := hI.opX hx
  simp only [astep] at h
  split at h
  · rename_i s hn
    rw [hn] at v1
    split at h
    · rename_i l hh h1 h2
      split at h
      · rename_i hc
        obtain ⟨c0, c1, c2⟩ := hc
        have hb := run_bounds (P := P) hI hlo hhi false (len := s.size) (cap := s.size) h1 h2 c0 c1 c2
        refine .value hI (v := .string (s.extract l.toNat hh.toNat)) ?_ (.str _) h
        simp [execOp, hop, v1.str_inv, Instr.sliceAt, Instr.slice, underlying, hu, hb]
      · exact h.elim
    · exact h.elim
  · exact h.elim

theorem ok_idxS (hI : Inv w0 F κ a w ρ σ) {t : TypeId} {y z : Operand} {x x' : X} (hop : o.op = .index t y z) (hu : P.underlying t = some .string) (hx : opX y = some x) (hx' : opX z = some x')
    (h : astep (ACalls P) nm ρ σ K (.idxS x x')) : Good P w0 F o a w κ σ nm K := by
  have v1 := hI.opX hx
  have v2 := hI.opX hx'
  simp only [astep] at h
  split at h
  · rename_i s k n h1 h2
    rw [h1] at v1; rw [h2] at v2
    split at h
    · rename_i hb
      split at h
      · rename_i b hbb
        refine .value hI (v := .int .u8 b.toNat) ?_ (.int _ _) h
        have hlt : n.toNat < s.size := by omega
        have hs : s[n.toNat]? = some b := by
          have hd : s.data[n.toNat]? = some b := by simpa using hbb
          rw [← hd]
          obtain ⟨d⟩ := s
          rfl
        simp [execOp, hop, v1.str_inv, v2.int_inv, Instr.index, asIntOf, underlying, hu, hb.1, hs]
      · exact h.elim
    · exact h.elim
  · exact h.elim
end
end Go.VL
