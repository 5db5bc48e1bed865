/- The value logic, part F: operations that leave memory alone. -/
import Derived.Test.YtlbnimbgodmagaaVlE
namespace Go.VL
section
variable {P : Program} {w0 : World} {F : Nat → Prop} {o : Oper} {a : Act} {w : World} {κ : Kx} {ρ : List AV} {σ : St} {nm : Nat} {K : AV → St → Prop}

theorem opt_some {α : Type} {K : α → Prop} {z : Option α} (h : opt K z) : ∃ v, z = some v ∧ K v := by
  cases z with
  | none => exact h.elim
  | some v => exact ⟨v, rfl, h⟩

theorem ok_mv (hI : Inv w0 F κ a w ρ σ) {y : Operand} {x : X} (hop : o.op = .move y ∨ o.op = .assign y) (hx : opX y = some x) (h : K (ev ρ x) σ) : Good P w0 F o a w κ σ nm K :=
  .value hI (by rcases hop with hop | hop <;> simp [execOp, hop]) (hI.opX hx) h

theorem ok_pick (hI : Inv w0 F κ a w ρ σ) {c y z : Operand} {c' y' z' : X} (hop : o.op = .pick c y z) (hc : opX c = some c') (hy : opX y = some y') (hz : opX z = some z')
    (h : astep (ACalls P) nm ρ σ K (.pick c' y' z')) : Good P w0 F o a w κ σ nm K := by
  have vc := hI.opX hc
  simp only [astep] at h
  split at h
  · rename_i t ht
    rw [ht] at vc
    cases hv : a.eval c <;> rw [hv] at vc <;> cases vc
    refine .value hI (v := if t then a.eval y else a.eval z) (by cases t <;> simp [execOp, hop, hv, asBool]) ?_ h
    cases t
    · exact hI.opX hz
    · exact hI.opX hy
  · exact h.elim

theorem ldc_drop {cs : List AV} {off : Nat} {k : Option Nat} {v : AV} (h : ldc cs off k = some v) : ldc (cs.drop off) 0 k = some v := by
  cases k with
  | none => simpa [ldc] using h
  | some n =>
    simp only [ldc] at h ⊢
    split at h
    · rename_i hn
      rw [if_pos (by simp only [List.length_drop]; omega)]
      simpa using h
    · cases h

theorem ok_load (hI : Inv w0 F κ a w ρ σ) {t : TypeId} {y : Operand} {x : X} {k : Option Nat} (hop : o.op = .load t y) (hk : kindOf P t = some k) (hx : opX y = some x)
    (h : astep (ACalls P) nm ρ σ K (.load k x)) : Good P w0 F o a w κ σ nm K := by
  have vx := hI.opX hx
  simp only [astep] at h
  split at h
  · rename_i n off hn
    rw [hn] at vx
    obtain ⟨hy, hd⟩ := vx.ptr_inv
    split at h
    · rename_i cs hr
      obtain ⟨v, hv, hK⟩ := opt_some h
      have hrow := (Row.of_own (hI.r.own n _ hr).2).drop off
      rw [Nat.zero_add] at hrow
      obtain ⟨u, hu, hV⟩ := run_loadVar (P := P) (w := w) hk hrow (ldc_drop hv)
      exact .value hI (by simp [execOp, hop, hy, Instr.loadAt, Instr.sureAddr, hu]) hV hK
    · exact h.elim
  · rename_i cs hn
    rw [hn] at vx
    obtain ⟨v, hv, hK⟩ := opt_some h
    obtain ⟨b, i, hy, hh⟩ := vx.eptr_inv
    obtain ⟨u, hu, hV⟩ := run_loadVar (P := P) (w := w) hk (Row.of_vs hh) hv
    exact .value hI (by simp [execOp, hop, hy, Instr.loadAt, Instr.sureAddr, hu]) hV hK
  · exact h.elim

theorem ok_nilCheck (hI : Inv w0 F κ a w ρ σ) {y : Operand} {x : X} (hop : o.op = .nilCheck y) (hx : opX y = some x)
    (h : astep (ACalls P) nm ρ σ K (.nilCheck x)) : Good P w0 F o a w κ σ nm K := by
  have vx := hI.opX hx
  simp only [astep] at h
  split at h
  · rename_i n off hn
    have vx' := vx
    rw [hn] at vx
    obtain ⟨hy, hd⟩ := vx.ptr_inv
    exact .value hI (by simp [execOp, hop, hy]) vx (by rw [hy] at *; exact h)
  · rename_i cs hn
    rw [hn] at vx
    obtain ⟨b, i, hy, hh⟩ := vx.eptr_inv
    exact .value hI (by simp [execOp, hop, hy]) vx (by rw [hy] at *; exact h)
  · exact h.elim

theorem run_eqGuard_int (op : BinOp) (t : TypeId) (x y : Operand) (k k' : IntKind) (m n : Int) : (eqGuard op t x y (.int k m) (.int k' n)).run P w = .ok () w := by
  unfold eqGuard; split <;> rfl
theorem run_eqGuard_str (op : BinOp) (t : TypeId) (x y : Operand) (m n : ByteArray) : (eqGuard op t x y (.string m) (.string n)).run P w = .ok () w := by
  unfold eqGuard; split <;> rfl
theorem run_eqGuard_bool (op : BinOp) (t : TypeId) (x y : Operand) (m n : Bool) : (eqGuard op t x y (.bool m) (.bool n)).run P w = .ok () w := by
  unfold eqGuard; split <;> rfl

def scal : AV → Value
  | .int k n => .int k n
  | .bool b => .bool b
  | .str s => .string s
  | _ => undef

theorem binv_ok {op : BinOp} {t : TypeId} {k k' : IntKind} {m n : Int} {z : AV} (h : binv op k m k' n = some z) : (binOp op t (.int k m) (.int k' n)).run P w = .ok (scal z) w ∧ V κ w (scal z) z := by
  unfold binv at h
  split at h
  · split at h
    · cases h
    · rename_i h0
      simp only [Option.some.injEq] at h; subst h
      exact ⟨by simp [binOp, Op.shift, h0, scal], .int _ _⟩
  · split at h
    · cases h
    · rename_i h0
      simp only [Option.some.injEq] at h; subst h
      exact ⟨by simp [binOp, Op.shift, h0, scal], .int _ _⟩
  · rename_i e1 e2
    split at h
    · rename_i hk
      subst hk
      split at h <;> (try split at h) <;> first
        | (cases h; done)
        | (simp only [Option.some.injEq] at h; subst h; exact ⟨by simp_all [binOp, Op.intArith, Op.intDiv, Op.intBits, Op.intCmp, scal], by constructor⟩)
    · cases h

theorem sbinv_ok {op : BinOp} {t : TypeId} {m n : ByteArray} {z : AV} (h : sbinv op m n = some z) : (binOp op t (.string m) (.string n)).run P w = .ok (scal z) w ∧ V κ w (scal z) z := by
  unfold sbinv at h
  split at h
  · split at h
    · cases h
    · rename_i h0
      simp only [Option.some.injEq] at h; subst h
      exact ⟨by simp only [binOp, Op.stringOp, if_neg h0]; rfl, .str _⟩
  all_goals first
    | (cases h; done)
    | (simp only [Option.some.injEq] at h; subst h; exact ⟨by simp [binOp, Op.stringOp, scal, bl_beq], by constructor⟩)

theorem ok_bin (hI : Inv w0 F κ a w ρ σ) {op : BinOp} {t t' : TypeId} {y z : Operand} {x x' : X} {k : IntKind} (hop : o.op = .binOp op t y z t') (hx : opX y = some x) (hx' : opX z = some x')
    (h : astep (ACalls P) nm ρ σ K (.bin op k x x')) : Good P w0 F o a w κ σ nm K := by
  have v1 := hI.opX hx
  have v2 := hI.opX hx'
  simp only [astep] at h
  split at h
  · rename_i k1 m k2 n h1 h2
    rw [h1] at v1; rw [h2] at v2
    have e1 := v1.int_inv
    have e2 := v2.int_inv
    split at h
    · rename_i hk
      subst hk
      obtain ⟨v, hv, hK⟩ := opt_some h
      obtain ⟨hu, hV⟩ := binv_ok (P := P) (w := w) (κ := κ) (t := t) hv
      exact .value hI (by simp [execOp, hop, e1, e2, run_eqGuard_int, hu]) hV hK
    · exact h.elim
  · exact h.elim

theorem ok_sbin (hI : Inv w0 F κ a w ρ σ) {op : BinOp} {t t' : TypeId} {y z : Operand} {x x' : X} (hop : o.op = .binOp op t y z t') (hx : opX y = some x) (hx' : opX z = some x')
    (h : astep (ACalls P) nm ρ σ K (.sbin op x x')) : Good P w0 F o a w κ σ nm K := by
  have v1 := hI.opX hx
  have v2 := hI.opX hx'
  simp only [astep] at h
  split at h
  · rename_i m n h1 h2
    rw [h1] at v1; rw [h2] at v2
    have e1 := v1.str_inv
    have e2 := v2.str_inv
    obtain ⟨v, hv, hK⟩ := opt_some h
    obtain ⟨hu, hV⟩ := sbinv_ok (P := P) (w := w) (κ := κ) (t := t) hv
    exact .value hI (by simp [execOp, hop, e1, e2, run_eqGuard_str, hu]) hV hK
  · exact h.elim

theorem run_equalIn_bool (d : Nat) {t : TypeId} (ht : P.underlying t = some .bool) (m n : Bool) : (Op.equalIn (d + 1) t (.bool m) (.bool n)).run P w = .ok (m == n) w := by
  simp [Op.equalIn, underlying, ht]
theorem run_equal_bool {t : TypeId} (ht : P.underlying t = some .bool) (m n : Bool) : (Op.equal t (.bool m) (.bool n)).run P w = .ok (m == n) w := run_equalIn_bool 9999 ht m n

theorem ok_bbin (hI : Inv w0 F κ a w ρ σ) {neg : Bool} {t t' : TypeId} {y z : Operand} {x x' : X} (hop : o.op = .binOp (if neg then .neq else .eql) t y z t') (ht : P.underlying t = some .bool) (hx : opX y = some x) (hx' : opX z = some x')
    (h : astep (ACalls P) nm ρ σ K (.bbin neg x x')) : Good P w0 F o a w κ σ nm K := by
  have v1 := hI.opX hx
  have v2 := hI.opX hx'
  simp only [astep] at h
  split at h
  · rename_i m n h1 h2
    rw [h1] at v1; rw [h2] at v2
    have e1 := v1.bool_inv
    have e2 := v2.bool_inv
    refine .value hI (v := .bool ((m == n) != neg)) ?_ (.bool _) h
    cases neg <;> simp [execOp, hop, e1, e2, run_eqGuard_bool, binOp, run_equal_bool ht]
  · exact h.elim

theorem ok_not (hI : Inv w0 F κ a w ρ σ) {t : TypeId} {y : Operand} {x : X} (hop : o.op = .unOp .not t y) (hx : opX y = some x)
    (h : astep (ACalls P) nm ρ σ K (.not x)) : Good P w0 F o a w κ σ nm K := by
  have v1 := hI.opX hx
  simp only [astep] at h
  split at h
  · rename_i b hb
    rw [hb] at v1
    exact .value hI (by simp [execOp, hop, v1.bool_inv, Op.unary]) (.bool _) h
  · exact h.elim

theorem ok_un (hI : Inv w0 F κ a w ρ σ) {op : UnOp} {t : TypeId} {y : Operand} {x : X} {k : IntKind} (hop : o.op = .unOp op t y) (hx : opX y = some x)
    (h : astep (ACalls P) nm ρ σ K (.un op k x)) : Good P w0 F o a w κ σ nm K := by
  have v1 := hI.opX hx
  simp only [astep] at h
  split at h
  · rename_i k1 m hb
    rw [hb] at v1
    have e1 := v1.int_inv
    split at h
    · rename_i hk
      subst hk
      split at h
      · exact .value hI (v := .int k1 (k1.wrap (0 - m))) (by simp [execOp, hop, e1, Op.unary, Op.intArith]) (.int _ _) h
      · obtain ⟨v, hv, hK⟩ := opt_some h
        obtain ⟨hu, hV⟩ := binv_ok (P := P) (w := w) (κ := κ) (t := 0) hv
        refine .value hI (v := scal v) ?_ hV hK
        simp only [binOp, if_neg (by simp : ¬ (k1 ≠ k1))] at hu
        simp [execOp, hop, e1, Op.unary, hu]
      · exact h.elim
    · exact h.elim
  · exact h.elim

theorem ok_conv (hI : Inv w0 F κ a w ρ σ) {s d : TypeId} {y : Operand} {x : X} {k k' : IntKind} (hop : o.op = .convert s d y) (hs : P.underlying s = some (.int k')) (hd : P.underlying d = some (.int k)) (hx : opX y = some x)
    (h : astep (ACalls P) nm ρ σ K (.conv k x)) : Good P w0 F o a w κ σ nm K := by
  have v1 := hI.opX hx
  simp only [astep] at h
  split at h
  · rename_i k1 m hb
    rw [hb] at v1
    exact .value hI (by simp [execOp, hop, v1.int_inv, convert, underlying, hs, hd, Conv.intToInt]) (.int _ _) h
  · exact h.elim

theorem ok_mkI (hI : Inv w0 F κ a w ρ σ) {t : TypeId} {y : Operand} {x : X} {d : TypeDesc} (hop : o.op = .makeInterface t y) (ht : P.underlying t = some d) (hd : ∀ ms, d ≠ .interface ms) (hx : opX y = some x)
    (h : astep (ACalls P) nm ρ σ K (.mkI t x)) : Good P w0 F o a w κ σ nm K := by
  refine .value hI (v := .iface t (a.eval y)) ?_ (.iface _ _ _ (hI.opX hx)) h
  cases d <;> first | (exact absurd rfl (hd _)) | simp [execOp, hop, Instr.makeInterface, underlying, ht]

theorem ok_mkF (hI : Inv w0 F κ a w ρ σ) {f : Nat} {p q : Array Operand} {x y : List X} (hop : o.op = .makeFunc (.func f) p q) (hx : opXs p.toList = some x) (hy : opXs q.toList = some y)
    (h : astep (ACalls P) nm ρ σ K (.mkF f x y)) : Good P w0 F o a w κ σ nm K := by
  have v1 := hI.opXs hx
  have v2 := hI.opXs hy
  refine .value hI (v := .func (.func f) ⟨p.toList.map a.eval⟩ ⟨q.toList.map a.eval⟩) ?_ (.func _ _ _ _ _ v1 v2) h
  obtain ⟨p⟩ := p
  obtain ⟨q⟩ := q
  simp [execOp, hop, Instr.makeFunc]

theorem ok_ext (hI : Inv w0 F κ a w ρ σ) {y : Operand} {x : X} {i : Nat} (hop : o.op = .extract y i) (hx : opX y = some x)
    (h : astep (ACalls P) nm ρ σ K (.ext x i)) : Good P w0 F o a w κ σ nm K := by
  have v1 := hI.opX hx
  simp only [astep] at h
  split at h
  · rename_i xs hb
    rw [hb] at v1
    obtain ⟨us, e1, hl⟩ := v1.tup_inv
    obtain ⟨v, hv, hK⟩ := opt_some h
    obtain ⟨u, hu, hV⟩ := hl.get? i v hv
    exact .value hI (v := u) (by simp [execOp, hop, e1, Instr.extract, hu]) hV hK
  · exact h.elim

theorem fieldOf_ok {s : TypeId} {f : Nat} {fd : Field} (h : fieldOf P s f = some fd) : ∃ fs, P.underlying s = some (.struct fs) ∧ fs[f]? = some fd := by
  unfold fieldOf at h
  split at h
  · rename_i fs hs; exact ⟨fs, hs, h⟩
  · cases h

theorem run_sizeOf {t : TypeId} {k : Nat} (h : sizeOf' P t = some k) : (sizeOf t).run P w = .ok k w := by
  unfold sizeOf' at h
  rw [Option.map_eq_some_iff] at h
  obtain ⟨i, hi, rfl⟩ := h
  simp [sizeOf, typeInfo, hi]

theorem ok_faddr (hI : Inv w0 F κ a w ρ σ) {s : TypeId} {y : Operand} {x : X} {f k : Nat} {fd : Field} (hop : o.op = .fieldAddr s y f) (hf : fieldOf P s f = some fd) (hk : sizeOf' P fd.type = some (k + 1)) (hx : opX y = some x)
    (h : astep (ACalls P) nm ρ σ K (.faddr fd.offset x)) : Good P w0 F o a w κ σ nm K := by
  have v1 := hI.opX hx
  obtain ⟨fs, hs, hfs⟩ := fieldOf_ok hf
  simp only [astep] at h
  split at h
  · rename_i n off hn
    rw [hn] at v1
    obtain ⟨e1, hd⟩ := v1.ptr_inv
    refine .value hI (v := .pointer (some ⟨κ.φ n, off + fd.offset, none⟩)) ?_ (.ptr _ _ hd) h
    simp [execOp, hop, e1, Instr.fieldAt, underlying, hs, hfs, Instr.sureAddr, fieldPlace, run_sizeOf hk, add_spot]
  · rename_i cs hn
    rw [hn] at v1
    obtain ⟨b, i, e1, hv⟩ := v1.eptr_inv
    by_cases hle : fd.offset ≤ cs.length
    · refine .value hI (v := .pointer (some ⟨b, i + fd.offset, none⟩)) ?_ (.eptr _ _ _ (hv.drop _ hle)) h
      simp [execOp, hop, e1, Instr.fieldAt, underlying, hs, hfs, Instr.sureAddr, fieldPlace, run_sizeOf hk, add_spot]
    · refine .value hI (v := .pointer (some ⟨b, i + fd.offset, none⟩)) ?_ (.eptr _ _ _ (by rw [List.drop_eq_nil_of_le (by omega)]; exact .nil _ _)) h
      simp [execOp, hop, e1, Instr.fieldAt, underlying, hs, hfs, Instr.sureAddr, fieldPlace, run_sizeOf hk, add_spot]
  · exact h.elim

/-- a part of an aggregate -/
theorem run_part {t : TypeId} {k : Option Nat} (hk : kindOf P t = some k) {us : List Value} {cs : List AV} (hl : Vl κ w us cs) {off : Nat} {x : AV} (hx : ldc cs off k = some x) :
    ∃ u, (part t ⟨us⟩ off).run P w = .ok u w ∧ V κ w u x := by
  obtain ⟨e1, e2⟩ := run_isAgg (w := w) hk
  cases k with
  | none =>
    obtain ⟨u, hu, hv⟩ := hl.get? off x (by simpa [ldc] using hx)
    exact ⟨u, by simp [part, e1, hu], hv⟩
  | some n =>
    simp only [ldc] at hx
    split at hx
    · simp only [Option.some.injEq] at hx
      subst hx
      refine ⟨.agg ⟨(us.drop off).take n⟩, ?_, .agg _ _ ((hl.drop off).take n)⟩
      simp [part, e1, e2 n rfl]
    · cases hx

theorem ok_fld (hI : Inv w0 F κ a w ρ σ) {s : TypeId} {y : Operand} {x : X} {f : Nat} {k : Option Nat} {fd : Field} (hop : o.op = .field s y f) (hf : fieldOf P s f = some fd) (hk : kindOf P fd.type = some k) (hx : opX y = some x)
    (h : astep (ACalls P) nm ρ σ K (.fld fd.offset k x)) : Good P w0 F o a w κ σ nm K := by
  have v1 := hI.opX hx
  obtain ⟨fs, hs, hfs⟩ := fieldOf_ok hf
  simp only [astep] at h
  split at h
  · rename_i cs hn
    rw [hn] at v1
    obtain ⟨us, e1, hl⟩ := v1.agg_inv
    obtain ⟨v, hv, hK⟩ := opt_some h
    obtain ⟨u, hu, hV⟩ := run_part (P := P) hk hl hv
    exact .value hI (v := u) (by simp [execOp, hop, e1, Instr.field, underlying, hs, hfs, asAgg, hu]) hV hK
  · exact h.elim
end
end Go.VL
