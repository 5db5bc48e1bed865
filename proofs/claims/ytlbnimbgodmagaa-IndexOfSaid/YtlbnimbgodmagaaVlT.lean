/- The value logic, part T: what an argument's reading is, over values; and a law's frame. -/
import Derived.Test.YtlbnimbgodmagaaVlS
import Derived.ProofKit
namespace Go.VL

def κ0 (W : World) : Kx := ⟨fun b _ => b < W.heap.size, fun _ => 0, fun _ => 0, fun _ => 0, fun _ => 0, fun _ => False⟩
def σ0 : St := ⟨0, fun _ => none⟩
theorem R0 (W : World) : R 0 (fun _ => False) (κ0 W) W σ0 := ⟨fun _ h => h.elim, fun _ _ h => by simp [σ0] at h, fun _ _ _ _ h => by simp [σ0] at h, fun _ _ h => h, fun _ _ h => by simp [σ0] at h⟩

def isStruct (P : Program) (t : TypeId) : Bool := match P.underlying t with
  | some (.struct _) => true
  | _ => false

def contig (P : Program) : Nat → List Field → Option Nat
  | off, [] => some off
  | off, f :: r => if f.offset = off then contig P (off + P.cellsOf f.type) r else none

/-- a type of numbers, bools, texts, rows and structs of such, n deep -/
def goodT (P : Program) : Nat → TypeId → Bool
  | 0, _ => false
  | n + 1, t => match P.underlying t with
    | some .bool | some (.int _) | some .string => true
    | some (.slice e) => goodT P n e && decide (0 < P.cellsOf e)
    | some (.struct fs) => fs.toList.all (fun f => goodT P n f.type) && (contig P 0 fs.toList == some (P.cellsOf t))
    | _ => false

mutual
def HasT (P : Program) : Nat → TypeId → List AV → Prop
  | 0, _, _ => False
  | n + 1, t, xs => match P.underlying t with
    | some .bool => ∃ b, xs = [.bool b]
    | some (.int k) => ∃ m, xs = [.int k m] ∧ k.min ≤ m ∧ m ≤ k.max
    | some .string => ∃ s, xs = [.str s] ∧ s.size ≤ maxLen
    | some (.slice e) => ∃ ys, xs = [.sl ys .none] ∧ ys.length ≤ maxLen ∧ ∀ y ∈ ys, HasE P n e y
    | some (.struct fs) => HasF P n fs.toList xs
    | _ => False
/-- an element of a row -/
def HasE (P : Program) : Nat → TypeId → AV → Prop
  | n, e, y => HasT P n e y.cells ∧ (isStruct P e = true → ∃ zs, y = .agg zs) ∧ (isStruct P e = false → y.cells = [y])
def HasF (P : Program) : Nat → List Field → List AV → Prop
  | _, [], xs => xs = []
  | n, f :: r, xs => ∃ ys zs, xs = ys ++ zs ∧ HasT P n f.type ys ∧ HasF P n r zs
end
theorem hasT_succ (P : Program) (n : Nat) (t : TypeId) (xs : List AV) : HasT P (n + 1) t xs = (match P.underlying t with
    | some .bool => ∃ b, xs = [.bool b]
    | some (.int k) => ∃ m, xs = [.int k m] ∧ k.min ≤ m ∧ m ≤ k.max
    | some .string => ∃ s, xs = [.str s] ∧ s.size ≤ maxLen
    | some (.slice e) => ∃ ys, xs = [.sl ys .none] ∧ ys.length ≤ maxLen ∧ ∀ y ∈ ys, HasE P n e y
    | some (.struct fs) => HasF P n fs.toList xs
    | _ => False) := by rw [HasT]
theorem hasE_iff (P : Program) (n : Nat) (e : TypeId) (y : AV) : HasE P n e y = (HasT P n e y.cells ∧ (isStruct P e = true → ∃ zs, y = .agg zs) ∧ (isStruct P e = false → y.cells = [y])) := by rw [HasE]
theorem hasF_nil (P : Program) (n : Nat) (xs : List AV) : HasF P n [] xs = (xs = []) := by rw [HasF]
theorem hasF_cons (P : Program) (n : Nat) (f : Field) (r : List Field) (xs : List AV) : HasF P n (f :: r) xs = ∃ ys zs, xs = ys ++ zs ∧ HasT P n f.type ys ∧ HasF P n r zs := by rw [HasF]

/-- what is no struct is one cell -/
theorem HasT.single {P : Program} {n : Nat} {t : TypeId} {xs : List AV} (h : HasT P n t xs) (hs : isStruct P t = false) : ∃ x, xs = [x] ∧ x.cells = [x] := by
  cases n with
  | zero => rw [HasT] at h; exact h.elim
  | succ n =>
    rw [hasT_succ] at h
    unfold isStruct at hs
    split at h
    · obtain ⟨b, rfl⟩ := h; exact ⟨_, rfl, rfl⟩
    · obtain ⟨m, rfl, _⟩ := h; exact ⟨_, rfl, rfl⟩
    · obtain ⟨s, rfl, _⟩ := h; exact ⟨_, rfl, rfl⟩
    · obtain ⟨ys, rfl, _⟩ := h; exact ⟨_, rfl, rfl⟩
    · rename_i hu; rw [hu] at hs; cases hs
    · exact h.elim

def mkE (P : Program) (e : TypeId) (xs : List AV) : AV := if isStruct P e then .agg xs else xs.headD .any
theorem mkE_has {P : Program} {n : Nat} {e : TypeId} {xs : List AV} (h : HasT P n e xs) : (mkE P e xs).cells = xs ∧ HasE P n e (mkE P e xs) := by
  unfold mkE
  by_cases hs : isStruct P e = true
  · simp only [hs, if_true]
    exact ⟨rfl, by rw [hasE_iff]; exact ⟨h, fun _ => ⟨_, rfl⟩, fun h => by rw [hs] at h; cases h⟩⟩
  · have hs' : isStruct P e = false := by simpa using hs
    obtain ⟨x, rfl, hx⟩ := h.single hs'
    simp only [hs', Bool.false_eq_true, if_false, List.headD_cons]
    exact ⟨hx, by rw [hasE_iff, hx]; exact ⟨h, fun h => (by rw [hs'] at h; cases h), fun _ => rfl⟩⟩

/-- a row out of its elements -/
theorem vs_elems {κ : Kx} {w : World} {b k : Nat} : ∀ {ys : List AV} {o : Nat} {f : Nat → List Value}, (∀ i y, ys[i]? = some y → Vl κ w (f i) y.cells ∧ y.cells.length = k ∧ ∀ j u, (f i)[j]? = some u → κ.I b (o + i * k + j) ∧ w.cell? ⟨b, o + i * k + j, none⟩ = some u) →
    Vs κ w b o (ys.flatMap AV.cells)
  | [], o, f, _ => .nil b o
  | y :: r, o, f, h => by
    obtain ⟨h1, h2, h3⟩ := h 0 y rfl
    rw [List.flatMap_cons]
    refine Vs.append (Vs.mk h1 (fun j u hj => by simpa using h3 j u hj)) ?_
    rw [h2]
    exact vs_elems (f := fun i => f (i + 1)) (fun i z hz => by
      obtain ⟨g1, g2, g3⟩ := h (i + 1) z (by simpa using hz)
      exact ⟨g1, g2, fun j u hj => by
        have := g3 j u hj
        rwa [show o + (i + 1) * k + j = o + k + i * k + j by rw [Nat.add_mul]; omega] at this⟩)

theorem has_slice {P : Program} {n : Nat} {t e : TypeId} {x : AV} (hu : P.underlying t = some (.slice e)) (h : HasE P (n + 1) t x) : ∃ ys, x = .sl ys .none ∧ ys.length ≤ maxLen ∧ ∀ y ∈ ys, HasE P n e y := by
  rw [hasE_iff] at h
  obtain ⟨h1, _, h3⟩ := h
  have hs : isStruct P t = false := by unfold isStruct; rw [hu]
  rw [h3 hs, hasT_succ, hu] at h1
  obtain ⟨ys, e, h⟩ := h1
  simp only [List.cons.injEq, and_true] at e
  exact ⟨ys, e, h⟩
theorem has_int {P : Program} {n : Nat} {t : TypeId} {k : IntKind} {x : AV} (hu : P.underlying t = some (.int k)) (h : HasE P (n + 1) t x) : ∃ m, x = .int k m ∧ k.min ≤ m ∧ m ≤ k.max := by
  rw [hasE_iff] at h
  obtain ⟨h1, _, h3⟩ := h
  have hs : isStruct P t = false := by unfold isStruct; rw [hu]
  rw [h3 hs, hasT_succ, hu] at h1
  obtain ⟨m, e, h⟩ := h1
  simp only [List.cons.injEq, and_true] at e
  exact ⟨m, e, h⟩

section
variable {H : Type} {enc : TypeId × Value → H} {P : Program} {W : World} {held : Bool}

theorem fields_has {n m : Nat} {cs : List Value} (ih : ∀ {t : TypeId} {cs : List Value} {x : DataW H × List MemPlace}, goodT P n t = true → DataW.trod enc P W 0 (fun _ => true) held m t cs = some x → ∃ xs, Vl (κ0 W) W cs xs ∧ HasT P n t xs) :
    ∀ {fs : List Field} {off tot : Nat}, contig P off fs = some tot → tot ≤ cs.length → (∀ f ∈ fs, goodT P n f.type = true ∧ ∃ x : DataW H × List MemPlace, DataW.trod enc P W 0 (fun _ => true) held m f.type ((cs.drop f.offset).take (P.cellsOf f.type)) = some x) →
      off ≤ tot ∧ ∃ xs, Vl (κ0 W) W ((cs.drop off).take (tot - off)) xs ∧ HasF P n fs xs
  | [], off, tot, hc, hl, h => by
    simp only [contig, Option.some.injEq] at hc; subst hc
    exact ⟨Nat.le_refl _, [], by simpa using Vl.nil, by rw [hasF_nil]⟩
  | f :: r, off, tot, hc, hl, h => by
    simp only [contig] at hc
    split at hc
    · rename_i ho
      subst ho
      obtain ⟨h1, x, hx⟩ := h f (by simp)
      obtain ⟨ys, hy1, hy2⟩ := ih h1 hx
      obtain ⟨hle, zs, hz1, hz2⟩ := fields_has ih hc hl (fun g hg => h g (List.mem_cons_of_mem _ hg))
      refine ⟨by omega, ys ++ zs, ?_, by rw [hasF_cons]; exact ⟨ys, zs, rfl, hy2, hz2⟩⟩
      have : (cs.drop f.offset).take (tot - f.offset) = (cs.drop f.offset).take (P.cellsOf f.type) ++ (cs.drop (f.offset + P.cellsOf f.type)).take (tot - (f.offset + P.cellsOf f.type)) := by
        rw [show tot - f.offset = P.cellsOf f.type + (tot - (f.offset + P.cellsOf f.type)) by omega, List.take_add, List.drop_drop]
      rw [this]
      exact hy1.append hz1
    · cases hc

/-- AN ARGUMENT THAT READS is a value of its type. -/
theorem trod_has : ∀ {n : Nat} {t : TypeId} {cs : List Value} {fuel : Nat} {x : DataW H × List MemPlace}, goodT P n t = true → DataW.trod enc P W 0 (fun _ => true) held fuel t cs = some x → ∃ xs, Vl (κ0 W) W cs xs ∧ HasT P n t xs
  | 0, _, _, _, _, hg, _ => by cases hg
  | n + 1, t, cs, fuel, x, hg, h => by
    unfold goodT at hg
    split at hg
    · rename_i hu
      obtain ⟨b, rfl, rfl⟩ := DataW.trod_bool hu h
      exact ⟨[.bool b], .cons _ _ _ _ (.bool b) .nil, by rw [hasT_succ, hu]; exact ⟨b, rfl⟩⟩
    · rename_i k hu
      obtain ⟨m, rfl, rfl, hw⟩ := DataW.trod_int hu h
      simp only [Lit.wf, Bool.and_eq_true, decide_eq_true_eq] at hw
      exact ⟨[.int k m], .cons _ _ _ _ (.int k m) .nil, by rw [hasT_succ, hu]; exact ⟨m, rfl, hw⟩⟩
    · rename_i hu
      obtain ⟨s, rfl, rfl, hs⟩ := DataW.trod_string hu h
      exact ⟨[.str s], .cons _ _ _ _ (.str s) .nil, by rw [hasT_succ, hu]; exact ⟨s, rfl, hs⟩⟩
    · rename_i e hu
      simp only [Bool.and_eq_true, decide_eq_true_eq] at hg
      obtain ⟨hge, hpos⟩ := hg
      rcases DataW.trod_slice hu h with ⟨rfl, rfl⟩ | ⟨a, len, cap, elems, rest, m, rfl, rfl, rfl, _, hlc, hcm, hel, he, hr, _⟩
      · exact ⟨[.sl [] .none], .cons _ _ _ _ (.slnil _ (.inr (.inl rfl))) .nil, by rw [hasT_succ, hu]; exact ⟨[], rfl, Nat.zero_le _, fun y hy => by cases hy⟩⟩
      · have hread : ∀ i, i < cap → ∃ cs y, W.cells? 0 (a.add (i * P.cellsOf e)) (P.cellsOf e) = some cs ∧ DataW.trod enc P W 0 (fun _ => true) held m e cs = some y := by
          intro i hi
          by_cases hil : i < len
          · have h1 := he i hil
            obtain ⟨y, hy⟩ : ∃ y, elems[i]? = some y := ⟨elems[i]'(by omega), by simp [show i < elems.length by omega]⟩
            rw [hy] at h1
            obtain ⟨cs, g1, g2⟩ := Option.bind_eq_some_iff.1 h1
            exact ⟨cs, y, g1, g2⟩
          · obtain ⟨hrl, hr'⟩ := hr rfl
            have h1 := hr' (i - len) (by omega)
            rw [show len + (i - len) = i by omega] at h1
            obtain ⟨y, hy⟩ : ∃ y, rest[i - len]? = some y := ⟨rest[i - len]'(by omega), by simp [show i - len < rest.length by omega]⟩
            rw [hy] at h1
            obtain ⟨cs, g1, g2⟩ := Option.bind_eq_some_iff.1 h1
            exact ⟨cs, y, g1, g2⟩
        by_cases hc0 : cap = 0
        · subst hc0
          have : len = 0 := by omega
          subst this
          exact ⟨[.sl [] .none], .cons _ _ _ _ (.slz a _ (.inl rfl)) .nil, by rw [hasT_succ, hu]; exact ⟨[], rfl, Nat.zero_le _, fun y hy => by cases hy⟩⟩
        · have hsp : a = ⟨a.block, a.off, none⟩ := by
            obtain ⟨cs, y, g1, _⟩ := hread 0 (by omega)
            obtain ⟨_, hl, hc⟩ := World.cells?_some g1
            have h0 := hc 0 hpos
            have hx : ∃ u, cs[0]? = some u := ⟨cs[0]'(by omega), by simp [show 0 < cs.length by omega]⟩
            obtain ⟨u, hux⟩ := hx
            rw [hux, Nat.zero_mul] at h0
            have e0 : (a.add 0).add 0 = a := rfl
            rw [e0] at h0
            obtain ⟨b, o, sp⟩ := a
            cases sp with
            | none => rfl
            | some s => unfold World.cell? at h0; split at h0 <;> simp at h0
          generalize hb : a.block = b at hsp
          generalize ho : a.off = o at hsp
          subst hsp
          have hsub : ∀ i, i < len → ∃ cs xs, Vl (κ0 W) W cs xs ∧ HasT P n e xs ∧ xs.length = P.cellsOf e ∧ ∀ j u, cs[j]? = some u → (κ0 W).I b (o + i * P.cellsOf e + j) ∧ W.cell? ⟨b, o + i * P.cellsOf e + j, none⟩ = some u := by
            intro i hi
            obtain ⟨cs, y, g1, g2⟩ := hread i (by omega)
            obtain ⟨xs, k1, k2⟩ := trod_has hge g2
            obtain ⟨_, hl, hc⟩ := World.cells?_some g1
            refine ⟨cs, xs, k1, k2, by rw [← k1.length, hl], fun j u hj => ?_⟩
            have hjl : j < P.cellsOf e := by rw [← hl]; exact (List.getElem?_eq_some_iff.1 hj).1
            have := hc j hjl
            rw [hj, add_spot, add_spot] at this
            refine ⟨?_, this⟩
            show b < W.heap.size
            rcases Nat.lt_or_ge b W.heap.size with hlt | hge
            · exact hlt
            · unfold World.cell? at this; simp [Array.getElem?_eq_none hge] at this
          let f : Nat → List Value := fun i => if h : i < len then (hsub i h).choose else []
          let g : Nat → List AV := fun i => if h : i < len then (hsub i h).choose_spec.choose else []
          have hfg : ∀ i, i < len → Vl (κ0 W) W (f i) (g i) ∧ HasT P n e (g i) ∧ (g i).length = P.cellsOf e ∧ ∀ j u, (f i)[j]? = some u → (κ0 W).I b (o + i * P.cellsOf e + j) ∧ W.cell? ⟨b, o + i * P.cellsOf e + j, none⟩ = some u := by
            intro i hi
            have := (hsub i hi).choose_spec.choose_spec
            simp only [f, g, hi, dif_pos]
            exact this
          let ys : List AV := (List.range len).map fun i => mkE P e (g i)
          have hyl : ys.length = len := by simp [ys]
          have hyi : ∀ i y, ys[i]? = some y → i < len ∧ y = mkE P e (g i) := by
            intro i y hy
            have hi : i < len := by rw [← hyl]; exact (List.getElem?_eq_some_iff.1 hy).1
            refine ⟨hi, ?_⟩
            simp [ys, hi] at hy
            exact hy.symm
          refine ⟨[.sl ys .none], .cons _ _ _ _ ?_ .nil, ?_⟩
          · rw [← hyl]
            refine .sl b o cap (P.cellsOf e) ys (fun y hy => ?_) (by rw [hyl]; exact hlc) (vs_elems (k := P.cellsOf e) (f := f) (fun i y hy => ?_))
            · obtain ⟨i, hi⟩ := List.getElem?_of_mem hy
              obtain ⟨hil, rfl⟩ := hyi i y hi
              obtain ⟨_, h2, h3, _⟩ := hfg i hil
              rw [(mkE_has h2).1, h3]
            · obtain ⟨hil, rfl⟩ := hyi i y hy
              obtain ⟨h1, h2, h3, h4⟩ := hfg i hil
              rw [(mkE_has h2).1]
              exact ⟨h1, h3, h4⟩
          · rw [hasT_succ, hu]
            refine ⟨ys, rfl, by rw [hyl]; omega, fun y hy => ?_⟩
            obtain ⟨i, hi⟩ := List.getElem?_of_mem hy
            obtain ⟨hil, rfl⟩ := hyi i y hi
            obtain ⟨_, h2, _⟩ := hfg i hil
            exact (mkE_has h2).2
    · rename_i fs hu
      simp only [Bool.and_eq_true, List.all_eq_true, beq_iff_eq] at hg
      obtain ⟨xs, m, rfl, rfl, hl, hxl, hf⟩ := DataW.trod_struct hu h
      obtain ⟨_, zs, hz1, hz2⟩ := fields_has (cs := cs) (n := n) (m := m) (fun hg h => trod_has hg h) (fs := fs.toList) hg.2 (by omega) (fun f hfm => by
        refine ⟨hg.1 f hfm, ?_⟩
        obtain ⟨i, hi⟩ := List.getElem?_of_mem hfm
        have hi' : fs[i]? = some f := by simpa using hi
        have hil : i < fs.size := (Array.getElem?_eq_some_iff.1 hi').1
        exact ⟨xs[i]'(by omega), by rw [hf i f hi']; simp [show i < xs.length by omega]⟩)
      refine ⟨zs, ?_, by rw [hasT_succ, hu]; exact hz2⟩
      rw [Nat.sub_zero, List.drop_zero, ← hl, List.take_length] at hz1
      exact hz1
    · cases hg
end

end Go.VL
