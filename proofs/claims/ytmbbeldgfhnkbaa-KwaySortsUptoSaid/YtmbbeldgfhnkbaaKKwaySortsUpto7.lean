/- KwaySorts (layer 10), where what it reads is of bulk at most 1048576: the law returns true, and the argument reads as it did. -/
import Derived.Test.YtmbbeldgfhnkbaaKKwaySortsUpto6
import Derived.Test.YtmbbeldgfhnkbaaRows

set_option linter.unusedSimpArgs false
set_option linter.unusedVariables false

namespace Go.VL

open Go.RowKit

mutual
/-- how much a value holds -/
def AV.wt : AV → Nat
  | .sl xs _ => wtl xs + 1
  | .agg cs => wtl cs
  | .str s => s.size + 1
  | _ => 1
def wtl : List AV → Nat
  | [] => 0
  | x :: r => x.wt + wtl r
end

theorem wtl_nil : wtl [] = 0 := by rw [wtl]

theorem wtl_cons (x : AV) (r : List AV) : wtl (x :: r) = x.wt + wtl r := by rw [wtl]

theorem wtl_app : ∀ (a b : List AV), wtl (a ++ b) = wtl a + wtl b
  | [], b => by rw [wtl_nil]; simp
  | x :: a, b => by rw [List.cons_append, wtl_cons, wtl_cons, wtl_app a b]; omega

theorem wt_sl (xs : List AV) (g : Ver) : (AV.sl xs g).wt = wtl xs + 1 := by rw [AV.wt]

theorem wt_agg (cs : List AV) : (AV.agg cs).wt = wtl cs := by rw [AV.wt]

theorem wt_bool (b : Bool) : (AV.bool b).wt = 1 := by simp [AV.wt]

theorem wt_int (k : IntKind) (n : Int) : (AV.int k n).wt = 1 := by simp [AV.wt]

theorem wt_str (s : ByteArray) : (AV.str s).wt = s.size + 1 := by simp [AV.wt]

theorem wtl_sum : ∀ (l : List AV), wtl l = (l.map AV.wt).sum
  | [] => by rw [wtl_nil]; rfl
  | x :: r => by rw [wtl_cons, wtl_sum r, List.map_cons, List.sum_cons]

/-- a measure of readings -/
structure Bulky (H : Type) (B : DataW H → Nat) : Prop where
  one : ∀ d, 1 ≤ B d
  str : ∀ s, s.length + 1 ≤ B (.lit (.string s))
  slice : ∀ es sp, (es.map B).sum + 1 ≤ B (.slice es sp)
  agg : ∀ ps, (ps.map B).sum ≤ B (.agg ps)

theorem mkE_wt (P : Program) {n : Nat} {e : TypeId} {xs : List AV} (h : HasT P n e xs) : (mkE P e xs).wt = wtl xs := by
  unfold mkE
  by_cases hs : isStruct P e = true
  · simp only [hs, if_true]; rw [wt_agg]
  · have hs' : isStruct P e = false := by simpa using hs
    obtain ⟨x, rfl, _⟩ := h.single hs'
    simp only [hs', Bool.false_eq_true, if_false, List.headD_cons]
    rw [wtl_cons, wtl_nil]; omega

theorem sum_bound : ∀ {n : Nat} {a b : Nat → Nat}, (∀ i, i < n → a i ≤ b i) → ((List.range n).map a).sum ≤ ((List.range n).map b).sum
  | 0, _, _, _ => by simp
  | n + 1, a, b, h => by
    have ih := sum_bound (n := n) (fun i hi => h i (by omega))
    have h0 := h n (by omega)
    rw [List.range_succ, List.map_append, List.map_append, List.sum_append, List.sum_append]
    simp only [List.map_cons, List.map_nil, List.sum_cons, List.sum_nil]; omega

theorem range_sum {α : Type} (l : List α) (f : α → Nat) : ((List.range l.length).map fun i => (l[i]?.map f).getD 0) = l.map f := by
  refine List.ext_getElem (by simp) (fun i h1 h2 => ?_)
  have hi : i < l.length := by simpa using h2
  simp [hi]

section

variable {H : Type} {enc : TypeId × Value → H} {P : Program} {W : World} {held : Bool} {B : DataW H → Nat}

theorem fields_hasB {n m : Nat} {cs : List Value} (ih : ∀ {t : TypeId} {cs : List Value} {x : DataW H × List MemPlace}, goodT P n t = true → DataW.trod enc P W 0 (fun _ => true) held m t cs = some x → ∃ xs, Vl (κ0 W) W cs xs ∧ HasT P n t xs ∧ wtl xs ≤ B x.1) :
    ∀ {fs : List Field} {ps : List (DataW H × List MemPlace)} {off tot : Nat}, contig P off fs = some tot → tot ≤ cs.length → ps.length = fs.length → (∀ (i : Nat) f, fs[i]? = some f → goodT P n f.type = true ∧ DataW.trod enc P W 0 (fun _ => true) held m f.type ((cs.drop f.offset).take (P.cellsOf f.type)) = ps[i]?) →
      off ≤ tot ∧ ∃ xs, Vl (κ0 W) W ((cs.drop off).take (tot - off)) xs ∧ HasF P n fs xs ∧ wtl xs ≤ (ps.map fun p => B p.1).sum
  | [], [], off, tot, hc, hl, _, h => by
    simp only [contig, Option.some.injEq] at hc; subst hc
    exact ⟨Nat.le_refl _, [], by simpa using Vl.nil, by rw [hasF_nil], by rw [wtl_nil]; simp⟩
  | [], _ :: _, _, _, _, _, hp, _ => by simp at hp
  | _ :: _, [], _, _, _, _, hp, _ => by simp at hp
  | f :: r, p :: ps, off, tot, hc, hl, hp, h => by
    simp only [contig] at hc
    split at hc
    · rename_i ho
      subst ho
      obtain ⟨h1, hx⟩ := h 0 f rfl
      have hx' : DataW.trod enc P W 0 (fun _ => true) held m f.type ((cs.drop f.offset).take (P.cellsOf f.type)) = some p := hx
      obtain ⟨ys, hy1, hy2, hy3⟩ := ih h1 hx'
      obtain ⟨hle, zs, hz1, hz2, hz3⟩ := fields_hasB ih (ps := ps) hc hl (by simpa using hp) (fun i g hg => h (i + 1) g (by simpa using hg))
      refine ⟨by omega, ys ++ zs, ?_, by rw [hasF_cons]; exact ⟨ys, zs, rfl, hy2, hz2⟩, by rw [wtl_app, List.map_cons, List.sum_cons]; omega⟩
      have : (cs.drop f.offset).take (tot - f.offset) = (cs.drop f.offset).take (P.cellsOf f.type) ++ (cs.drop (f.offset + P.cellsOf f.type)).take (tot - (f.offset + P.cellsOf f.type)) := by
        rw [show tot - f.offset = P.cellsOf f.type + (tot - (f.offset + P.cellsOf f.type)) by omega, List.take_add, List.drop_drop]
      rw [this]
      exact hy1.append hz1
    · cases hc

/-- AN ARGUMENT THAT READS is a value of its type. -/
theorem trod_hasB (hB : Bulky H B) : ∀ {n : Nat} {t : TypeId} {cs : List Value} {fuel : Nat} {x : DataW H × List MemPlace}, goodT P n t = true → DataW.trod enc P W 0 (fun _ => true) held fuel t cs = some x → ∃ xs, Vl (κ0 W) W cs xs ∧ HasT P n t xs ∧ wtl xs ≤ B x.1
  | 0, _, _, _, _, hg, _ => by cases hg
  | n + 1, t, cs, fuel, x, hg, h => by
    unfold goodT at hg
    split at hg
    · rename_i hu
      obtain ⟨b, rfl, rfl⟩ := DataW.trod_bool hu h
      exact ⟨[.bool b], .cons _ _ _ _ (.bool b) .nil, by rw [hasT_succ, hu]; exact ⟨b, rfl⟩, by rw [wtl_cons, wtl_nil, wt_bool]; exact hB.one _⟩
    · rename_i k hu
      obtain ⟨m, rfl, rfl, hw⟩ := DataW.trod_int hu h
      simp only [Lit.wf, Bool.and_eq_true, decide_eq_true_eq] at hw
      exact ⟨[.int k m], .cons _ _ _ _ (.int k m) .nil, by rw [hasT_succ, hu]; exact ⟨m, rfl, hw⟩, by rw [wtl_cons, wtl_nil, wt_int]; exact hB.one _⟩
    · rename_i hu
      obtain ⟨s, rfl, rfl, hs⟩ := DataW.trod_string hu h
      exact ⟨[.str s], .cons _ _ _ _ (.str s) .nil, by rw [hasT_succ, hu]; exact ⟨s, rfl, hs⟩, by rw [wtl_cons, wtl_nil, wt_str]; exact hB.str _⟩
    · rename_i e hu
      simp only [Bool.and_eq_true, decide_eq_true_eq] at hg
      obtain ⟨hge, hpos⟩ := hg
      rcases DataW.trod_slice hu h with ⟨rfl, rfl⟩ | ⟨a, len, cap, elems, rest, m, rfl, rfl, rfl, _, hlc, hcm, hel, he, hr, _⟩
      · exact ⟨[.sl [] .none], .cons _ _ _ _ (.slnil _ (.inr (.inl rfl))) .nil, by rw [hasT_succ, hu]; exact ⟨[], rfl, Nat.zero_le _, fun y hy => by cases hy⟩, by rw [wtl_cons, wtl_nil, wt_sl, wtl_nil]; exact hB.one _⟩
      · have hread : ∀ i, i < cap → ∃ cs y, W.cells? 0 (a.add (i * P.cellsOf e)) (P.cellsOf e) = some cs ∧ DataW.trod enc P W 0 (fun _ => true) held m e cs = some y := by
          intro i hi
          by_cases hil : i < len
          · have h1 := he i hil
            obtain ⟨y, hy⟩ : ∃ y, elems[i]? = some y := ⟨elems[i]'(by omega), by simp [show i < elems.length by omega]⟩
            rw [hy] at h1
            obtain ⟨cs, g1, g2⟩ := Option.bind_eq_some_iff.1 h1
            exact ⟨cs, y, g1, g2⟩
          · obtain ⟨hrl, hr'⟩ := hr rfl
            have h1 := hr' (i - len) (by omega)
            rw [show len + (i - len) = i by omega] at h1
            obtain ⟨y, hy⟩ : ∃ y, rest[i - len]? = some y := ⟨rest[i - len]'(by omega), by simp [show i - len < rest.length by omega]⟩
            rw [hy] at h1
            obtain ⟨cs, g1, g2⟩ := Option.bind_eq_some_iff.1 h1
            exact ⟨cs, y, g1, g2⟩
        by_cases hc0 : cap = 0
        · subst hc0
          have : len = 0 := by omega
          subst this
          exact ⟨[.sl [] .none], .cons _ _ _ _ (.slz a _ (.inl rfl)) .nil, by rw [hasT_succ, hu]; exact ⟨[], rfl, Nat.zero_le _, fun y hy => by cases hy⟩, by rw [wtl_cons, wtl_nil, wt_sl, wtl_nil]; exact hB.one _⟩
        · have hsp : a = ⟨a.block, a.off, none⟩ := by
            obtain ⟨cs, y, g1, _⟩ := hread 0 (by omega)
            obtain ⟨_, hl, hc⟩ := World.cells?_some g1
            have h0 := hc 0 hpos
            have hx : ∃ u, cs[0]? = some u := ⟨cs[0]'(by omega), by simp [show 0 < cs.length by omega]⟩
            obtain ⟨u, hux⟩ := hx
            rw [hux, Nat.zero_mul] at h0
            have e0 : (a.add 0).add 0 = a := rfl
            rw [e0] at h0
            obtain ⟨b, o, sp⟩ := a
            cases sp with
            | none => rfl
            | some s => unfold World.cell? at h0; split at h0 <;> simp at h0
          generalize hb : a.block = b at hsp
          generalize ho : a.off = o at hsp
          subst hsp
          have hsub : ∀ i, i < len → ∃ cs xs, Vl (κ0 W) W cs xs ∧ HasT P n e xs ∧ xs.length = P.cellsOf e ∧ (∀ j u, cs[j]? = some u → (κ0 W).I b (o + i * P.cellsOf e + j) ∧ W.cell? ⟨b, o + i * P.cellsOf e + j, none⟩ = some u) ∧ wtl xs ≤ (elems[i]?.map fun p => B p.1).getD 0 := by
            intro i hi
            have h1 := he i hi
            obtain ⟨y, hy⟩ : ∃ y, elems[i]? = some y := ⟨elems[i]'(by omega), by simp [show i < elems.length by omega]⟩
            rw [hy] at h1
            obtain ⟨cs, g1, g2⟩ := Option.bind_eq_some_iff.1 h1
            obtain ⟨xs, k1, k2, k3⟩ := trod_hasB hB hge g2
            obtain ⟨_, hl, hc⟩ := World.cells?_some g1
            refine ⟨cs, xs, k1, k2, by rw [← k1.length, hl], fun j u hj => ?_, by rw [hy]; exact k3⟩
            have hjl : j < P.cellsOf e := by rw [← hl]; exact (List.getElem?_eq_some_iff.1 hj).1
            have := hc j hjl
            rw [hj, add_spot, add_spot] at this
            refine ⟨?_, this⟩
            show b < W.heap.size
            rcases Nat.lt_or_ge b W.heap.size with hlt | hge
            · exact hlt
            · unfold World.cell? at this; simp [Array.getElem?_eq_none hge] at this
          let f : Nat → List Value := fun i => if h : i < len then (hsub i h).choose else []
          let g : Nat → List AV := fun i => if h : i < len then (hsub i h).choose_spec.choose else []
          have hfg : ∀ i, i < len → Vl (κ0 W) W (f i) (g i) ∧ HasT P n e (g i) ∧ (g i).length = P.cellsOf e ∧ (∀ j u, (f i)[j]? = some u → (κ0 W).I b (o + i * P.cellsOf e + j) ∧ W.cell? ⟨b, o + i * P.cellsOf e + j, none⟩ = some u) ∧ wtl (g i) ≤ (elems[i]?.map fun p => B p.1).getD 0 := by
            intro i hi
            have := (hsub i hi).choose_spec.choose_spec
            simp only [f, g, hi, dif_pos]
            exact this
          let ys : List AV := (List.range len).map fun i => mkE P e (g i)
          have hyl : ys.length = len := by simp [ys]
          have hyi : ∀ i y, ys[i]? = some y → i < len ∧ y = mkE P e (g i) := by
            intro i y hy
            have hi : i < len := by rw [← hyl]; exact (List.getElem?_eq_some_iff.1 hy).1
            refine ⟨hi, ?_⟩
            simp [ys, hi] at hy
            exact hy.symm
          refine ⟨[.sl ys .none], .cons _ _ _ _ ?_ .nil, ?_, ?_⟩
          · rw [← hyl]
            refine .sl b o cap (P.cellsOf e) ys (fun y hy => ?_) (by rw [hyl]; exact hlc) (vs_elems (k := P.cellsOf e) (f := f) (fun i y hy => ?_))
            · obtain ⟨i, hi⟩ := List.getElem?_of_mem hy
              obtain ⟨hil, rfl⟩ := hyi i y hi
              obtain ⟨_, h2, h3, _, _⟩ := hfg i hil
              rw [(mkE_has h2).1, h3]
            · obtain ⟨hil, rfl⟩ := hyi i y hy
              obtain ⟨h1, h2, h3, h4, _⟩ := hfg i hil
              rw [(mkE_has h2).1]
              exact ⟨h1, h3, h4⟩
          · rw [hasT_succ, hu]
            refine ⟨ys, rfl, by rw [hyl]; omega, fun y hy => ?_⟩
            obtain ⟨i, hi⟩ := List.getElem?_of_mem hy
            obtain ⟨hil, rfl⟩ := hyi i y hi
            obtain ⟨_, h2, _⟩ := hfg i hil
            exact (mkE_has h2).2
          · rw [wtl_cons, wtl_nil, wt_sl, wtl_sum]
            have hw : (ys.map AV.wt).sum ≤ ((elems.map Prod.fst).map B).sum := by
              have e1 : ys.map AV.wt = (List.range len).map fun i => (mkE P e (g i)).wt := by simp [ys]
              have e2 : (elems.map Prod.fst).map B = (List.range len).map fun i => (elems[i]?.map fun p => B p.1).getD 0 := by
                rw [← hel, range_sum, List.map_map]; rfl
              rw [e1, e2]
              refine sum_bound (fun i hi => ?_)
              obtain ⟨_, h2, _, _, h5⟩ := hfg i hi
              rw [mkE_wt P h2]; exact h5
            have h9 : ((elems.map Prod.fst).map B).sum + 1 ≤ B (.slice (elems.map fun x => x.1) (rest.map fun x => x.1)) := hB.slice (elems.map Prod.fst) (rest.map Prod.fst)
            show _ ≤ B (.slice (elems.map fun x => x.1) (rest.map fun x => x.1))
            omega
    · rename_i fs hu
      simp only [Bool.and_eq_true, List.all_eq_true, beq_iff_eq] at hg
      obtain ⟨xs, m, rfl, rfl, hl, hxl, hf⟩ := DataW.trod_struct hu h
      obtain ⟨_, zs, hz1, hz2, hz3⟩ := fields_hasB (B := B) (cs := cs) (n := n) (m := m) (fun hg h => trod_hasB hB hg h) (fs := fs.toList) (ps := xs) hg.2 (by omega) (by simpa using hxl) (fun i f hi => by
        have hi' : fs[i]? = some f := by simpa using hi
        exact ⟨hg.1 f (List.mem_of_getElem? hi), hf i f hi'⟩)
      refine ⟨zs, ?_, by rw [hasT_succ, hu]; exact hz2, ?_⟩
      rotate_left
      · have := hB.agg (xs.map Prod.fst)
        rw [List.map_map] at this
        exact Nat.le_trans hz3 this
      rw [Nat.sub_zero, List.drop_zero, ← hl, List.take_length] at hz1
      exact hz1
    · cases hg

theorem arg_hasB (hB : Bulky H B) {n : Nat} {r : Reach} {b0 : Nat} {t : TypeId} {v : Value} {d : DataW H} {ps : List MemPlace} (hg : goodT P n t = true) (hok : Value.okWide P W r b0 t v) (hd : DataW.Trod enc P W 0 (fun _ => true) true t v d ps) : ∃ x, V (κ0 W) W v x ∧ HasE P n t x ∧ x.wt ≤ B d := by
  obtain ⟨fuel, hf⟩ := hd
  obtain ⟨xs, h1, h2, hwt⟩ := trod_hasB hB hg hf
  refine ⟨mkE P t xs, ?_, (mkE_has h2).2, by rw [mkE_wt P h2]; exact hwt⟩
  unfold mkE
  by_cases hs : isStruct P t = true
  · simp only [hs, if_true]
    unfold isStruct at hs
    split at hs
    · rename_i fs hu
      simp only [Value.okWide, hu] at hok
      obtain ⟨cs, rfl, _⟩ := hok
      obtain ⟨l⟩ := cs
      exact .agg _ _ (by simpa [Value.cells] using h1)
    · cases hs
  · have hs' : isStruct P t = false := by simpa using hs
    obtain ⟨x, rfl, hx⟩ := h2.single hs'
    simp only [hs', Bool.false_eq_true, if_false, List.headD_cons]
    have hna : ∀ cs, v ≠ .agg cs := by
      rintro cs rfl
      cases n with
      | zero => cases hg
      | succ n =>
        unfold goodT at hg
        split at hg
        · rename_i hu; simp [Value.okWide, hu, Cell.okWide, Cell.ok] at hok
        · rename_i hu; simp [Value.okWide, hu, Cell.okWide, Cell.ok] at hok
        · rename_i hu; simp [Value.okWide, hu, Cell.okWide, Cell.ok] at hok
        · rename_i hu; simp [Value.okWide, hu, Cell.okWide, Cell.ok] at hok
        · rename_i hu; unfold isStruct at hs'; rw [hu] at hs'; cases hs'
        · cases hg
    have hc : v.cells.toList = [v] := by
      cases v <;> first | rfl | exact absurd rfl (hna _)
    rw [hc] at h1
    cases h1 with
    | cons _ _ _ _ h _ => exact h

theorem args_hasB (hB : Bulky H B) {n : Nat} {r : Reach} {b0 : Nat} : ∀ {ts : List TypeId} {vs : List Value} {ds : List (DataW H)} {ps : List MemPlace}, (∀ t ∈ ts, goodT P n t = true) → (∀ (j : Nat) t v, ts[j]? = some t → vs[j]? = some v → Value.okWide P W r b0 t v) →
    DataW.TrodAll enc P W 0 (fun _ => true) true ts vs ds ps → ∃ xs, Vl (κ0 W) W vs xs ∧ HasAll P n ts xs ∧ wtl xs ≤ (ds.map B).sum
  | [], [], [], _, _, _, _ => ⟨[], .nil, .nil, by rw [wtl_nil]; simp⟩
  | t :: ts, v :: vs, d :: ds, ps, hg, hok, ⟨p, q, h1, h2, _⟩ => by
    obtain ⟨x, k1, k2, w1⟩ := arg_hasB hB (hg t (by simp)) (hok 0 t v rfl rfl) h1
    obtain ⟨xs, k3, k4, w2⟩ := args_hasB hB (fun t ht => hg t (List.mem_cons_of_mem _ ht)) (fun j t v ht hv => hok (j + 1) t v (by simpa using ht) (by simpa using hv)) h2
    exact ⟨x :: xs, .cons _ _ _ _ k1 k3, .cons k2 k4, by rw [wtl_cons, List.map_cons, List.sum_cons]; omega⟩
  | [], _ :: _, _, _, _, _, h => by simp [DataW.TrodAll] at h
  | [], [], _ :: _, _, _, _, h => by simp [DataW.TrodAll] at h
  | _ :: _, [], _, _, _, _, h => by simp [DataW.TrodAll] at h
  | _ :: _, _ :: _, [], _, _, _, h => by simp [DataW.TrodAll] at h

/-- THE ROW's CONTRACT, from what a call comes to over values -/
theorem law_callsB (hB : Bulky H B) {M : Nat} (n : Nat) {f : FuncId} {fn : Func} {s : ChangeSpec} {tb : TypeId} (hl : laidOutB P = true)
    (hps : fn.params.toList.all (fun t => goodT P n t && P.readableRec t && decide (t < P.types.size)) = true) (hvars : s.vars = []) (hrt : fn.resultTypes = #[tb]) (hb : P.underlying tb = some .bool)
    (hfn : ∀ ds : List (DataW H), ds.length = fn.params.toList.length → s.fn H ds = { results := [.lit (.bool true)], args := ds })
    (hwalk : ∀ xs, HasAll P n fn.params.toList xs → wtl xs ≤ M → ACalls P f xs σ0 (fun v _ => v = .bool true))
    {base : Nat} {args : Array Value} {ds gs : List (DataW H)} {before : List MemPlace}
    (hval : ∀ (j : Nat) t v, fn.params[j]? = some t → args[j]? = some v → Value.okWide P W .any base t v)
    (hM : ((ds ++ gs).map B).sum ≤ M) (hW : DataW.Whole enc P fn.params.toList s.vars false W args.toList ds gs before) :
    Calls P f args W fun e W' => ∃ v, e = .returned v ∧ s.post enc P fn false true false false W args v W' := by
  simp only [List.all_eq_true, Bool.and_eq_true, decide_eq_true_eq] at hps
  have hW' := hW
  obtain ⟨p, q, hA, hV, hbf, _, _⟩ := hW
  rw [hvars] at hV
  have hgs : gs = [] ∧ q = [] := by
    cases gs with
    | nil => exact ⟨rfl, by simpa [DataW.TrodVars] using hV⟩
    | cons _ _ => simp [DataW.TrodVars] at hV
  obtain ⟨rfl, rfl⟩ := hgs
  obtain ⟨xs, h1, h2, hwt⟩ := args_hasB hB (n := n) (fun t ht => (hps t ht).1.1) (fun j t v ht hv => hval j t v (by simpa using ht) (by simpa using hv)) hA
  obtain ⟨l⟩ := args
  refine ((hwalk xs h2 (by rw [List.append_nil] at hM; omega)).2 (κ0 W) W l 0 (fun _ => False) (R0 W) h1).mono ?_
  rintro e W' ⟨v, x, κ', σ', rfl, _, _, _, hfr, _, hv, hx⟩
  subst hx
  refine ⟨v, rfl, ?_⟩
  rw [hv.bool_inv]
  have hbelow : Below W.heap.size W W' := ⟨hfr.os.os, hfr.tape, hfr.output, hfr.size, fun b hlt => hfr.block b hlt (by rintro ⟨n, r, hn, _⟩; simp [σ0] at hn)⟩
  have hd := hfn ds (trodAll_len hA)
  refine ⟨ds, [], before, [], p, [], hW', ?_, ?_, ?_, hbelow.frame _, fun h => by cases h⟩
  · rw [List.append_nil, hd, hrt]
    exact ⟨[], [], shut_bool hb true, rfl, rfl⟩
  · rw [List.append_nil, hd]
    exact trodAll_below hl hbelow (fun t ht => ⟨(hps t ht).1.2, (hps t ht).2⟩) hA
  · rw [hvars, List.append_nil, hd]
    rfl

end

end Go.VL

namespace Go.VL

open Go.Proofs

end Go.VL

namespace Go.Proofs.Ytmbbeldgfhnkbaa

open Go.RowKit Go.VL

theorem own : ownKnob Try.prog.godebug = none := by kernel_rfl

theorem laidOut : laidOutB Try.prog = true := by kernel_rfl

end Go.Proofs.Ytmbbeldgfhnkbaa

namespace Go.VL

open Go.Proofs

/-- a span whose numbers fit -/
def Sp.ok (s : Sp) : Prop := s.tr < 18446744073709551616 ∧ s.id < 18446744073709551616 ∧ (-9223372036854775808 ≤ s.st ∧ s.st ≤ 9223372036854775807) ∧ (-9223372036854775808 ≤ s.en ∧ s.en ≤ 9223372036854775807) ∧ s.da.length ≤ 9223372036854775807

def Tc.ok (t : Tc) : Prop := t.id < 18446744073709551616 ∧ t.sp.length ≤ 9223372036854775807 ∧ ∀ s ∈ t.sp, s.ok

end Go.VL

namespace Go.VL

open Go.Proofs

theorem int_ty : Try.prog.underlying 3 = some (.int .i64) := by kernel_rfl

theorem ints_ty : Try.prog.underlying 99 = some (.slice 3) := by kernel_rfl

theorem intss_ty : Try.prog.underlying 96 = some (.slice 99) := by kernel_rfl

theorem ints_of {n : Nat} : ∀ {ys : List AV}, (∀ y ∈ ys, HasE Try.prog (n + 1) 3 y) → ∃ l : List Int, ys = nums .i64 l
  | [], _ => ⟨[], rfl⟩
  | y :: ys, h => by
    obtain ⟨m, rfl, _⟩ := has_int int_ty (h y (by simp))
    obtain ⟨l, rfl⟩ := ints_of (fun z hz => h z (List.mem_cons_of_mem _ hz))
    exact ⟨m :: l, rfl⟩

theorem intss_of {n : Nat} : ∀ {ys : List AV}, (∀ y ∈ ys, HasE Try.prog (n + 2) 99 y) → ∃ l : List (List Int), ys = isAV l
  | [], _ => ⟨[], rfl⟩
  | y :: ys, h => by
    obtain ⟨zs, rfl, _, h1⟩ := has_slice ints_ty (h y (by simp))
    obtain ⟨m, rfl⟩ := ints_of h1
    obtain ⟨l, rfl⟩ := intss_of (fun z hz => h z (List.mem_cons_of_mem _ hz))
    exact ⟨m :: l, rfl⟩

theorem nums_wt (l : List Int) : wtl (nums .i64 l) = l.length := by
  induction l with
  | nil => exact wtl_nil
  | cons x l ih =>
    simp only [nums, List.map_cons] at ih ⊢
    rw [wtl_cons, wt_int, ih, List.length_cons]; omega

theorem isAV_wt (l : List (List Int)) : wtl (isAV l) = (l.map List.length).sum + l.length := by
  induction l with
  | nil => exact wtl_nil
  | cons x l ih =>
    simp only [isAV, List.map_cons] at ih ⊢
    rw [wtl_cons, wt_sl, nums_wt, ih, List.sum_cons, List.length_cons]; omega

end Go.VL

namespace Go.Proofs.Ytmbbeldgfhnkbaa

open Go.ChangeShapes Go.WideShapes Go.ChangeAt Go.RowKit Go.VL

theorem bulkAll_sum {H : Type} (l : List (DataW H)) : Rows.uptoBulkAll l = (l.map Rows.uptoBulk).sum := by
  induction l with
  | nil => simp [Rows.uptoBulkAll]
  | cons x l ih => simp only [Rows.uptoBulkAll, ih, List.map_cons, List.sum_cons]

theorem bulky (H : Type) : Bulky H Rows.uptoBulk := by
  refine ⟨fun d => ?_, fun s => ?_, fun es sp => ?_, fun ps => ?_⟩
  · cases d with
    | lit l => cases l <;> simp [Rows.uptoBulk]
    | nil => simp [Rows.uptoBulk]
    | ptr d => simp [Rows.uptoBulk]
    | slice elems spare => simp [Rows.uptoBulk]
    | agg parts => simp [Rows.uptoBulk]
    | iface t d => simp [Rows.uptoBulk]
    | map entries => simp [Rows.uptoBulk]
    | held h => simp [Rows.uptoBulk]
  · simp [Rows.uptoBulk]
  · simp only [Rows.uptoBulk, bulkAll_sum]; omega
  · simp only [Rows.uptoBulk, bulkAll_sum]; omega

set_option maxRecDepth 100000 in
theorem kwaySortsUpto_lifted (os : Os) (started : os.Started) (H : Type) (enc : TypeId × Value → H) (F : Stop.Interp) :
    ReturnsInHanded {} Try.checked os n_kwaySorts .any ((Rows.OpenSpec.upto Rows.kwaySortsSpec).pre6 enc Try.prog Try.f10 Rows.kwaySortsUptoRow.domain false) (((Rows.OpenSpec.upto Rows.kwaySortsSpec).at F).post enc Try.prog Try.f10 false true false false) := by
  refine returnsInHanded_of_cond (C := Try.checked) (s := Rows.OpenSpec.upto Rows.kwaySortsSpec) (k := Rows.uptoSmall) rfl own started (by kernel_rfl) Try.func10
    (OpenSpec.witness (enc := enc) (C := Try.checked) (s := Rows.OpenSpec.upto Rows.kwaySortsSpec) (k := Rows.uptoSmall) rfl false ⟨#[], #[.slice none 0 0], []⟩ 8 (by kernel_rfl) (by kernel_rfl) (by kernel_rfl)
      (x := ([.nil], [], [])) (by kernel_rfl) rfl (by kernel_rfl)) ?_
  intro W base args ds gs before hval hW _ hk _
  have hM : ((ds ++ gs).map Rows.uptoBulk).sum ≤ 1048576 := by
    rw [← bulkAll_sum]; exact of_decide_eq_true hk
  show Calls Try.prog n_kwaySorts args W fun e W' => ∃ v, e = .returned v ∧ Rows.kwaySortsSpec.post enc Try.prog Try.f10 false true false false W args v W'
  refine law_callsB (bulky H) 7 (tb := 4) laidOut (by kernel_rfl) rfl (by kernel_rfl) (by kernel_rfl) (fun ds hds => ?_) (fun xs hxs hwt => ?_) hval hM hW
  · match ds, hds with
    | [_d1], _ => rfl
  · have hxs' : HasAll Try.prog 7 [_] xs := hxs
    cases hxs' with
    | cons h1 r1 =>
      cases r1
      obtain ⟨ys, rfl, _, h1⟩ := has_slice intss_ty h1
      obtain ⟨l, rfl⟩ := intss_of h1
      rw [wtl_cons, wtl_nil, wt_sl, isAV_wt] at hwt
      exact (kwaySorts_ok (by omega) (by omega)).mono fun v _ ⟨e, _⟩ => e

theorem kwaySortsUpto_holds : Rows.KwaySortsUptoSaid :=
  OpenClaim.holds_of_cond n_kwaySorts Try.f10 rfl rfl rfl rfl rfl rfl rfl ⟨rfl, rfl, rfl, rfl, rfl⟩ rfl rfl rfl rfl rfl (by kernel_rfl) Try.func10 (by kernel_rfl)
    (of_decide_eq_true (by kernel_rfl)) (by unfold Func.isWrapper; first | (rw [if_pos (by decide +kernel)]; kernel_rfl) | (rw [if_neg (by decide +kernel)]; exact ⟨rfl, rfl⟩))
    (fun os started H enc _ F => kwaySortsUpto_lifted os started H enc F)

end Go.Proofs.Ytmbbeldgfhnkbaa
