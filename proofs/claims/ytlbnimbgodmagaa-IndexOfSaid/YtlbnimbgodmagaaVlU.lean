/- The value logic, part U: a law that returns true, whatever its arguments: the contract of its row. -/
import Derived.Test.YtlbnimbgodmagaaVlT
namespace Go.VL
open Go.RowKit

inductive HasAll (P : Program) (n : Nat) : List TypeId → List AV → Prop where
  | nil : HasAll P n [] []
  | cons {t : TypeId} {x : AV} {ts : List TypeId} {xs : List AV} (h : HasE P n t x) (r : HasAll P n ts xs) : HasAll P n (t :: ts) (x :: xs)

section
variable {H : Type} {enc : TypeId × Value → H} {P : Program} {W : World}

theorem arg_has {n : Nat} {r : Reach} {b0 : Nat} {t : TypeId} {v : Value} {d : DataW H} {ps : List MemPlace} (hg : goodT P n t = true) (hok : Value.okWide P W r b0 t v) (hd : DataW.Trod enc P W 0 (fun _ => true) true t v d ps) : ∃ x, V (κ0 W) W v x ∧ HasE P n t x := by
  obtain ⟨fuel, hf⟩ := hd
  obtain ⟨xs, h1, h2⟩ := trod_has hg hf
  refine ⟨mkE P t xs, ?_, (mkE_has h2).2⟩
  unfold mkE
  by_cases hs : isStruct P t = true
  · simp only [hs, if_true]
    unfold isStruct at hs
    split at hs
    · rename_i fs hu
      simp only [Value.okWide, hu] at hok
      obtain ⟨cs, rfl, _⟩ := hok
      obtain ⟨l⟩ := cs
      exact .agg _ _ (by simpa [Value.cells] using h1)
    · cases hs
  · have hs' : isStruct P t = false := by simpa using hs
    obtain ⟨x, rfl, hx⟩ := h2.single hs'
    simp only [hs', Bool.false_eq_true, if_false, List.headD_cons]
    have hna : ∀ cs, v ≠ .agg cs := by
      rintro cs rfl
      cases n with
      | zero => cases hg
      | succ n =>
        unfold goodT at hg
        split at hg
        · rename_i hu; simp [Value.okWide, hu, Cell.okWide, Cell.ok] at hok
        · rename_i hu; simp [Value.okWide, hu, Cell.okWide, Cell.ok] at hok
        · rename_i hu; simp [Value.okWide, hu, Cell.okWide, Cell.ok] at hok
        · rename_i hu; simp [Value.okWide, hu, Cell.okWide, Cell.ok] at hok
        · rename_i hu; unfold isStruct at hs'; rw [hu] at hs'; cases hs'
        · cases hg
    have hc : v.cells.toList = [v] := by
      cases v <;> first | rfl | exact absurd rfl (hna _)
    rw [hc] at h1
    cases h1 with
    | cons _ _ _ _ h _ => exact h

theorem args_has {n : Nat} {r : Reach} {b0 : Nat} : ∀ {ts : List TypeId} {vs : List Value} {ds : List (DataW H)} {ps : List MemPlace}, (∀ t ∈ ts, goodT P n t = true) → (∀ (j : Nat) t v, ts[j]? = some t → vs[j]? = some v → Value.okWide P W r b0 t v) →
    DataW.TrodAll enc P W 0 (fun _ => true) true ts vs ds ps → ∃ xs, Vl (κ0 W) W vs xs ∧ HasAll P n ts xs
  | [], [], [], _, _, _, _ => ⟨[], .nil, .nil⟩
  | t :: ts, v :: vs, d :: ds, ps, hg, hok, ⟨p, q, h1, h2, _⟩ => by
    obtain ⟨x, k1, k2⟩ := arg_has (hg t (by simp)) (hok 0 t v rfl rfl) h1
    obtain ⟨xs, k3, k4⟩ := args_has (fun t ht => hg t (List.mem_cons_of_mem _ ht)) (fun j t v ht hv => hok (j + 1) t v (by simpa using ht) (by simpa using hv)) h2
    exact ⟨x :: xs, .cons _ _ _ _ k1 k3, .cons k2 k4⟩
  | [], _ :: _, _, _, _, _, h => by simp [DataW.TrodAll] at h
  | [], [], _ :: _, _, _, _, h => by simp [DataW.TrodAll] at h
  | _ :: _, [], _, _, _, _, h => by simp [DataW.TrodAll] at h
  | _ :: _, _ :: _, [], _, _, _, h => by simp [DataW.TrodAll] at h

theorem trodAll_below (hl : laidOutB P = true) {W' : World} (hb : Below W.heap.size W W') : ∀ {ts : List TypeId} {vs : List Value} {ds : List (DataW H)} {ps : List MemPlace}, (∀ t ∈ ts, P.readableRec t = true ∧ t < P.types.size) →
    DataW.TrodAll enc P W 0 (fun _ => true) true ts vs ds ps → DataW.TrodAll enc P W' 0 (fun b => decide (b < W.heap.size)) true ts vs ds ps
  | [], [], [], _, _, h => by simpa [DataW.TrodAll] using h
  | t :: ts, v :: vs, d :: ds, ps, ht, ⟨p, q, h1, h2, e⟩ => by
    have hlt : ∀ x ∈ p, x.block < W.heap.size := by
      obtain ⟨n, hn⟩ := h1
      exact DataW.trod_lt n t _ _ hn
    exact ⟨p, q, Below.trod hl (ht t (by simp)).1 (ht t (by simp)).2 h1 hb hlt, trodAll_below hl hb (fun t h => ht t (List.mem_cons_of_mem _ h)) h2, e⟩
  | [], _ :: _, _, _, _, h => by simp [DataW.TrodAll] at h
  | [], [], _ :: _, _, _, h => by simp [DataW.TrodAll] at h
  | _ :: _, [], _, _, _, h => by simp [DataW.TrodAll] at h
  | _ :: _, _ :: _, [], _, _, h => by simp [DataW.TrodAll] at h

theorem trodAll_len {w : World} {b : Nat} {sp : Nat → Bool} {hd : Bool} : ∀ {ts : List TypeId} {vs : List Value} {ds : List (DataW H)} {ps : List MemPlace}, DataW.TrodAll enc P w b sp hd ts vs ds ps → ds.length = ts.length
  | [], [], [], _, _ => rfl
  | t :: ts, v :: vs, d :: ds, ps, ⟨p, q, h1, h2, e⟩ => by simp [trodAll_len h2]
  | [], _ :: _, _, _, h => by simp [DataW.TrodAll] at h
  | [], [], _ :: _, _, h => by simp [DataW.TrodAll] at h
  | _ :: _, [], _, _, h => by simp [DataW.TrodAll] at h
  | _ :: _, _ :: _, [], _, h => by simp [DataW.TrodAll] at h

/-- THE ROW's CONTRACT, from what a call comes to over values -/
theorem law_calls (n : Nat) {f : FuncId} {fn : Func} {s : ChangeSpec} {tb : TypeId} (hl : laidOutB P = true)
    (hps : fn.params.toList.all (fun t => goodT P n t && P.readableRec t && decide (t < P.types.size)) = true) (hvars : s.vars = []) (hrt : fn.resultTypes = #[tb]) (hb : P.underlying tb = some .bool)
    (hfn : ∀ ds : List (DataW H), ds.length = fn.params.toList.length → s.fn H ds = { results := [.lit (.bool true)], args := ds })
    (hwalk : ∀ xs, HasAll P n fn.params.toList xs → ACalls P f xs σ0 (fun v _ => v = .bool true))
    {base : Nat} {args : Array Value} {ds gs : List (DataW H)} {before : List MemPlace}
    (hval : ∀ (j : Nat) t v, fn.params[j]? = some t → args[j]? = some v → Value.okWide P W .any base t v)
    (hW : DataW.Whole enc P fn.params.toList s.vars false W args.toList ds gs before) :
    Calls P f args W fun e W' => ∃ v, e = .returned v ∧ s.post enc P fn false true false false W args v W' := by
  simp only [List.all_eq_true, Bool.and_eq_true, decide_eq_true_eq] at hps
  have hW' := hW
  obtain ⟨p, q, hA, hV, hbf, _, _⟩ := hW
  rw [hvars] at hV
  have hgs : gs = [] ∧ q = [] := by
    cases gs with
    | nil => exact ⟨rfl, by simpa [DataW.TrodVars] using hV⟩
    | cons _ _ => simp [DataW.TrodVars] at hV
  obtain ⟨rfl, rfl⟩ := hgs
  obtain ⟨xs, h1, h2⟩ := args_has (n := n) (fun t ht => (hps t ht).1.1) (fun j t v ht hv => hval j t v (by simpa using ht) (by simpa using hv)) hA
  obtain ⟨l⟩ := args
  refine ((hwalk xs h2).2 (κ0 W) W l 0 (fun _ => False) (R0 W) h1).mono ?_
  rintro e W' ⟨v, x, κ', σ', rfl, _, _, _, hfr, _, hv, hx⟩
  subst hx
  refine ⟨v, rfl, ?_⟩
  rw [hv.bool_inv]
  have hbelow : Below W.heap.size W W' := ⟨hfr.os, hfr.tape, hfr.output, hfr.size, fun b hlt => hfr.block b hlt (by rintro ⟨n, r, hn, _⟩; simp [σ0] at hn)⟩
  have hd := hfn ds (trodAll_len hA)
  refine ⟨ds, [], before, [], p, [], hW', ?_, ?_, ?_, hbelow.frame _, fun h => by cases h⟩
  · rw [List.append_nil, hd, hrt]
    exact ⟨[], [], shut_bool hb true, rfl, rfl⟩
  · rw [List.append_nil, hd]
    exact trodAll_below hl hbelow (fun t ht => ⟨(hps t ht).1.2, (hps t ht).2⟩) hA
  · rw [hvars, List.append_nil, hd]
    rfl
end
end Go.VL
