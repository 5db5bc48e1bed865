/- Texts put together, of these what the theorem needs: A range over maps.Values of a map of spans, gathered by slices.AppendSeq: the values come, each once, in a new row. Gathering and sorting a row of spans: from memories to values. Gathering and sorting a row of spans, told over values. slices.SortFunc at a row of spans, told over values. bytes.Compare, whose work the model does itself. What gathers and sorts spans at this seat: numbers and facts. MADE BY PROGRAM (mksp.py). slices.SortFunc and AppendSeq over maps.Values, at this seat's spans. The compiled code of functions of this seat. MADE BY PROGRAM (mkc.py). The compiled code of functions of this seat. MADE BY PROGRAM (mkc.py). Contracts: a store's small parts. Contracts: what is done with a store. Which of two spans is the lesser one, told; the map that gathers spans. The spans of a map, in order: maps.Values, slices.Collect, slices.SortedFunc. trace.Gather, walked. The plain law of gathering: what the map held, in order, is what the document gathers. trace.Gather, told as the document; rows of spans put together; trace.Merge. MADE IN PART BY PROGRAM out of VrD, VrE. The plain law of TraceUnion: merging is the same in whatever order. TraceUnion (layer 4), walked. The compiled code of functions of this seat. MADE BY PROGRAM (mkc.py). trace.Of: slices.IndexFunc and slices.DeleteFunc at an owned row of spans; the document's Of. The compiled code of functions of this seat. MADE BY PROGRAM (mkc.py). Contracts: spans out of bytes. -/
import Derived.Test.YtmbbeldgfhnkbaaKKwayMerges4
import Derived.Test.YtmbbeldgfhnkbaaChecked

set_option linter.unusedSimpArgs false
set_option linter.unusedVariables false

namespace Go.Proofs

open Go.RowKit Go.Maps Go.Sort Go.Shelf

variable {P : Program}

theorem ask_dr {α : Type} : ∀ (k : Ask α) (w : World), w.drawn ≤ (w.ask k).2.drawn
  | .done a, w => Nat.le_refl _
  | .ask what range k, w => by
    unfold World.ask
    dsimp only
    split
    · exact ask_dr _ w
    · exact Nat.le_trans (Nat.le_succ _) (ask_dr _ { w with drawn := w.drawn + 1 })

theorem sys_dr (w : World) (c : Sys) : w.drawn ≤ (w.sys c).2.drawn := by
  unfold World.sys
  have := ask_dr (Kernel.perform c w.os) w
  split
  · exact Nat.le_refl _
  · rename_i r os w1 h heq
    rw [heq] at this
    exact this

theorem vs_dr {w : World} {a : Addr} {u : TypeId} {k : Addr} {v : Value} {at_ : Bool} {r : World × List Addr} (h : w.viewStore P a u k v at_ = .ok r) : r.1.drawn = w.drawn := by
  unfold World.viewStore at h
  simp only [bind, Except.bind, pure, Except.pure] at h
  repeat' (split at h)
  all_goals first
    | (cases h; done)
    | (cases h; rfl)
    | skip
  all_goals trace_state

theorem fs_dr {w : World} {a : Addr} {v : Value} {at_ : Bool} {r : World × List Addr} (h : w.farStore P a v at_ = .ok r) : r.1.drawn = w.drawn := by
  unfold World.farStore at h
  split at h
  · split at h
    · rename_i hh
      cases h
      exact vs_dr hh
    · cases h
  · cases h

theorem run_dr {α : Type} (s : Sem α) : ∀ (w : World) (b : α) (w' : World), s.run P w = .ok b w' → w.drawn ≤ w'.drawn := by
  induction s with
  | pure a => intro w b w' h; cases h; exact Nat.le_refl _
  | load m a k ih =>
    intro w b w' h
    rw [Sem.run] at h
    split at h
    · exact ih _ w b w' h
    · split at h
      · exact ih _ w b w' h
      · cases h
  | store m a v k ih =>
    intro w b w' h
    cases v with
    | agg c => rw [Sem.run] at h; cases h
    | tuple c => rw [Sem.run] at h; cases h
    | _ =>
      simp only [Sem.run] at h
      split at h
      · split at h
        · cases h
        · exact ih (w.setCell a _) b w' h
      · split at h
        · rename_i hh
          rw [← fs_dr hh]
          exact ih _ b w' h
        · cases h
  | new o k ih => intro w b w' h; rw [Sem.run] at h; exact ih _ { w with heap := w.heap.push o } b w' h
  | shape r k ih => intro w b w' h; rw [Sem.run] at h; exact ih _ w b w' h
  | freeze a n k ih =>
    intro w b w' h
    rw [Sem.run] at h
    have := ih _ b w' h
    unfold World.freeze at this
    split at this <;> exact this
  | frozen a k ih => intro w b w' h; rw [Sem.run] at h; exact ih _ w b w' h
  | getObj r k ih =>
    intro w b w' h
    rw [Sem.run] at h
    split at h
    · cases h
    · exact ih _ w b w' h
    · cases h
  | setObj r o k ih =>
    intro w b w' h
    rw [Sem.run] at h
    split at h
    · cases h
    · exact ih { w with heap := w.heap.setIfInBounds r o } b w' h
    · cases h
  | choose q k ih =>
    intro w b w' h
    rw [Sem.run] at h
    split at h
    · exact ih _ w b w' h
    · exact Nat.le_trans (Nat.le_succ _) (ih _ { w with drawn := w.drawn + 1 } b w' h)
  | sys c k ih => intro w b w' h; rw [Sem.run] at h; exact Nat.le_trans (sys_dr w c) (ih _ _ b w' h)
  | program k ih => intro w b w' h; rw [Sem.run] at h; exact ih _ w b w' h
  | mark m k ih => intro w b w' h; rw [Sem.run] at h; exact ih w b w' h
  | halt h => intro w b w' e; cases e

/-- what an invariant abides: an iterator's step -/
def AbD {β : Type} (B : Nat) (J : β → World → Prop) : Prop :=
  ∀ s W W' row, J s W → W.grownBy W' row → W.drawn ≤ W'.drawn → (∀ r, row = some r → B ≤ r ∧ ∃ o : Obj, W.heap[r]? = some o ∧ o.isWalk = true) → J s W'

/-- what an iterator's value gives -/
def SeqD {α : Type} (F : Fence) (n : Nat) (P : Program) (g : Nat) (lb : Array Value) (enc : α → Value) (S : List α → Prop) (N : Nat) (w : World) : Prop :=
  ∀ (l : Nat) (J : List α → World → Prop) (W : World), Below w.heap.size w W → AbD W.heap.size J →
    (∀ pre x W1, J pre W1 → pre.length < N → YieldAt F (n - 1) P l #[enc x] W1 fun e W' => e = .returned (.bool true) ∧ J (pre ++ [x]) W' ∧ KeepsWalks W1 W') →
    J [] W →
    CallsIn F n P g (#[.func (.yield l) #[] #[]] ++ lb) W fun e W' => (∃ v, e = .returned v) ∧ ∃ xs, S xs ∧ J xs W'

theorem wpListIn_append_dr {F : Fence} {n : Nat} (w : World) {ops : Array Oper} {rest : List Oper} {o : Oper} {a : Act} {Q : Exit → Act → World → Prop}
    (hg : o.guard = none) (s x : Operand) (t : TypeId) (hop : o.op = Op.call { callee := Callee.builtin Builtin.append, args := #[s, x], argTypes := #[t, t] })
    (base : Nat) (e : TypeId) (i : TypeInfo) (z : Value) (size bytes : Nat) (h1 : P.underlying t = some (.slice e)) (h2 : P.info? e = some i) (h3 : i.zero = some z) (h4 : i.size = size) (h5 : i.bytes = bytes) (h6 : z.cells.size = size) (h7 : 0 < size)
    (v : Value) (k : Nat) (xs : List Value) (hs : a.eval s = v) (hown : w.ownsRow base e size v k xs) (ad : Addr) (m c : Nat) (news : List Value) (hx : a.eval x = .slice (some ad) m c) (hn : news.length = m * size)
    (hc : ∀ j u, news[j]? = some u → w.cell? (ad.add j) = some u) (h1c : ∀ u ∈ news, u.oneCell' = true) (b1 : k + m ≤ maxLen) (b2 : (k + m) * bytes ≤ 140737488355328) (b3 : base ≤ w.heap.size)
    (hK : ∀ v' w', w'.ownsRow base e size v' (k + m) (xs ++ news) → w.grownBy w' v.ownBlock → w.drawn ≤ w'.drawn → wpListIn F n P ops Q rest (a.put o.dst v') w') :
    wpListIn F n P ops Q (o :: rest) a w := by
  refine wpListIn_plain hg fun K hK' => ?_
  obtain ⟨v', w', hrun, r1, r2, _⟩ := run_append_own (P := P) w base t o.type e i z size bytes h1 h2 h3 h4 h5 h6 h7 v k xs hown ad m c news hn hc h1c b1 b2 b3
  unfold Oper.wpIn
  refine ⟨by simp [Oper.about, hop, resolve, Target.leads, Sem.run_pure], ?_⟩
  rw [Oper.semAt_plain F _ _ (by rw [hop]; intro c hc'; cases hc')]
  simp [execOp, hop, resolve, invoke, builtin, hs, hx, hrun, Result.andThen]
  exact hK' _ _ (hK v' w' r1 r2 (run_dr _ _ _ _ hrun))

structure Walks (b r : Nat) (es : List MapEntry) (clk : Nat) (seen : List Nat) (w : World) : Prop where
  m : w.heap[b]? = some (.map ⟨es⟩ clk)
  it : w.heap[r]? = some (.mapIter (some b) clk ⟨seen⟩ clk)
  nd : (es.map (·.born)).Nodup
  lt : ∀ e ∈ es, e.born < clk

theorem Walks.ne {b r : Nat} {es : List MapEntry} {clk : Nat} {seen : List Nat} {w : World} (h : Walks b r es clk seen w) : b ≠ r := fun e => by
  have := h.m; rw [e, h.it] at this; cases this

theorem Walks.keep {b r : Nat} {es : List MapEntry} {clk : Nat} {seen : List Nat} {w w' : World} (h : Walks b r es clk seen w) (hk : KeepsWalks w w') : Walks b r es clk seen w' :=
  ⟨hk.same _ _ h.m rfl, hk.same _ _ h.it rfl, h.nd, h.lt⟩

theorem Walks.start {b : Nat} {es : List MapEntry} {clk : Nat} {w : World} (hm : w.heap[b]? = some (.map ⟨es⟩ clk)) (nd : (es.map (·.born)).Nodup) (lt : ∀ e ∈ es, e.born < clk) :
    Walks b w.heap.size es clk [] (w.alloc (.mapIter (some b) clk #[] clk)) :=
  ⟨(Below.heap_alloc _ _ b (Array.getElem?_eq_some_iff.1 hm).1).trans hm, World.alloc_heap_new w _, nd, lt⟩

theorem raw_getObj {b : Nat} {w : World} {ob : Obj} (h : w.heap[b]? = some ob) (ho : ∀ c e f, ob ≠ .cells c e f) : (getObj b).run P w = .ok ob w := by
  cases ob <;> first | (exact absurd rfl (ho _ _ _)) | simp [getObj, Sem.run, h]

theorem raw_setObj {b : Nat} {w : World} {ob : Obj} (h : w.heap[b]? = some ob) (ho : ∀ c e f, ob ≠ .cells c e f) (ob' : Obj) : (setObj b ob').run P w = .ok () (w.putObj b ob') := by
  cases ob <;> first | (exact absurd rfl (ho _ _ _)) | simp [setObj, Sem.run, h, World.putObj]

theorem Walks.range {b : Nat} {es : List MapEntry} {clk : Nat} {w : World} {t k e : TypeId} (ht : P.underlying t = some (.map k e)) (hm : w.heap[b]? = some (.map ⟨es⟩ clk)) :
    (Instr.range t (.map (some b))).run P w = .ok (.pointer (some ⟨w.heap.size, 0, none⟩)) (w.alloc (.mapIter (some b) clk #[] clk)) := by
  have hg := raw_getObj (P := P) hm (by simp)
  simp [Instr.range, run_underlying ht, hg]

theorem Walks.next {b r : Nat} {es : List MapEntry} {clk : Nat} {seen : List Nat} {w : World} (h : Walks b r es clk seen w) (ty : TypeId) :
    ((∀ e ∈ es, e.born ∈ seen) ∧ ∃ q, w.drawn ≤ q ∧ (Instr.next (.pointer (some ⟨r, 0, none⟩)) false ty).run P w = .ok (.tuple #[.bool false]) { w with drawn := q }) ∨
    (∃ e w', e ∈ es ∧ e.born ∉ seen ∧ (Instr.next (.pointer (some ⟨r, 0, none⟩)) false ty).run P w = .ok (.tuple #[.bool true, e.key, e.val]) w' ∧ Walks b r es clk (seen ++ [e.born]) w' ∧ w.grownBy w' (some r) ∧ w.drawn ≤ w'.drawn ∧ w'.heap.size = w.heap.size ∧
      (Instr.entry (.pointer (some ⟨r, 0, none⟩))).run P w' = .ok (.tuple #[e.key, e.val]) w') := by
  have hg := raw_getObj (P := P) h.it (by simp)
  have hg2 := raw_getObj (P := P) h.m (by simp)
  have hcond : (!(⟨seen⟩ : Array Nat).isEmpty && !(⟨es⟩ : Array MapEntry).isEmpty && (⟨es⟩ : Array MapEntry).all (fun e => decide (e.born ≥ clk))) = false := by
    cases hents : es with
    | nil => simp
    | cons e r =>
      have := h.lt e (by rw [hents]; simp)
      have : decide (e.born ≥ clk) = false := by simp; omega
      simp [this]
  let L : List MapEntry := es.filter fun e => !seen.contains e.born
  have hleft : (⟨es⟩ : Array MapEntry).filter (fun e => !(⟨seen⟩ : Array Nat).contains e.born) = ⟨L⟩ := by
    apply Array.ext'; simp [L]
  have hold : (⟨L⟩ : Array MapEntry).filter (fun e => decide (e.born < clk)) = ⟨L⟩ := by
    apply Array.ext'
    simp only [List.filter_toArray]
    rw [List.filter_eq_self.2]
    intro e he
    simpa using h.lt e ((List.mem_filter.1 he).1)
  have hnew : (⟨L⟩ : Array MapEntry).filter (fun e => decide (e.born ≥ clk)) = ⟨[]⟩ := by
    apply Array.ext'
    simp only [List.filter_toArray]
    rw [List.filter_eq_nil_iff.2]
    intro e he
    have := h.lt e ((List.mem_filter.1 he).1)
    simp; omega
  let Cn : List (Option MapEntry) := (if L = [] then [none] else []) ++ L.map some
  have hcand : (if (⟨L⟩ : Array MapEntry).isEmpty = true then #[none] else #[]) ++ ((⟨L⟩ : Array MapEntry) ++ (⟨[]⟩ : Array MapEntry)).map some = (⟨Cn⟩ : Array (Option MapEntry)) := by
    by_cases hl : L = []
    · rw [hl]; simp [Cn, hl]
    · have : (⟨L⟩ : Array MapEntry).isEmpty = false := by
        cases hL : L with
        | nil => exact absurd hL hl
        | cons _ _ => simp
      rw [this]; simp [Cn, hl]
  have hpos : 0 < Cn.length := by
    cases hL : L with
    | nil => simp [Cn, hL]
    | cons _ _ => simp [Cn, hL]
  obtain ⟨j, wq, hjl, hch, hwq⟩ : ∃ j wq, j < Cn.length ∧ (choose (.mapNext Cn.length)).run P w = .ok j wq ∧ ∃ q, w.drawn ≤ q ∧ wq = { w with drawn := q } := by
    rw [run_choose_drew]
    split
    · exact ⟨0, w, hpos, rfl, w.drawn, Nat.le_refl _, rfl⟩
    · exact ⟨_, _, Nat.mod_lt _ hpos, rfl, _, Nat.le_succ _, rfl⟩
  obtain ⟨q, hq, rfl⟩ := hwq
  have hrun : ∀ {z : Value} {w' : World}, ((match Cn[j]? with
      | some (some e) => (do setObj r (.mapIter (some b) clk ((⟨seen⟩ : Array Nat).push e.born) clk); pure (.tuple #[.bool true, e.key, e.val]) : Sem Value)
      | some none => pure (.tuple #[.bool false])
      | none => stuck "Next: no such candidate").run P { w with drawn := q }) = .ok z w' → (Instr.next (.pointer (some ⟨r, 0, none⟩)) false ty).run P w = .ok z w' := by
    intro z w' hz
    have hsz : (⟨Cn⟩ : Array (Option MapEntry)).size = Cn.length := rfl
    simp only [Instr.next, Sem.run_bind, hg, Result.andThen_ok, hg2, hcond, Bool.false_eq_true, if_false, Sem.run_pure, hleft, hold, hnew, hcand, hsz, hch, List.getElem?_toArray]
    split at hz <;> rename_i hz0 <;> (try simp only [hz0]) <;> (try simp only [Sem.run_bind] at hz ⊢) <;> exact hz
  by_cases hL : L = []
  · left
    have hCn : Cn = [none] := by simp [Cn, hL]
    have hj0 : j = 0 := by rw [hCn] at hjl; simpa using hjl
    refine ⟨fun e he => ?_, q, hq, hrun ?_⟩
    · by_cases hs : e.born ∈ seen
      · exact hs
      · have : e ∈ L := List.mem_filter.2 ⟨he, by simpa using hs⟩
        rw [hL] at this; cases this
    · rw [hCn, hj0]; simp
  · right
    have hCn : Cn = L.map some := by simp [Cn, hL]
    have hjL : j < L.length := by rw [hCn] at hjl; simpa using hjl
    have hcj : Cn[j]? = some (some L[j]) := by rw [hCn]; simp [hjL]
    have hmem : L[j] ∈ L := List.getElem_mem _
    generalize L[j] = e0 at hcj hmem
    obtain ⟨hme, hns⟩ := List.mem_filter.1 hmem
    have hnin : e0.born ∉ seen := by simpa using hns
    have hrl : r < w.heap.size := (Array.getElem?_eq_some_iff.1 h.it).1
    have hset := raw_setObj (P := P) (w := { w with drawn := q }) h.it (by simp) (.mapIter (some b) clk ((⟨seen⟩ : Array Nat).push e0.born) clk)
    have hW : Walks b r es clk (seen ++ [e0.born]) (({ w with drawn := q } : World).putObj r (.mapIter (some b) clk ((⟨seen⟩ : Array Nat).push e0.born) clk)) := by
      refine ⟨(World.putObj_heap_other h.ne).trans h.m, ?_, h.nd, h.lt⟩
      rw [World.putObj_heap_same (w := { w with drawn := q }) hrl]; simp
    refine ⟨e0, ({ w with drawn := q } : World).putObj r (.mapIter (some b) clk ((⟨seen⟩ : Array Nat).push e0.born) clk), hme, hnin, hrun ?_, hW, ⟨rfl, rfl, rfl, by simp, fun k _ hk => World.putObj_heap_other (fun e => hk (by rw [e]))⟩, hq, by simp, ?_⟩
    · rw [hcj]; simp only [Sem.run_bind, hset, Result.andThen_ok, Sem.run_pure]
    · generalize (({ w with drawn := q } : World).putObj r (.mapIter (some b) clk ((⟨seen⟩ : Array Nat).push e0.born) clk)) = W' at hW ⊢
      have g1 := raw_getObj (P := P) hW.it (by simp)
      have g2 := raw_getObj (P := P) hW.m (by simp)
      have hback : (⟨seen ++ [e0.born]⟩ : Array Nat).back? = some e0.born := by simp [Array.back?]
      have hfind : (⟨es⟩ : Array MapEntry).find? (fun e => e.born == e0.born) = some e0 := by
        simp only [List.find?_toArray]
        obtain ⟨i, hi⟩ := List.getElem?_of_mem hme
        have hi' := List.getElem?_eq_some_iff.1 hi
        rw [List.find?_eq_some_iff_getElem]
        refine ⟨by simp, i, hi'.1, hi'.2, fun j hj => ?_⟩
        simp only [Bool.not_eq_true', beq_eq_false_iff_ne, ne_eq]
        intro hjb
        refine List.pairwise_iff_getElem.1 h.nd j i (by rw [List.length_map]; exact Nat.lt_trans hj hi'.1) (by rw [List.length_map]; exact hi'.1) hj ?_
        simp only [List.getElem_map, hi'.2]; exact hjb
      simp [Instr.entry, g1, hback, g2, hfind]

theorem wpListIn_range_raw {F : Fence} {n : Nat} {ops : Array Oper} {Q : Exit → Act → World → Prop} {o : Oper} {rest : List Oper} {a : Act} {w : World} (hg : o.guard = none) (m : Operand) (t : TypeId) (hop : o.op = Op.range t m) (k e : TypeId) (ht : P.underlying t = some (.map k e)) (b : Nat) (es : List MapEntry) (clk : Nat)
    (hm : a.eval m = .map (some b)) (hb : w.heap[b]? = some (.map ⟨es⟩ clk))
    (hK : wpListIn F n P ops Q rest (a.put o.dst (.pointer (some ⟨w.heap.size, 0, none⟩))) (w.alloc (.mapIter (some b) clk #[] clk))) :
    wpListIn F n P ops Q (o :: rest) a w := by
  refine wpListIn_plain hg fun K' hK' => ?_
  have hrun := Walks.range (P := P) ht hb
  unfold Oper.wpIn
  refine ⟨by simp [Oper.about, hop], ?_⟩
  rw [Oper.semAt_plain F _ _ (by rw [hop]; intro c hc'; cases hc')]
  simp [execOp, hop, hm, hrun, Result.andThen]
  exact hK' _ _ hK

theorem wpListIn_next_raw {F : Fence} {n : Nat} {ops : Array Oper} {Q : Exit → Act → World → Prop} {o : Oper} {rest : List Oper} {a : Act} {w : World} (hg : o.guard = none) (it : Operand) (hop : o.op = Op.next it false) {b r : Nat} {es : List MapEntry} {clk : Nat} {seen : List Nat} (hit : a.eval it = .pointer (some ⟨r, 0, none⟩)) (h : Walks b r es clk seen w)
    (hDone : ∀ q, w.drawn ≤ q → (∀ e ∈ es, e.born ∈ seen) → wpListIn F n P ops Q rest (a.put o.dst (.tuple #[.bool false])) { w with drawn := q })
    (hMore : ∀ e w', e ∈ es → e.born ∉ seen → Walks b r es clk (seen ++ [e.born]) w' → w.grownBy w' (some r) → w.drawn ≤ w'.drawn → w'.heap.size = w.heap.size → (Instr.entry (.pointer (some ⟨r, 0, none⟩))).run P w' = .ok (.tuple #[e.key, e.val]) w' → wpListIn F n P ops Q rest (a.put o.dst (.tuple #[.bool true, e.key, e.val])) w') :
    wpListIn F n P ops Q (o :: rest) a w := by
  refine wpListIn_plain hg fun K' hK' => ?_
  unfold Oper.wpIn
  refine ⟨by simp [Oper.about, hop], ?_⟩
  rw [Oper.semAt_plain F _ _ (by rw [hop]; intro c hc'; cases hc')]
  rcases h.next (P := P) o.type with ⟨hall, q, hq, hrun⟩ | ⟨e, w', he, hn, hrun, hW, hgr, hdr, hsz, hen⟩
  · simp [execOp, hop, hit, hrun, Result.andThen]
    exact hK' _ _ (hDone q hq hall)
  · simp [execOp, hop, hit, hrun, Result.andThen]
    exact hK' _ _ (hMore e w' he hn hW hgr hdr hsz hen)

theorem perm_out {es : List MapEntry} {e : MapEntry} (he : e ∈ es) (nd : (es.map (·.born)).Nodup) : es.Perm (e :: es.filter fun x => x.born != e.born) := by
  induction es with
  | nil => cases he
  | cons y r ih =>
    simp only [List.map_cons, List.nodup_cons] at nd
    rcases List.mem_cons.1 he with rfl | he'
    · have : r.filter (fun x => x.born != e.born) = r := by
        rw [List.filter_eq_self]
        intro x hx
        simp only [bne_iff_ne, ne_eq]
        intro h
        exact nd.1 (h ▸ List.mem_map_of_mem hx)
      simp [this]
    · have hy : (y.born != e.born) = true := by
        simp only [bne_iff_ne, ne_eq]
        intro h
        exact nd.1 (h ▸ List.mem_map_of_mem he')
      simp only [List.filter_cons, hy, if_true]
      exact ((ih he' nd.2).cons y).trans (List.Perm.swap _ _ _)

theorem filter_step {es : List MapEntry} {seen : List Nat} {e : MapEntry} (he : e ∈ es) (hn : e.born ∉ seen) (nd : (es.map (·.born)).Nodup) :
    (es.filter fun x => !seen.contains x.born).Perm (e :: es.filter fun x => !(seen ++ [e.born]).contains x.born) := by
  have h1 : e ∈ es.filter fun x => !seen.contains x.born := List.mem_filter.2 ⟨he, by simpa using hn⟩
  have h2 : ((es.filter fun x => !seen.contains x.born).map (·.born)).Nodup := nd.sublist (List.filter_sublist.map _)
  have h3 := perm_out h1 h2
  rw [List.filter_filter] at h3
  have : (es.filter fun x => !(seen ++ [e.born]).contains x.born) = es.filter fun x => (x.born != e.born) && !seen.contains x.born := by
    apply List.filter_congr
    intro x _
    by_cases hx : x.born = e.born <;> simp [hx, hn, bne, Bool.and_comm]
  rw [this]; exact h3

def apA (tE : Nat) : Code := (Code.region 2
                    #[{ dst := some 5, op := Op.alloc tE, type := 0, pos := "iter.go:51", after := #[], guard := none },
                      { dst := none, op := Op.store tE (Operand.tmp 5) (Operand.tmp 7), type := 0, pos := "iter.go:51",
                        after := #[{ on := 0, ground := Ground.data }, { on := 0, ground := Ground.phase }],
                        guard := none }]
                    false)

def apB (tE tS : Nat) : Code := (Code.block 1
                    (Code.region 3
                      #[{ dst := some 8, op := Op.load tS (Operand.tmp 2), type := tS, pos := "iter.go:52",
                          after := #[], guard := none },
                        { dst := some 9, op := Op.load tE (Operand.tmp 5), type := tE, pos := "iter.go:52",
                          after := #[], guard := none },
                        { dst := some 10, op := Op.buildSlice tS 1 #[(0, Operand.tmp 9)], type := tS,
                          pos := "iter.go:52", after := #[{ on := 1, ground := Ground.data }], guard := none },
                        { dst := some 11,
                          op :=
                            Op.call
                              { callee := Callee.builtin Builtin.append, args := #[Operand.tmp 8, Operand.tmp 10],
                                argTypes := #[tS, tS] },
                          type := tS, pos := "iter.go:52",
                          after := #[{ on := 0, ground := Ground.data }, { on := 2, ground := Ground.data }],
                          guard := none },
                        { dst := none, op := Op.store tS (Operand.tmp 2) (Operand.tmp 11), type := 0,
                          pos := "iter.go:52",
                          after :=
                            #[{ on := 3, ground := Ground.data }, { on := 3, ground := Ground.chain },
                              { on := 0, ground := Ground.phase }, { on := 1, ground := Ground.phase },
                              { on := 2, ground := Ground.phase }, { on := 3, ground := Ground.phase }],
                          guard := none }]
                      false))

structure ElemK (P : Program) (tE tS : Nat) (size bytes : Nat) (z : List Value) : Prop where
  mixed : P.follows .mixedOrders = true
  t0 : P.underlying 0 = some (TypeDesc.tuple #[])
  uS : P.underlying tS = some (TypeDesc.slice tE)
  aS : ∀ w, (isAgg tS).run P w = .ok false w
  zS : ∀ w, (Go.sizeOf tS).run P w = .ok 1 w
  vS : ∀ w, (zeroValue tS).run P w = .ok (Value.slice none 0 0) w
  aE : ∀ w, (isAgg tE).run P w = .ok true w
  zE : ∀ w, (Go.sizeOf tE).run P w = .ok size w
  vE : ∀ w, (zeroValue tE).run P w = .ok (.agg ⟨z⟩) w
  iE : (P.info? tE).map (fun i => (i.zero, i.size, i.bytes)) = some (some (.agg ⟨z⟩), size, bytes)
  zl : z.length = size

structure SpV where
  a : Int
  b : Int
  c : Int
  d : Int
  p : Option Addr
  n : Nat
  m : Nat

instance : Inhabited SpV := ⟨⟨0, 0, 0, 0, none, 0, 0⟩⟩

abbrev SpV.cs (x : SpV) : List Value := [.int .u64 x.a, .int .u64 x.b, .int .i64 x.c, .int .i64 x.d, .slice x.p x.n x.m]

abbrev SpV.enc (x : SpV) : Value := .agg ⟨x.cs⟩

def SpV.dec : Value → SpV
  | .agg ⟨[.int _ a, .int _ b, .int _ c, .int _ d, .slice p n m]⟩ => ⟨a, b, c, d, p, n, m⟩
  | _ => ⟨0, 0, 0, 0, none, 0, 0⟩

def apRec5 (tE tS : Nat) (fn : FuncId) (sv : Value) (Bs D : Nat) (st : LoopState) (pend : Option Code) : Loop :=
  { state := st, pending := pend, fn, tmps := #[.slice none 0 0, sv, .pointer (some ⟨Bs, 0, none⟩), undef, .slice none 0 0, undef, sv, undef, undef, undef, undef, undef, undef], params := #[7], assign := apA tE, body := apB tE tS, defers := D }

structure ApAt5 (tE tS : Nat) (w0 : World) (fn : FuncId) (sv : Value) (Bs l D : Nat) (ss : List SpV) (W : World) : Prop where
  box : ∃ v, W.heap[Bs]? = some (.cells #[v] tS (0, 0)) ∧ W.ownsRow w0.heap.size tE 5 v ss.length (ss.flatMap SpV.cs) ∧ (v = .slice none 0 0 ↔ ss = [])
  L : W.heap[l]? = some (.loop (apRec5 tE tS fn sv Bs D .ready none))
  K : W.heap[D]? = some (.deferred (some []))
  below : Below w0.heap.size w0 W
  dr : w0.drawn ≤ W.drawn

theorem ap5_abides (tE tS : Nat) (w0 : World) (fn : FuncId) (sv : Value) (Bs l D B : Nat) (hB : w0.heap.size ≤ B) : AbD B (ApAt5 tE tS w0 fn sv Bs l D) := fun s W W' row h hg hdr hrow => by
  have hrow' : ∀ r, row = some r → ∃ o : Obj, W.heap[r]? = some o ∧ o.isWalk = true := fun r e => (hrow r e).2
  obtain ⟨v, hv, hr, hn⟩ := h.box
  exact ⟨⟨v, (grownBy_keeps hg hrow' hv rfl).trans hv, ownsRow_abides_a hr hg hrow', hn⟩, (grownBy_keeps hg hrow' h.L rfl).trans h.L, (grownBy_keeps hg hrow' h.K rfl).trans h.K,
    h.below.grown hg h.below.size (fun k e => Nat.le_trans hB (hrow k e).1), Nat.le_trans h.dr hdr⟩

theorem cells_new (W : World) (us : List Value) (t : TypeId) : ∀ j u, us[j]? = some u → (W.alloc (.cells ⟨us⟩ t)).cell? ((⟨W.heap.size, 0, none⟩ : Addr).add j) = some u := by
  intro j u hj
  have : ((⟨W.heap.size, 0, none⟩ : Addr).add j) = ⟨W.heap.size, j, none⟩ := by simp [Addr.add]; exact fun h => h.symm
  rw [this]
  simp only [World.cell?, World.alloc_heap_new]
  simpa using hj

set_option maxRecDepth 100000 in
set_option maxHeartbeats 2000000 in
theorem ap5_yield (tE tS bytes : Nat) (L : ElemK P tE tS 5 bytes [.int .u64 0, .int .u64 0, .int .i64 0, .int .i64 0, .slice none 0 0]) (F : Fence) (m : Nat) (w0 : World) (fn : FuncId) (hfn : F.fn fn) (sv : Value) (Bs l D : Nat) (hBl : Bs ≠ l) (hDl : D ≠ l) (hDB : D ≠ Bs) (h0B : w0.heap.size ≤ Bs) (h0l : w0.heap.size ≤ l)
    (N : Nat) (hN : N ≤ maxLen) (hNb : N * bytes ≤ 140737488355328) (ss : List SpV) (x : SpV) (W : World) (h : ApAt5 tE tS w0 fn sv Bs l D ss W) (hlen : ss.length < N) (hne : tS ≠ tE) :
    YieldAt F m P l #[x.enc] W fun e W' => e = .returned (.bool true) ∧ ApAt5 tE tS w0 fn sv Bs l D (ss ++ [x]) W' ∧ KeepsWalks W W' := by
  have mixed := L.mixed; have t0 := L.t0; have tS1 := L.uS; have aS := L.aS; have zS := L.zS; have vS := L.vS; have aE := L.aE; have zE := L.zE; have vE := L.vE
  have u0 := run_underlying L.t0; have uS := run_underlying L.uS
  obtain ⟨i0, hi, hz0, hz1, hz2⟩ := info_parts L.iE
  obtain ⟨v, hv, hrow, _⟩ := h.box
  refine ⟨fn, #[.slice none 0 0, sv, .pointer (some ⟨Bs, 0, none⟩), undef, .slice none 0 0, undef, sv, x.enc, undef, undef, undef, undef, undef], apA tE, apB tE tS, by simpa [apRec5] using run_yield (P := P) (args := #[x.enc]) h.L rfl, roundIn_of_wpIn hfn ?_⟩
  unfold apA
  gi_wp2_with gi_round_op_a
  obtain ⟨Wa, hWa⟩ : ∃ Wa, W.alloc (.cells #[.int .u64 x.a, .int .u64 x.b, .int .i64 x.c, .int .i64 x.d, .slice x.p x.n x.m] tE) = Wa := ⟨_, rfl⟩
  have hl0 : l < W.heap.size := (Array.getElem?_eq_some_iff.1 h.L).1
  have hLa : Wa.heap[l]? = some (.loop (apRec5 tE tS fn sv Bs D .ready none)) := by rw [← hWa]; exact (Below.heap_alloc _ _ l hl0).trans h.L
  rw [hWa]
  have hsa : Wa.heap.size = W.heap.size + 1 := by rw [← hWa]; simp
  have hg0 : W.grownBy Wa none := by rw [← hWa]; exact World.grownBy_alloc W _ none
  have hk0 : KeepsWalks W Wa := by rw [← hWa]; exact KeepsWalks.alloc _ _
  have hx0 : Wa.heap[W.heap.size]? = some (.cells #[.int .u64 x.a, .int .u64 x.b, .int .i64 x.c, .int .i64 x.d, .slice x.p x.n x.m] tE (0, 0)) := by rw [← hWa]; exact World.alloc_heap_new W _
  have hBl0 : Bs < W.heap.size := (Array.getElem?_eq_some_iff.1 hv).1
  have hDl0 : D < W.heap.size := (Array.getElem?_eq_some_iff.1 h.K).1
  have hva : Wa.heap[Bs]? = some (.cells #[v] tS (0, 0)) := by rw [← hWa]; exact (Below.heap_alloc _ _ Bs hBl0).trans hv
  have hKa : Wa.heap[D]? = some (.deferred (some [])) := by rw [← hWa]; exact (Below.heap_alloc _ _ D hDl0).trans h.K
  have hrowa : Wa.ownsRow w0.heap.size tE 5 v ss.length (ss.flatMap SpV.cs) := by rw [← hWa]; exact hrow.alloc _
  have hba : Below w0.heap.size w0 Wa := by rw [← hWa]; exact h.below.alloc h.below.size _
  have hda : w0.drawn ≤ Wa.drawn := by rw [← hWa]; exact h.dr
  have hbr := run_beginRound (P := P) hLa rfl
  obtain ⟨W2, hW2⟩ : ∃ W2, Wa.putObj l (.loop { apRec5 tE tS fn sv Bs D .ready none with state := .busy }) = W2 := ⟨_, rfl⟩
  rw [hW2] at hbr
  refine ⟨W2, hbr, ?_⟩
  have hg2 : Wa.grownBy W2 (some l) := by rw [← hW2]; exact grownBy_putObj_a _ _ _
  have hk2 : KeepsWalks Wa W2 := by rw [← hW2]; exact KeepsWalks.putObj _ hLa rfl
  have hla : l < Wa.heap.size := by omega
  have hv2 : W2.heap[Bs]? = some (.cells #[v] tS (0, 0)) := by rw [← hW2]; exact (World.putObj_heap_other hBl).trans hva
  have hK2 : W2.heap[D]? = some (.deferred (some [])) := by rw [← hW2]; exact (World.putObj_heap_other hDl).trans hKa
  have hL2 : W2.heap[l]? = some (.loop { apRec5 tE tS fn sv Bs D .ready none with state := .busy }) := by rw [← hW2]; exact World.putObj_heap_same hla
  have hx2 : W2.heap[W.heap.size]? = some (.cells #[.int .u64 x.a, .int .u64 x.b, .int .i64 x.c, .int .i64 x.d, .slice x.p x.n x.m] tE (0, 0)) := by rw [← hW2]; exact (World.putObj_heap_other (by omega)).trans hx0
  have hrow2 : W2.ownsRow w0.heap.size tE 5 v ss.length (ss.flatMap SpV.cs) := hrowa.kept hg2 (ownsRow_ne_a hrowa hLa (fun cur e => by cases e))
  have hb2 : Below w0.heap.size w0 W2 := hba.grown hg2 hba.size (fun k e => by cases e; exact h0l)
  have hd2 : w0.drawn ≤ W2.drawn := by rw [← hW2]; exact hda
  obtain ⟨hc2, hf2⟩ := cell_of_box_a hv2
  have hcx : ∀ j (hj : j < 5), W2.cell? ⟨W.heap.size, j, none⟩ = some (x.cs[j]'(by simpa using hj)) := fun j hj => by
    simp only [World.cell?, hx2]
    match j, hj with
    | 0, _ => rfl
    | 1, _ => rfl
    | 2, _ => rfl
    | 3, _ => rfl
    | 4, _ => rfl
  have hcx0 := hcx 0 (by omega)
  have hcx1 := hcx 1 (by omega)
  have hcx2 := hcx 2 (by omega)
  have hcx3 := hcx 3 (by omega)
  have hcx4 := hcx 4 (by omega)
  clear hcx
  simp only [List.getElem_cons_zero, List.getElem_cons_succ] at hcx0 hcx1 hcx2 hcx3 hcx4
  have hBlt : Bs < W2.heap.size := (Array.getElem?_eq_some_iff.1 hv2).1
  have hl2 : l < W2.heap.size := (Array.getElem?_eq_some_iff.1 hL2).1
  have hDlt : D < W2.heap.size := (Array.getElem?_eq_some_iff.1 hK2).1
  have ne_of : ∀ {j : Nat} {o : Obj}, W2.heap[j]? = some o → (∀ cur, o ≠ .cells cur tE (0, 0)) → some j ≠ v.ownBlock := fun hj hno => by
    rcases ownsRow_ne_a hrow2 hj hno with e | e
    · rw [e]; simp
    · exact fun e' => e e'.symm
  clear hW2 hWa
  unfold apB
  gi_wp2_with (first
    | (gi_at_builtin; refine wpListIn_append_dr _ rfl _ _ tS rfl w0.heap.size tE i0 (.agg ⟨[.int .u64 0, .int .u64 0, .int .i64 0, .int .i64 0, .slice none 0 0]⟩) 5 bytes L.uS hi hz0 hz1 hz2 rfl (by decide) _ _ _ rfl (hrow2.alloc _) ⟨W2.heap.size, 0, none⟩ 1 1 x.cs rfl rfl (cells_new W2 x.cs tE) (by intro u hu; simp [SpV.cs] at hu; rcases hu with rfl | rfl | rfl | rfl | rfl <;> rfl) (by omega) (by have : (ss.length + 1) * bytes ≤ N * bytes := Nat.mul_le_mul_right _ (by omega); omega) (by have := hb2.size; simp; omega) ?_; intro v' w3 hown' hg3 hdr3
       have hv3 : w3.heap[Bs]? = some (.cells #[v] tS (0, 0)) := (hg3.block Bs (by simp; omega) (ne_of hv2 (fun cur e => hne (Obj.cells.inj e).2.1))).trans ((Below.heap_alloc _ _ Bs hBlt).trans hv2)
       obtain ⟨hc3, hf3⟩ := cell_of_box_a hv3
       obtain ⟨g', cap', cur', rfl, hbase', hgb', hr1, hr2, hr3, hr4⟩ : ∃ g' cap' cur', v' = .slice (some ⟨g', 0, none⟩) (ss.length + 1) cap' ∧ w0.heap.size ≤ g' ∧ w3.heap[g']? = some (.cells cur' tE (0, 0)) ∧ ss.length + 1 ≤ cap' ∧ cap' ≤ maxLen ∧ cur'.size = cap' * 5 ∧ cur'.toList.take ((ss.length + 1) * 5) = ss.flatMap SpV.cs ++ x.cs := by
         rcases hown'.2 with ⟨_, h0⟩ | h'
         · exact absurd h0 (by omega)
         · exact h'
       go_frame)
    | gi_round_op_a)
  have hd3 : w0.drawn ≤ w3.drawn := Nat.le_trans hd2 hdr3
  have hg3' : (W2.alloc (.cells ⟨x.cs⟩ tE)).grownBy w3 v.ownBlock := hg3
  have hL3 : w3.heap[l]? = some (.loop { apRec5 tE tS fn sv Bs D .ready none with state := .busy }) := (hg3'.block l (by simp; omega) (ne_of hL2 (fun cur e => by cases e))).trans ((Below.heap_alloc _ _ l hl2).trans hL2)
  have hK3 : w3.heap[D]? = some (.deferred (some [])) := (hg3'.block D (by simp; omega) (ne_of hK2 (fun cur e => by cases e))).trans ((Below.heap_alloc _ _ D hDlt).trans hK2)
  obtain ⟨w4, hw4⟩ : ∃ w4, w3.setCell ⟨Bs, 0, none⟩ (.slice (some ⟨g', 0, none⟩) (ss.length + 1) cap') = w4 := ⟨_, rfl⟩
  rw [hw4]
  have hg4 : w3.grownBy w4 (some Bs) := by rw [← hw4]; exact grownBy_setCell0_a _ _ _
  have hv4 : w4.heap[Bs]? = some (.cells #[.slice (some ⟨g', 0, none⟩) (ss.length + 1) cap'] tS (0, 0)) := by rw [← hw4]; exact heap_setCell_box_a _ hv3
  have hL4 : w4.heap[l]? = some (.loop { apRec5 tE tS fn sv Bs D .ready none with state := .busy }) := (hg4.block l (Array.getElem?_eq_some_iff.1 hL3).1 (fun e => hBl (by cases e; rfl))).trans hL3
  have hK4 : w4.heap[D]? = some (.deferred (some [])) := (hg4.block D (Array.getElem?_eq_some_iff.1 hK3).1 (fun e => hDB (by cases e; rfl))).trans hK3
  have hrow4 := hown'.kept hg4 (ownsRow_ne_a hown' hv3 (fun cur e => hne (Obj.cells.inj e).2.1))
  have hd4 : w0.drawn ≤ w4.drawn := by rw [← hw4]; exact hd3
  have hl4 : l < w4.heap.size := (Array.getElem?_eq_some_iff.1 hL4).1
  have hb3 : Below w0.heap.size w0 w3 := (hb2.alloc hb2.size _).grown hg3' (by have := hb2.size; simp; omega) (fun k e => (hrow2.lt k e).1)
  have hb4 : Below w0.heap.size w0 w4 := hb3.grown hg4 hb3.size (fun k e => by cases e; exact h0B)
  have hk4 : KeepsWalks W w4 := (((hk0.trans hk2).trans (KeepsWalks.alloc _ _)).trans (KeepsWalks.of_grownBy hg3' (ownsRow_not_walk_a (hrow2.alloc _)))).trans (by rw [← hw4]; exact KeepsWalks.setCell _ _ _)
  clear hw4
  refine ⟨_, _, run_endRound none hL4, rfl, ⟨⟨_, (World.putObj_heap_other hBl).trans hv4, ?_, by simp⟩, World.putObj_heap_same hl4, (World.putObj_heap_other hDl).trans hK4, hb4.grown (grownBy_putObj_a _ _ _) hb4.size (fun k e => by cases e; exact h0l), hd4⟩, hk4.trans (KeepsWalks.putObj _ hL4 rfl)⟩
  have := hrow4.kept (grownBy_putObj_a w4 l (.loop { { apRec5 tE tS fn sv Bs D .ready none with state := .busy } with state := if (none : Option Code).isNone then .ready else .done, pending := none })) (ownsRow_ne_a hrow4 hL4 (fun cur e => by cases e))
  simpa using this

def apCode (tE tS tQ : Nat) : Code := ((Code.region 0
            #[{ dst := some 2, op := Op.box tS (Operand.tmp 0), type := 0, pos := "iter.go:50", after := #[],
                guard := none },
              { dst := some 4, op := Op.assign (Operand.const (Value.slice none 0 0)), type := tS, pos := "iter.go:50",
                after := #[], guard := none }]
            false).seq
        (((Code.region 1
                  #[{ dst := some 6, op := Op.move (Operand.tmp 1), type := tQ, pos := "iter.go:51", after := #[],
                      guard := none }]
                  false).seq
              (Code.block 0
                (Code.rangeFunc (Operand.tmp 6) #[7] (apA tE) (apB tE tS)))).seq
          ((Code.region 4
                #[{ dst := some 12, op := Op.load tS (Operand.tmp 2), type := tS, pos := "iter.go:54", after := #[],
                    guard := none },
                  { dst := some 4, op := Op.assign (Operand.tmp 12), type := tS, pos := "iter.go:54",
                    after := #[{ on := 0, ground := Ground.data }, { on := 0, ground := Ground.phase }],
                    guard := none }]
                false).seq
            Code.ret)))

set_option maxRecDepth 100000 in
set_option maxHeartbeats 2000000 in
theorem ap5_in (tE tS tQ bytes : Nat) (L : ElemK P tE tS 5 bytes [.int .u64 0, .int .u64 0, .int .i64 0, .int .i64 0, .slice none 0 0]) (hne : tS ≠ tE) (F : Fence) (n f : Nat) (fn : Func) (hf : P.funcs[f]? = some fn) (hb : fn.body = some (apCode tE tS tQ)) (hnt : fn.ntmps = 13) (hres : fn.results = #[.tmp 4])
    (h11 : F.fn f) (hro : F.round = none) (hn : 2 ≤ n) (g : Nat) (lb : Array Value) (hFg : F.fn g) (eg : ∀ args w, (callFunc g args).run P w = .ok (.enter g args) w)
    (S : List SpV → Prop) (N : Nat) (hN : N ≤ maxLen) (hNb : N * bytes ≤ 140737488355328) (w : World) (hseq : SeqD F (n - 1) P g lb SpV.enc S N w) :
    CallsIn F n P f #[.slice none 0 0, .func (.func g) #[] lb] w fun e w' => ∃ (v : Value) (ss : List SpV), e = .returned v ∧ S ss ∧ w'.ownsRow w.heap.size tE 5 v ss.length (ss.flatMap SpV.cs) ∧ (v = .slice none 0 0 ↔ ss = []) ∧ Below w.heap.size w w' ∧ w.drawn ≤ w'.drawn := by
  have h1 : 1 ≤ n := by omega
  have mixed := L.mixed; have t0 := L.t0; have tS1 := L.uS; have aS := L.aS; have zS := L.zS; have vS := L.vS; have aE := L.aE; have zE := L.zE; have vE := L.vE
  have u0 := run_underlying L.t0; have uS := run_underlying L.uS
  refine callsIn_of_wp_marks hf hb h11 ?_ hro
  unfold apCode
  simp only [List.size_toArray, List.length_cons, List.length_nil, Nat.reduceAdd, Nat.reduceSub, Array.replicate_succ, Array.replicate_zero, List.push_toArray, List.append_toArray, List.nil_append, List.cons_append]
  gi_wp2
  refine wpIn_rangeFunc ?_
  intro fn' hfn
  rw [hro]
  obtain ⟨W0, hW0⟩ : ∃ W0, w.alloc (.cells #[.slice none 0 0] tS) = W0 := ⟨_, rfl⟩
  have hs0 : W0.heap.size = w.heap.size + 1 := by rw [← hW0]; simp
  have hv0 : W0.heap[w.heap.size]? = some (.cells #[.slice none 0 0] tS (0, 0)) := by rw [← hW0]; exact World.alloc_heap_new w _
  have hb0 : Below w.heap.size w W0 := by rw [← hW0]; exact (Below.refl _ w).alloc (Nat.le_refl _) _
  rw [hW0]
  obtain ⟨W1, hW1⟩ : ∃ W1, (W0.alloc (.deferred (some []))).alloc (.loop (apRec5 tE tS fn' (.func (.func g) #[] lb) w.heap.size W0.heap.size .ready none)) = W1 := ⟨_, rfl⟩
  have hold : ∀ k, k < W0.heap.size → W1.heap[k]? = W0.heap[k]? := fun k hk => by
    rw [← hW1]; exact (Below.heap_alloc _ _ k (by simp; omega)).trans (Below.heap_alloc _ _ k hk)
  have hb1 : Below w.heap.size w W1 := by rw [← hW1]; exact (hb0.alloc hb0.size _).alloc (by have := hb0.size; simp; omega) _
  have hs1 : W1.heap.size = W0.heap.size + 2 := by rw [← hW1]; simp
  have hM : ApAt5 tE tS w fn' (.func (.func g) #[] lb) w.heap.size (W0.heap.size + 1) W0.heap.size [] W1 :=
    ⟨⟨_, (hold w.heap.size (by omega)).trans hv0, ⟨rfl, .inl ⟨rfl, rfl⟩⟩, by simp⟩,
     by rw [← hW1]; have := World.alloc_heap_new (W0.alloc (.deferred (some []))) (.loop (apRec5 tE tS fn' (.func (.func g) #[] lb) w.heap.size W0.heap.size .ready none)); rwa [World.size_alloc] at this,
     by rw [← hW1]; exact (Below.heap_alloc _ _ _ (by simp)).trans (World.alloc_heap_new W0 _), hb1, by rw [← hW1, ← hW0]; exact Nat.le_refl _⟩
  refine ⟨W0.heap.size + 1, [{ target := .collected W0.heap.size, args := #[] }], W1, { target := .fn (.func g) lb, args := #[.func (.yield (W0.heap.size + 1)) #[] #[]] }, W1, g,
    #[.func (.yield (W0.heap.size + 1)) #[] #[]] ++ lb, W1, ?_, ?_, ?_, ?_, fun _ => h1, ?_⟩
  · rw [← hW1]; exact run_enterLoop_outer _ _ _ _ _
  · simp [resolve, go_sem]
  · intro f' hf'; simp [Target.leads] at hf'; subst hf'; exact hFg
  · simp [invoke, go_sem, eg]
  · refine (hseq (W0.heap.size + 1) (ApAt5 tE tS w fn' (.func (.func g) #[] lb) w.heap.size (W0.heap.size + 1) W0.heap.size) W1 hb1 (ap5_abides tE tS _ _ _ _ _ _ _ hb1.size)
      (fun pre x W hJ hl => ap5_yield tE tS bytes L F (n - 1 - 1) w fn' hfn _ w.heap.size (W0.heap.size + 1) W0.heap.size (by omega) (by omega) (by omega) (Nat.le_refl _) (by omega) N hN hNb pre x W hJ hl hne) hM).mono ?_
    rintro e W2 ⟨⟨v0, rfl⟩, ss, hS, h2⟩
    obtain ⟨v, hv, hrow, hnil⟩ := h2.box
    have hend := run_endLoop (P := P) h2.L (by simp [apRec5])
    obtain ⟨W3, hW3⟩ : ∃ W3, W2.putObj (W0.heap.size + 1) (.loop { apRec5 tE tS fn' (.func (.func g) #[] lb) w.heap.size W0.heap.size .ready none with state := .exhausted }) = W3 := ⟨_, rfl⟩
    rw [hW3] at hend
    have hg3 : W2.grownBy W3 (some (W0.heap.size + 1)) := by rw [← hW3]; exact grownBy_putObj_a _ _ _
    have hv3 : W3.heap[w.heap.size]? = some (.cells #[v] tS (0, 0)) := by rw [← hW3]; exact (World.putObj_heap_other (by omega)).trans hv
    have hK3 : W3.heap[W0.heap.size]? = some (.deferred (some [])) := by rw [← hW3]; exact (World.putObj_heap_other (by omega)).trans h2.K
    have hrow3 := hrow.kept hg3 (ownsRow_ne_a hrow h2.L (fun cur e => by cases e))
    have hb3 : Below w.heap.size w W3 := h2.below.grown hg3 h2.below.size (fun k e => by cases e; omega)
    have hd3 : w.drawn ≤ W3.drawn := by rw [← hW3]; exact h2.dr
    obtain ⟨hc3, hf3⟩ := cell_of_box_a hv3
    clear hW3
    refine ⟨none, W3, hend, ?_⟩
    gi_wp2
    rw [← hs0]
    refine ⟨by simp, .inl ⟨_, _, rfl, run_takeDeferred hK3, ?_⟩⟩
    exact ⟨_, results_tmp hres _ _ _, v, ss, rfl, hS, hrow3.kept (grownBy_putObj_a _ _ _) (ownsRow_ne_a hrow3 hK3 (fun cur e => by cases e)), hnil, hb3.grown (grownBy_putObj_a _ _ _) hb3.size (fun k e => by cases e; omega), hd3⟩

def vaCode (tE tM tY tB : Nat) : Code := ((Code.region 0
            #[{ dst := some 5, op := Op.load tM (Operand.tmp 1), type := tM, pos := "iter.go:40", after := #[],
                guard := none },
              { dst := some 6, op := Op.range tM (Operand.tmp 5), type := 0, pos := "iter.go:40",
                after := #[{ on := 0, ground := Ground.data }], guard := none }]
            false).seq
        (Code.block 0
          ((Code.region 1
                  #[{ dst := some 7, op := Op.next (Operand.tmp 6) false, type := 0, pos := "iter.go:40", after := #[],
                      guard := none },
                    { dst := some 8, op := Op.extract (Operand.tmp 7) 0, type := tB, pos := "iter.go:40",
                      after := #[{ on := 0, ground := Ground.data }], guard := none }]
                  false).seq
              ((Code.cond (Operand.tmp 8) Code.skip (Code.exit 0)).seq
                (Code.block 1
                  ((Code.region 2
                        #[{ dst := some 9, op := Op.entry (Operand.tmp 6), type := 0, pos := "iter.go:40", after := #[],
                            guard := none },
                          { dst := some 10, op := Op.extract (Operand.tmp 9) 1, type := tE, pos := "iter.go:40",
                            after := #[{ on := 0, ground := Ground.data }], guard := none },
                          { dst := some 4, op := Op.alloc tE, type := 0, pos := "iter.go:40", after := #[],
                            guard := none },
                          { dst := none, op := Op.store tE (Operand.tmp 4) (Operand.tmp 10), type := 0,
                            pos := "iter.go:40",
                            after :=
                              #[{ on := 2, ground := Ground.data }, { on := 1, ground := Ground.data },
                                { on := 0, ground := Ground.phase }, { on := 1, ground := Ground.phase },
                                { on := 2, ground := Ground.phase }],
                            guard := none }]
                        false).seq
                    ((Code.region 3
                          #[{ dst := some 11, op := Op.move (Operand.tmp 0), type := tY, pos := "iter.go:41",
                              after := #[], guard := none },
                            { dst := some 12, op := Op.load tE (Operand.tmp 4), type := tE, pos := "iter.go:41",
                              after := #[], guard := none },
                            { dst := some 13,
                              op :=
                                Op.call
                                  { callee := Callee.value (Operand.tmp 11), args := #[Operand.tmp 12],
                                    argTypes := #[tE] },
                              type := tB, pos := "iter.go:41",
                              after := #[{ on := 0, ground := Ground.data }, { on := 1, ground := Ground.data }],
                              guard := none },
                            { dst := some 14, op := Op.unOp UnOp.not tB (Operand.tmp 13), type := tB, pos := "iter.go:41",
                              after := #[{ on := 2, ground := Ground.data }], guard := none }]
                          false).seq
                      (Code.cond (Operand.tmp 14) Code.ret Code.skip)))))).loop))

structure MapsK (P : Program) (tM tK tE tB : Nat) : Prop where
  uM : P.underlying tM = some (TypeDesc.map tK tE)
  aM : ∀ w, (isAgg tM).run P w = .ok false w
  zM : ∀ w, (Go.sizeOf tM).run P w = .ok 1 w
  vM : ∀ w, (zeroValue tM).run P w = .ok (Value.map none) w
  uB : P.underlying tB = some .bool
  aB : ∀ w, (isAgg tB).run P w = .ok false w
  zB : ∀ w, (Go.sizeOf tB).run P w = .ok 1 w
  vB : ∀ w, (zeroValue tB).run P w = .ok (Value.bool false) w

set_option maxRecDepth 100000 in
set_option maxHeartbeats 1000000 in
theorem va5_in (tE tS tM tK tY tB bytes : Nat) (L : ElemK P tE tS 5 bytes [.int .u64 0, .int .u64 0, .int .i64 0, .int .i64 0, .slice none 0 0]) (M : MapsK P tM tK tE tB) (F : Fence) (n f : Nat) (fn : Func) (hf : P.funcs[f]? = some fn) (hb : fn.body = some (vaCode tE tM tY tB)) (hnt : fn.ntmps = 15) (hres : fn.results = #[])
    (h10 : F.fn f) (hro : F.round = none) (hn : 1 ≤ n) (l Bm b clk : Nat) (es : List MapEntry) (xs : List SpV) (hxs : es.map (·.val) = xs.map SpV.enc) (J : List SpV → World → Prop)
    (hY : ∀ pre x W, J pre W → pre.length < es.length → YieldAt F (n - 1) P l #[x.enc] W fun e W' => e = .returned (.bool true) ∧ J (pre ++ [x]) W' ∧ KeepsWalks W W')
    (W : World) (hJ : AbD W.heap.size J) (hm : W.cell? ⟨Bm, 0, none⟩ = some (.map (some b))) (hown : W.heap[b]? = some (.map ⟨es⟩ clk)) (nd : (es.map (·.born)).Nodup) (lt : ∀ e ∈ es, e.born < clk) (h0 : J [] W) :
    CallsIn F n P f #[.func (.yield l) #[] #[], .pointer (some ⟨Bm, 0, none⟩)] W fun e W' => (∃ v, e = .returned v) ∧ ∃ ss : List SpV, ss.Perm xs ∧ J ss W' := by
  have mixed := L.mixed; have t0 := L.t0; have tS1 := L.uS; have aS := L.aS; have zS := L.zS; have vS := L.vS; have aE := L.aE; have zE := L.zE; have vE := L.vE
  have uM1 := M.uM; have aM := M.aM; have zM := M.zM; have vM := M.vM; have uB1 := M.uB; have aB := M.aB; have zB := M.zB; have vB := M.vB
  have u0 := run_underlying L.t0; have uS := run_underlying L.uS; have uM := run_underlying M.uM; have uB := run_underlying M.uB
  cases fn
  simp only at hb hnt hres
  subst hb hnt hres
  refine callsIn_of_wp hf rfl h10 ?_ hro
  unfold vaCode
  simp only [List.size_toArray, List.length_cons, List.length_nil, Nat.reduceAdd, Nat.reduceSub, Array.replicate_succ, Array.replicate_zero, List.push_toArray, List.append_toArray, List.nil_append, List.cons_append]
  gi_wp2_with (first
    | (gi_at_range; refine wpListIn_range_raw rfl _ tM rfl tK tE M.uM b es clk rfl hown ?_)
    | gi_in)
  go_frame
  have hmL : ∀ {pre : List SpV} {les : List MapEntry}, pre.map SpV.enc = les.map (·.val) → ∀ e ∈ es, ∃ x : SpV, e.val = x.enc := fun _ e he => by
    have : e.val ∈ xs.map SpV.enc := by rw [← hxs]; exact List.mem_map_of_mem he
    obtain ⟨x, _, hx⟩ := List.mem_map.1 this
    exact ⟨x, hx.symm⟩
  gi_loopw [4] (fun _ wr => ∃ (seen : List Nat) (les : List MapEntry) (pre : List SpV), Walks b W.heap.size es clk seen wr ∧ (les ++ es.filter fun x => !seen.contains x.born).Perm es ∧ pre.map SpV.enc = les.map (·.val) ∧ J pre wr)
    (fun _ wr => match wr.heap[W.heap.size]? with
      | some (.mapIter _ _ seen _) => (es.filter fun x => !seen.toList.contains x.born).length
      | _ => 0)
  case atStart =>
    have hfe : (es.filter fun x => !([] : List Nat).contains x.born) = es := List.filter_eq_self.2 (by simp)
    exact ⟨[], [], [], Walks.start hown nd lt, by rw [hfe]; exact List.Perm.refl _, rfl, hJ [] W _ none h0 (World.grownBy_alloc W _ none) (Nat.le_refl _) (fun r e => by cases e)⟩
  case round =>
    obtain ⟨seen, les, pre, hW, hp, hpl, hJs⟩ := hrel
    gi_wp2_with (first
      | (gi_at_next; refine wpListIn_next_raw rfl _ rfl rfl hW ?_ ?_)
      | gi_in)
    · -- nothing is left
      intro q hq hall
      have hemp : (es.filter fun x => !seen.contains x.born) = [] := by
        rw [List.filter_eq_nil_iff]; intro e he; simpa using hall e he
      rw [hemp, List.append_nil] at hp
      have hpp : pre.Perm xs := by
        have h1 : (pre.map SpV.enc).Perm (xs.map SpV.enc) := by rw [hpl, ← hxs]; exact hp.map _
        have h2 := h1.map SpV.dec
        have hid : (SpV.dec ∘ SpV.enc) = id := rfl
        simpa [List.map_map, hid] using h2
      have hJq : J pre { wr with drawn := q } := hJ pre wr _ none hJs ⟨rfl, rfl, rfl, Nat.le_refl _, fun _ _ _ => rfl⟩ hq (fun r e => by cases e)
      gi_wp2
      go_end0
      exact ⟨⟨_, rfl⟩, pre, hpp, hJq⟩
    · -- an entry has come
      intro e w2 he hns hW2 hg2 hdr2 hs2 hen
      obtain ⟨x, hx⟩ := hmL hpl e he
      rw [hx] at hen ⊢
      have hJ2 : J pre w2 := hJ pre wr w2 (some W.heap.size) hJs hg2 hdr2 (fun r e => by cases e; exact ⟨Nat.le_refl _, ⟨_, hW.it, rfl⟩⟩)
      have hstep := filter_step he hns nd
      have hlen : pre.length < es.length := by
        have h1 := hp.length_eq
        have h2 := hstep.length_eq
        have h3 : pre.length = les.length := by have := congrArg List.length hpl; simpa using this
        simp only [List.length_append, List.length_cons] at h1 h2
        omega
      obtain ⟨w3, hw3⟩ : ∃ w3, w2.alloc (.cells #[.int .u64 x.a, .int .u64 x.b, .int .i64 x.c, .int .i64 x.d, .slice x.p x.n x.m] tE) = w3 := ⟨_, rfl⟩
      have hJ3 : J pre w3 := by rw [← hw3]; exact hJ pre w2 _ none hJ2 (World.grownBy_alloc w2 _ none) (Nat.le_refl _) (fun r e => by cases e)
      have hW3 : Walks b W.heap.size es clk (seen ++ [e.born]) w3 := by rw [← hw3]; exact hW2.keep (KeepsWalks.alloc _ _)
      have hx3 : w3.heap[w2.heap.size]? = some (.cells #[.int .u64 x.a, .int .u64 x.b, .int .i64 x.c, .int .i64 x.d, .slice x.p x.n x.m] tE (0, 0)) := by rw [← hw3]; exact World.alloc_heap_new w2 _
      have hcx0 : w3.cell? ⟨w2.heap.size, 0, none⟩ = some (.int .u64 x.a) := by simp only [World.cell?, hx3]; rfl
      have hcx1 : w3.cell? ⟨w2.heap.size, 1, none⟩ = some (.int .u64 x.b) := by simp only [World.cell?, hx3]; rfl
      have hcx2 : w3.cell? ⟨w2.heap.size, 2, none⟩ = some (.int .i64 x.c) := by simp only [World.cell?, hx3]; rfl
      have hcx3 : w3.cell? ⟨w2.heap.size, 3, none⟩ = some (.int .i64 x.d) := by simp only [World.cell?, hx3]; rfl
      have hcx4 : w3.cell? ⟨w2.heap.size, 4, none⟩ = some (.slice x.p x.n x.m) := by simp only [World.cell?, hx3]; rfl
      obtain ⟨fn', tmps, assign, body, hy, hR⟩ := hY pre x w3 hJ3 hlen
      clear hs2
      gi_wp2
      refine hR.mono ?_
      rintro e' W4 ⟨rfl, hJ4, hk4⟩
      gi_wp2
      have hW4 := hW3.keep hk4
      go_roundw
      case rel =>
        refine ⟨_, les ++ [e], pre ++ [x], hW4, ?_, by simp [hpl, hx], hJ4⟩
        rw [List.append_assoc]
        exact (List.Perm.append_left les hstep.symm).trans hp
      case measure =>
        have h2 := hstep.length_eq
        simp only [hW4.it, hW.it]
        simp only [List.length_cons] at h2
        omega

end Go.Proofs

namespace Go.VL

open Go.Proofs Go.RowKit Go.Lib Go.Sort

variable {P : Program}

theorem grow_of {w w' : World} (h : Fr (fun _ => False) w w') : ∃ q os, w' = grow (w.drewN q) os := by
  refine ⟨w'.drawn - w.drawn, w'.heap.extract w.heap.size w'.heap.size, ?_⟩
  have hh : w'.heap = w.heap ++ w'.heap.extract w.heap.size w'.heap.size := by
    apply Array.ext_getElem?
    intro k
    rw [Array.getElem?_append]
    split
    · rename_i hk
      exact h.block k hk (fun x => x)
    · rename_i hk
      rw [Array.getElem?_extract]
      have hs := h.size
      by_cases hl : k < w'.heap.size
      · rw [if_pos (by omega), show w.heap.size + (k - w.heap.size) = k by omega]
      · rw [if_neg (by omega), Array.getElem?_eq_none (by omega)]
  have hd : w.drawn + (w'.drawn - w.drawn) = w'.drawn := by have := h.os.dr; omega
  cases w' with
  | mk heap tape drawn os output =>
    simp only [grow, World.drewN] at *
    have h1 := h.os.os
    have h2 := h.tape
    have h3 := h.output
    simp only at h1 h2 h3
    subst h1 h2 h3
    rw [← hh, hd]

/-- nothing is owned -/
def σn : St := ⟨0, fun _ => none⟩

theorem bare_calls {f : Nat} {args : List AV} {r : Value} {x : AV} (h : ACalls P f args σn (fun v σ' => v = x ∧ σ' = σn)) (hx : ∀ κ w v, V κ w v x → v = r) {vs : List Value} (w : World) (hv : ∀ κ : Kx, Vl κ w vs args) :
    Calls P f ⟨vs⟩ w fun e w' => e = .returned r ∧ ∃ q os', w' = grow (w.drewN q) os' := by
  let κ0 : Kx := ⟨fun _ _ => False, fun _ => 0, fun _ => 0, fun _ => 0, fun _ => 0, fun _ => False⟩
  have hR : R 0 (fun _ => False) κ0 w σn := ⟨fun n h => h.elim, fun n r h => by simp [σn] at h, fun n m r s h => by simp [σn] at h, fun b o h => h.elim, fun n r h => by simp [σn] at h⟩
  refine (h.2 κ0 w vs 0 _ hR (hv κ0)).mono ?_
  rintro e w' ⟨v, x', κ', σ', rfl, _, _, _, hf, _, hvx, rfl, _⟩
  refine ⟨by rw [hx _ _ _ hvx], grow_of ⟨hf.os, hf.tape, hf.output, hf.size, fun b hb _ => hf.block b hb ?_⟩⟩
  rintro ⟨n, r, hn, _⟩
  simp [σn] at hn

/-- which of two spans stands ahead, by Start, Id and Trace -/
def cfS (x y : SpV) : Int := if x.c < y.c then -1 else if y.c < x.c then 1 else if x.b < y.b then -1 else if y.b < x.b then 1 else if x.a < y.a then -1 else if y.a < x.a then 1 else 0

theorem ltS (x y : SpV) : ltOf cfS x y = decide (x.c < y.c ∨ x.c = y.c ∧ (x.b < y.b ∨ x.b = y.b ∧ x.a < y.a)) := by
  unfold ltOf cfS
  rw [decide_eq_decide]
  split
  · simp; omega
  · split
    · simp; omega
    · split
      · simp; omega
      · split
        · simp; omega
        · split
          · simp; omega
          · split <;> simp <;> omega

theorem swoS : SWO (ltOf cfS) where
  irrefl x := by rw [ltS]; simp
  trans x y z h1 h2 := by rw [ltS] at *; simp only [decide_eq_true_eq] at *; omega
  ntrans x y z h1 h2 := by rw [ltS] at *; simp only [decide_eq_false_iff_not] at *; omega

theorem cmp_lays {g : Nat} (h : ∀ a b c d a' b' c' d' : Int, ACalls P g [.agg [.int .u64 a, .int .u64 b, .int .i64 c, .int .i64 d, .any], .agg [.int .u64 a', .int .u64 b', .int .i64 c', .int .i64 d', .any]] σn
      (fun v σ' => v = .int .i64 (cfS ⟨a, b, c, d, none, 0, 0⟩ ⟨a', b', c', d', none, 0, 0⟩) ∧ σ' = σn)) (blk off size : Nat) (w : World) : CmpLays P g #[] SpV.cs 5 cfS blk off size w := by
  intro m os dk _ x y
  have hv : ∀ (κ : Kx) (w : World) (x : SpV), V κ w (.agg ⟨x.cs⟩) (.agg [.int .u64 x.a, .int .u64 x.b, .int .i64 x.c, .int .i64 x.d, .any]) := fun κ w x =>
    .agg _ _ (.cons _ _ _ _ (.int _ _) (.cons _ _ _ _ (.int _ _) (.cons _ _ _ _ (.int _ _) (.cons _ _ _ _ (.int _ _) (.cons _ _ _ _ (.any _) .nil)))))
  have := bare_calls (h x.a x.b x.c x.d y.a y.b y.c y.d) (r := .int .i64 (cfS x y)) (fun κ w v hv => hv.int_inv) (vs := [.agg ⟨x.cs⟩, .agg ⟨y.cs⟩]) (sortWorldK SpV.cs 5 w blk off m dk os)
    (fun κ => .cons _ _ _ _ (hv κ _ x) (.cons _ _ _ _ (hv κ _ y) .nil))
  simpa using this

end Go.VL

namespace Go.VL

open Go.Proofs Go.RowKit Go.Lib Go.Sort

variable {P : Program} {κ : Kx} {w : World}

abbrev cells5 (s : Sp) : List AV := [.int .u64 (s.tr : Int), .int .u64 (s.id : Int), .int .i64 s.st, .int .i64 s.en, .sl (bytesAV s.da) .none]

/-- a span in the memory -/
structure SpR (κ : Kx) (w : World) (x : SpV) (s : Sp) : Prop where
  a : x.a = s.tr
  b : x.b = s.id
  c : x.c = s.st
  d : x.d = s.en
  v : V κ w (.slice x.p x.n x.m) (.sl (bytesAV s.da) .none)

theorem SpR.vl {x : SpV} {s : Sp} (h : SpR κ w x s) : Vl κ w x.cs (cells5 s) := by
  obtain ⟨h1, h2, h3, h4, h5⟩ := h
  unfold SpV.cs cells5
  rw [h1, h2, h3, h4]
  exact .cons _ _ _ _ (.int _ _) (.cons _ _ _ _ (.int _ _) (.cons _ _ _ _ (.int _ _) (.cons _ _ _ _ (.int _ _) (.cons _ _ _ _ h5 .nil))))

theorem slice_of {v : Value} {xs : List AV} {g : Ver} (h : V κ w v (.sl xs g)) : ∃ p n m, v = .slice p n m := by
  rcases h.sl_inv with ⟨b, h1, _⟩ | ⟨b, i, c, k, h1, _⟩ <;> exact ⟨_, _, _, h1⟩

theorem vl_sp {us : List Value} {s : Sp} (h : Vl κ w us (cells5 s)) : ∃ x : SpV, us = x.cs ∧ SpR κ w x s := by
  cases h with
  | cons v1 _ r1 _ h1 t1 =>
  cases t1 with
  | cons v2 _ r2 _ h2 t2 =>
  cases t2 with
  | cons v3 _ r3 _ h3 t3 =>
  cases t3 with
  | cons v4 _ r4 _ h4 t4 =>
  cases t4 with
  | cons v5 _ r5 _ h5 t5 =>
  cases t5
  obtain ⟨p, n, m, rfl⟩ := slice_of h5
  obtain rfl := h1.int_inv
  obtain rfl := h2.int_inv
  obtain rfl := h3.int_inv
  obtain rfl := h4.int_inv
  exact ⟨⟨_, _, _, _, p, n, m⟩, rfl, rfl, rfl, rfl, rfl, h5⟩

theorem sp_val {v : Value} {s : Sp} (h : V κ w v s.av) : ∃ x : SpV, v = x.enc ∧ SpR κ w x s := by
  obtain ⟨u, rfl, hu⟩ := h.agg_inv
  obtain ⟨x, rfl, hx⟩ := vl_sp hu
  exact ⟨x, rfl, hx⟩

/-- spans in the memory -/
def RelS (κ : Kx) (w : World) : List SpV → List Sp → Prop
  | [], [] => True
  | x :: xs, s :: l => SpR κ w x s ∧ RelS κ w xs l
  | _, _ => False

theorem RelS.length : ∀ {xs : List SpV} {l : List Sp}, RelS κ w xs l → xs.length = l.length
  | [], [], _ => rfl
  | x :: xs, s :: l, h => by simp [RelS.length h.2]
  | [], _ :: _, h => h.elim
  | _ :: _, [], h => h.elim

theorem RelS.vl : ∀ {xs : List SpV} {l : List Sp}, RelS κ w xs l → Vl κ w (xs.flatMap SpV.cs) (l.flatMap cells5)
  | [], [], _ => .nil
  | x :: xs, s :: l, h => by simpa using h.1.vl.append (RelS.vl h.2)
  | [], _ :: _, h => h.elim
  | _ :: _, [], h => h.elim

theorem RelS.get : ∀ {xs : List SpV} {l : List Sp}, RelS κ w xs l → ∀ i (h1 : i < xs.length) (h2 : i < l.length), SpR κ w xs[i] l[i]
  | [], [], _, i, h1, _ => absurd h1 (by simp)
  | x :: xs, s :: l, h, 0, _, _ => h.1
  | x :: xs, s :: l, h, i + 1, h1, h2 => RelS.get h.2 i (by simpa using h1) (by simpa using h2)
  | [], _ :: _, h, _, _, _ => h.elim
  | _ :: _, [], h, _, _, _ => h.elim

theorem rel_of_vl : ∀ {l : List Sp} {us : List Value}, Vl κ w us (l.flatMap cells5) → ∃ xs, us = xs.flatMap SpV.cs ∧ RelS κ w xs l
  | [], us, h => by cases h; exact ⟨[], rfl, trivial⟩
  | s :: l, us, h => by
    have h1 := h.take 5
    have h2 := h.drop 5
    have e1 : ((s :: l).flatMap cells5).take 5 = cells5 s := by simp [cells5]
    have e2 : ((s :: l).flatMap cells5).drop 5 = l.flatMap cells5 := by simp [cells5]
    rw [e1] at h1; rw [e2] at h2
    obtain ⟨x, hx, hr⟩ := vl_sp h1
    obtain ⟨xs, hxs, hrs⟩ := rel_of_vl h2
    exact ⟨x :: xs, by rw [List.flatMap_cons, ← hx, ← hxs, List.take_append_drop], hr, hrs⟩

theorem rel_of_vm : ∀ {ents : List MapEntry} {es : List (AV × AV)} {l : List Sp}, Vm κ w ents es → es.map (·.2) = spsAV l → ∃ xs : List SpV, ents.map (·.val) = xs.map SpV.enc ∧ RelS κ w xs l
  | _, _, l, .nil, hl => by
    cases l with
    | nil => exact ⟨[], rfl, trivial⟩
    | cons s l => simp [spsAV] at hl
  | _, _, l, .cons e p es ps hk hv t, hl => by
    cases l with
    | nil => simp [spsAV] at hl
    | cons s l =>
      simp only [spsAV, List.map_cons, List.cons.injEq] at hl
      rw [hl.1] at hv
      obtain ⟨x, hx, hr⟩ := sp_val hv
      obtain ⟨xs, hxs, hrs⟩ := rel_of_vm t (l := l) hl.2
      exact ⟨x :: xs, by simp [hx, hxs], hr, hrs⟩

theorem rel_perm {ss xs : List SpV} (hp : ss.Perm xs) : ∀ {l : List Sp}, RelS κ w xs l → ∃ l', l'.Perm l ∧ RelS κ w ss l' := by
  induction hp with
  | nil => intro l h; exact ⟨l, .refl _, h⟩
  | cons x _ ih =>
    intro l h
    cases l with
    | nil => exact h.elim
    | cons s l =>
      obtain ⟨l', h1, h2⟩ := ih h.2
      exact ⟨s :: l', h1.cons s, h.1, h2⟩
  | swap x y xs =>
    intro l h
    match l, h with
    | s :: t :: l, h => exact ⟨t :: s :: l, .swap _ _ _, h.2.1, h.1, h.2.2⟩
    | [s], h => exact h.2.elim
    | [], h => exact h.elim
  | trans _ _ ih1 ih2 =>
    intro l h
    obtain ⟨l1, h1, h2⟩ := ih2 h
    obtain ⟨l2, h3, h4⟩ := ih1 h2
    exact ⟨l2, h3.trans h1, h4⟩

theorem R.late {B : Nat} {F : Nat → Prop} {σ : St} (hR : R B F κ w σ) {w' : World} (hb : RowKit.Below w.heap.size w w') (hd : w.drawn ≤ w'.drawn) : Ext κ w κ w' ∧ R w.heap.size (ownd κ σ) κ w' σ ∧ Fr (ownd κ σ) w w' := by
  have e : Ext κ w κ w' := ⟨fun _ _ h => h, fun _ _ => rfl, fun _ _ => rfl, fun _ _ => rfl, fun _ _ => rfl, fun _ h => h, fun b o hi => cell_same (hb.block b (hR.imm b o hi)) o⟩
  have hR1 : R B F κ w' σ := hR.step e hR.dom (fun b o hi => Nat.lt_of_lt_of_le (hR.imm b o hi) hb.size) (fun n r hr => .inl ⟨hr, hb.block _ (hR.lt hr), fun _ h => h⟩)
  exact ⟨e, ⟨hR1.dom, hR1.own, hR1.apart, hR1.imm, fun n r hr hrl => .inl ⟨n, r, hr, hrl, rfl⟩⟩, ⟨hb.os, hd⟩, hb.tape, hb.output, hb.size, fun b hlt _ => hb.block b hlt⟩

/-- a row that lies there is owned -/
theorem R.claim {B : Nat} {F : Nat → Prop} {σ : St} (hR : R B F κ w σ) {b : Nat} (hB : B ≤ b) (hfree : ∀ n r, σ.res n = some r → κ.φ n ≠ b) (hI : ∀ o, ¬ κ.I b o) {us rest : List Value} {cs : List AV} {t : TypeId} {fz : Nat × Nat} (hf : fzOk us.length fz)
    (hb : w.heap[b]? = some (.cells ⟨us ++ rest⟩ t fz)) (hv : Vl κ w us cs) : Ext κ w (κ.name σ.next b) w ∧ R B F (κ.name σ.next b) w ((σ.up 1).set σ.next (.obj cs)) := by
  have hn : ¬ κ.dom σ.next := fun h => Nat.lt_irrefl _ (hR.dom _ h)
  have e : Ext κ w (κ.name σ.next b) w := .name hn (fun _ _ _ => rfl)
  refine ⟨e, hR.step e (fun n hd => ?_) (fun b o hi => hR.imm b o hi) (fun n r hr => ?_)⟩
  · rcases hd with hd | rfl
    · exact Nat.lt_succ_of_lt (hR.dom n hd)
    · exact Nat.lt_succ_self _
  · by_cases hx : n = σ.next
    · subst hx
      simp only [St.set_same, Option.some.injEq] at hr
      subst hr
      refine .inr ⟨.inr rfl, ⟨us, rest, t, fz, by simpa [Kx.name] using hb, hf, hv.mono e, fun o ho => hI o (by simpa [Kx.name] using ho), by simp [Kx.name], .inr (by simp [Kx.name])⟩, .inr (by simpa [Kx.name] using hB), fun m s hs hm => ?_⟩
      by_cases hy : m = σ.next
      · exact hy.symm
      · rw [St.set_other _ _ hy] at hs
        exact absurd hm.symm (by simpa [Kx.name, hy] using hfree m s hs)
    · rw [St.set_other _ _ hx] at hr
      exact .inl ⟨hr, rfl, fun o ho => ho⟩

/-- THE VALUES OF A MAP OF SPANS, GATHERED: a new row that is owned -/
theorem app5_ok {tE tS tQ tM tK tY tB bytes : Nat} (L : ElemK P tE tS 5 bytes [.int .u64 0, .int .u64 0, .int .i64 0, .int .i64 0, .slice none 0 0]) (M : MapsK P tM tK tE tB) (hne : tS ≠ tE) {f g : Nat} {fn gn : Func} (hf : P.funcs[f]? = some fn) (hfb : fn.body = some (apCode tE tS tQ)) (hft : fn.ntmps = 13) (hfr : fn.results = #[.tmp 4]) (hfn : (fn.name == "runtime.NumGoroutine") = false)
    (hg : P.funcs[g]? = some gn) (hgb : gn.body = some (vaCode tE tM tY tB)) (hgt : gn.ntmps = 15) (hgr : gn.results = #[]) (hgn : (gn.name == "runtime.NumGoroutine") = false)
    {σ : St} {bx m : Nat} {es : List (AV × AV)} {ts : List Nat} {clk : Nat} {l : List Sp} (hbx : σ.res bx = some (.obj [.map m])) (hm : σ.res m = some (.map es ts clk)) (hl : es.map (·.2) = spsAV l) (h1 : l.length ≤ maxLen) (h2 : l.length * bytes ≤ 140737488355328) :
    ACalls P f [.sl [] .nil, .func g [] [.ptr bx 0]] σ (fun v σ' => ∃ l', l'.Perm l ∧ ((l' = [] ∧ v = .sl [] .nil ∧ σ' = σ) ∨ (v = .ref σ.next 0 l'.length ∧ σ' = (σ.up 1).set σ.next (.obj (l'.flatMap cells5))))) := by
  have hE : Enters P f := ⟨fn, hf, by simp [hfb], hfn⟩
  have hG : Enters P g := ⟨gn, hg, by simp [hgb], hgn⟩
  refine ⟨hE, fun κ w vs B F hR hv => ?_⟩
  cases hv with
  | cons v1 _ r1 _ k1 m1 =>
  cases m1 with
  | cons v2 _ r2 _ k2 m2 =>
  cases m2
  have hv1 : v1 = .slice none 0 0 := by
    cases k1 with
    | slnil _ _ => rfl
    | slz _ _ hx => rcases hx with h | h <;> cases h
  subst hv1
  obtain ⟨p, q, rfl, hp, hq⟩ := k2.func_inv
  cases hp
  cases hq with
  | cons u _ r _ k3 m3 =>
  cases m3
  obtain ⟨rfl, hdb⟩ := k3.ptr_inv
  obtain ⟨_, us, rest, tt, fz, b1, b2, b3, b4, _⟩ := hR.own bx _ hbx
  cases b3 with
  | cons u0 _ r0 _ k4 m4 =>
  cases m4
  obtain ⟨rfl, hdm⟩ := k4.map_inv
  obtain ⟨_, ents, g1, g2, g3, g4, g5, g6⟩ := hR.own m _ hm
  obtain ⟨xs, hxs, hrel⟩ := rel_of_vm g2 hl
  have hel : ents.length = l.length := by
    have := congrArg List.length hxs
    simp only [List.length_map] at this
    rw [this, hrel.length]
  have hcell : w.cell? ⟨κ.φ bx, 0, none⟩ = some (.map (some (κ.φ m))) := by rw [cell_of b1]; rfl
  have hbl := hR.lt hbx
  have hml := hR.lt hm
  have hseq : SeqD Fence.wide 1 P g #[.pointer (some ⟨κ.φ bx, 0, none⟩)] SpV.enc (fun ss => ss.Perm xs) ents.length w := fun ll J W hW hJ hY h0 =>
    va5_in tE tS tM tK tY tB bytes L M Fence.wide 1 g gn hg hgb hgt hgr trivial rfl (Nat.le_refl _) ll (κ.φ bx) (κ.φ m) clk ents xs hxs J hY W hJ ((hW.cell (p := ⟨κ.φ bx, 0, none⟩) hbl).trans hcell) ((hW.block _ hml).trans g1)
      (by rw [g4]; exact g5) (fun e he => g6 _ (by rw [← g4]; exact List.mem_map_of_mem he)) h0
  have hc := callsIn_wide.1 (ap5_in tE tS tQ bytes L hne Fence.wide 2 f fn hf hfb hft hfr trivial rfl (Nat.le_refl _) g #[.pointer (some ⟨κ.φ bx, 0, none⟩)] trivial (fun args w => run_callFunc hG args) (fun ss => ss.Perm xs) ents.length (by rw [hel]; exact h1) (by rw [hel]; exact h2) w hseq)
  refine Calls.mono hc ?_
  rintro e w' ⟨v, ss, rfl, hS, hrow, hnil, hb, hd⟩
  obtain ⟨l', hp', hrel'⟩ := rel_perm hS hrel
  obtain ⟨e0, hR', hfr'⟩ := hR.late hb hd
  rcases hrow.2 with ⟨rfl, hz⟩ | ⟨gb, cap, cur, rfl, hbase, hgb', hr1, hr2, hr3, hr4⟩
  · have hs0 : ss = [] := List.eq_nil_of_length_eq_zero hz
    subst hs0
    have hl0 : l' = [] := List.eq_nil_of_length_eq_zero (by rw [← hrel'.length]; rfl)
    exact ⟨_, .sl [] .nil, κ, σ, rfl, e0, fun n hn => .inl hn, hR', hfr', Nat.le_refl _, .slnil _ (.inl rfl), l', hp', .inl ⟨hl0, rfl, rfl⟩⟩
  · have hrl : Vl κ w' (ss.flatMap SpV.cs) (l'.flatMap cells5) := hrel'.vl.mono e0
    have hcur : cur = ⟨ss.flatMap SpV.cs ++ cur.toList.drop (ss.length * 5)⟩ := by
      apply Array.ext'
      simp only
      rw [← hr4, List.take_append_drop]
    rw [hcur] at hgb'
    have hgl : ∀ {n r}, σ.res n = some r → κ.φ n ≠ gb := fun hr h => by have := hR.lt hr; omega
    obtain ⟨e1, hR1⟩ := R.claim hR' (b := gb) hbase (fun n r hr => hgl hr) (fun o hi => by have := hR.imm _ _ hi; omega) (cs := l'.flatMap cells5) (.inl rfl) hgb' hrl
    refine ⟨_, .ref σ.next 0 l'.length, κ.name σ.next gb, (σ.up 1).set σ.next (.obj (l'.flatMap cells5)), rfl, e0.trans e1, fun n hn => (by rcases hn with hn | hn; exact .inl hn; exact .inr (by rw [hn]; exact Nat.le_refl _)), hR1, hfr', Nat.le_succ _, ?_, l', hp', .inr ⟨rfl, rfl⟩⟩
    have := V.ref (κ := κ.name σ.next gb) (w := w') σ.next 0 l'.length cap (.inr rfl) (by rw [← hrel'.length]; exact hr1)
    simpa [Kx.name, hrel'.length] using this

end Go.VL

namespace Go.VL

open Go.Proofs Go.RowKit Go.Lib Go.Sort Go.Shelf

variable {P : Program} {κ : Kx} {w : World}

theorem flat_len5 : ∀ (xs : List SpV), (xs.flatMap SpV.cs).length = xs.length * 5
  | [] => rfl
  | x :: xs => by simp only [List.flatMap_cons, List.length_append, flat_len5 xs, List.length_cons]; simp [SpV.cs]; omega

theorem flat_get5 : ∀ (xs : List SpV) (j : Nat) (hj : j < xs.length * 5), (xs.flatMap SpV.cs)[j]? = (SpV.cs (xs[j / 5]'(by omega)))[j % 5]?
  | [], j, hj => absurd hj (by simp)
  | x :: xs, j, hj => by
    simp only [List.flatMap_cons]
    have h5 : (SpV.cs x).length = 5 := rfl
    by_cases h : j < 5
    · rw [List.getElem?_append_left (by rw [h5]; exact h)]
      have e1 : j / 5 = 0 := by omega
      have e2 : j % 5 = j := by omega
      simp only [e1, e2, List.getElem_cons_zero]
    · rw [List.getElem?_append_right (by rw [h5]; omega), h5, flat_get5 xs (j - 5) (by simp at hj; omega)]
      have e1 : j / 5 = (j - 5) / 5 + 1 := by omega
      have e2 : j % 5 = (j - 5) % 5 := by omega
      simp only [e1, e2, List.getElem_cons_succ]

theorem flatK_get (xs : List SpV) (j : Nat) (hj : j < xs.length * 5) : (xs.flatMap SpV.cs)[j]? = some (flatK SpV.cs 5 xs.toArray)[j]! := by
  rw [flat_get5 xs j hj, get_flatK _ _ _ _ (by simpa using hj)]
  have h1 : j / 5 < xs.length := by omega
  have h2 : xs.toArray[j / 5]! = xs[j / 5] := by simp [h1]
  rw [h2]
  have h3 : j % 5 < (SpV.cs xs[j / 5]).length := by show j % 5 < 5; omega
  rw [List.getElem?_eq_getElem h3, getElem!_pos (SpV.cs xs[j / 5]) (j % 5) h3]

/-- the memory behind a sort -/
theorem sorted_heap {w : World} {b : Nat} {us rest : List Value} {t : TypeId} {fz : Nat × Nat} (hb : w.heap[b]? = some (.cells ⟨us ++ rest⟩ t fz)) {xs ys : List SpV} (hu : us = xs.flatMap SpV.cs) (hl : ys.length = xs.length) (n : Nat) (os : Array Obj) :
    (sortWorldK SpV.cs 5 w b 0 n ys.toArray os).heap[b]? = some (.cells ⟨ys.flatMap SpV.cs ++ rest⟩ t fz) ∧ (∀ c, c ≠ b → c < w.heap.size → (sortWorldK SpV.cs 5 w b 0 n ys.toArray os).heap[c]? = w.heap[c]?) ∧ w.heap.size ≤ (sortWorldK SpV.cs 5 w b 0 n ys.toArray os).heap.size := by
  have hlt := (Array.getElem?_eq_some_iff.1 hb).1
  have hh : (sortWorldK SpV.cs 5 w b 0 n ys.toArray os).heap = w.heap.modify b (onCells (putCells id 0 (flatK SpV.cs 5 ys.toArray))) ++ os := rfl
  refine ⟨?_, fun c hc hcl => ?_, ?_⟩
  · rw [hh, Array.getElem?_append_left (by rw [Array.size_modify]; exact hlt), Array.getElem?_modify, if_pos rfl, hb]
    simp only [Option.map_some, onCells, Option.some.injEq, Obj.cells.injEq, and_true]
    have h5 := flat_len5 ys
    have h6 := flat_len5 xs
    apply Array.ext_getElem?
    intro k
    simp only [putCells, Array.getElem?_mapIdx, size_flatK, List.size_toArray, Nat.zero_le, true_and, Nat.zero_add, Nat.sub_zero, id, List.getElem?_toArray]
    by_cases hk : k < ys.length * 5
    · have e2 : (ys.flatMap SpV.cs ++ rest)[k]? = some (flatK SpV.cs 5 ys.toArray)[k]! := by rw [List.getElem?_append_left (by rw [h5]; exact hk), flatK_get ys k hk]
      rw [e2]
      have hk2 : k < (us ++ rest).length := by rw [List.length_append, hu, h6, ← hl]; omega
      rw [List.getElem?_eq_getElem hk2]
      simp [hk]
    · have hul : us.length = xs.length * 5 := by rw [hu, h6]
      have hk' : ¬ k < xs.length * 5 := by omega
      have e1 : (us ++ rest)[k]? = rest[k - xs.length * 5]? := by rw [List.getElem?_append_right (by omega), hul]
      have e2 : (ys.flatMap SpV.cs ++ rest)[k]? = rest[k - xs.length * 5]? := by rw [List.getElem?_append_right (by omega), h5, hl]
      rw [e1, e2]
      cases rest[k - xs.length * 5]? with
      | none => rfl
      | some v => simp [hk]
  · rw [hh, Array.getElem?_append_left (by rw [Array.size_modify]; exact hcl), Array.getElem?_modify, if_neg (Ne.symm hc)]
  · rw [hh, Array.size_append, Array.size_modify]; omega

/-- A ROW OF SPANS THAT IS OWNED, SORTED -/
theorem sort5_ok {ρ : Ren} (L : SlLaysF0.n6 P ρ) (aE : ∀ w, (isAgg (ρ.t 24)).run P w = .ok true w) (zE : ∀ w, (Go.sizeOf (ρ.t 24)).run P w = .ok 5 w) {g : Nat} (hG : Enters P g) (hE : Enters P (ρ.f 6))
    (hcmp : ∀ a b c d a' b' c' d' : Int, ACalls P g [.agg [.int .u64 a, .int .u64 b, .int .i64 c, .int .i64 d, .any], .agg [.int .u64 a', .int .u64 b', .int .i64 c', .int .i64 d', .any]] σn
      (fun v σ' => v = .int .i64 (cfS ⟨a, b, c, d, none, 0, 0⟩ ⟨a', b', c', d', none, 0, 0⟩) ∧ σ' = σn)) {σ : St} {nm : Nat} {l : List Sp} (hnm : σ.res nm = some (.obj (l.flatMap cells5))) (hlen : l.length < 4611686018427387904) :
    ACalls P (ρ.f 6) [.ref nm 0 l.length, .func g [] []] σ (fun v σ' => v = .tup [] ∧ ∃ l' : List Sp, l'.Perm l ∧ l'.Pairwise (fun a b => aheadS b a = false) ∧ σ' = σ.set nm (.obj (l'.flatMap cells5))) := by
  refine ⟨hE, fun κ w vs B F hR hv => ?_⟩
  cases hv with
  | cons v1 _ r1 _ k1 m1 =>
  cases m1 with
  | cons v2 _ r2 _ k2 m2 =>
  cases m2
  obtain ⟨cap, rfl, hcap, hdn⟩ := k1.ref_inv
  obtain ⟨p, q, rfl, hp, hq⟩ := k2.func_inv
  cases hp
  cases hq
  obtain ⟨_, us, rest, tt, fz, b1, b2, b3, b4, b5⟩ := hR.own nm _ hnm
  obtain ⟨xs, hus, hrel⟩ := rel_of_vl b3
  have hxl := hrel.length
  have hnl := hR.lt hnm
  have hul : us.length = xs.length * 5 := by rw [hus, flat_len5]
  have hH : HoldsK SpV.cs 5 w (κ.φ nm) 0 xs.toArray := by
    intro j hj
    have hj' : j < xs.length * 5 := by simpa using hj
    rw [Nat.zero_add, cell_of b1]
    refine ⟨?_, frozen_of b1 b2 (by omega)⟩
    rw [List.getElem?_append_left (by omega), hus, flatK_get xs j hj']
    rfl
  have hc := AnyQ.slices_SortFunc L 5 aE zE SpV.cs (fun _ => rfl) (fun x v hv => by simp [SpV.cs] at hv; rcases hv with rfl | rfl | rfl | rfl | rfl <;> rfl) cfS swoS g #[] (κ.φ nm) 0 cap xs.toArray w
    (fun args w => run_callFunc hG args) (cmp_lays hcmp _ _ _ _) hH hnl (by simpa [hxl] using hlen)
  have hsz : xs.toArray.size = l.length := by simpa using hxl
  rw [hsz] at hc
  refine Calls.mono hc ?_
  rintro e w' ⟨rfl, d', n, os, hp, hs, rfl⟩
  obtain ⟨hp1, _, hp3⟩ := hp
  have hd'l : d'.toList.length = l.length := by simpa using hp1.trans hsz
  have hperm : d'.toList.Perm xs := by
    have e1 : (d'.extract 0 l.length).toList = d'.toList := by
      rw [show l.length = d'.size by simpa using hd'l.symm]; simp
    have e2 : (xs.toArray.extract 0 l.length).toList = xs := by
      rw [← hxl]; simp
    rw [e1, e2] at hp3; exact hp3
  obtain ⟨l', hl', hrel'⟩ := rel_perm hperm hrel
  have hd' : d' = d'.toList.toArray := by simp
  obtain ⟨s1, s2, s3⟩ := sorted_heap (w := w) (b := κ.φ nm) b1 (xs := xs) (ys := d'.toList) hus (by rw [hd'l, hxl]) n os
  rw [← hd'] at s1 s2 s3
  generalize hw' : sortWorldK SpV.cs 5 w (κ.φ nm) 0 n d' os = w' at s1 s2 s3
  have hos : w'.os = w.os ∧ w'.tape = w.tape ∧ w'.output = w.output ∧ w.drawn ≤ w'.drawn := by
    rw [← hw']; exact ⟨rfl, rfl, rfl, Nat.le_add_right _ _⟩
  have e : Ext κ w κ w' := ⟨fun _ _ h => h, fun _ _ => rfl, fun _ _ => rfl, fun _ _ => rfl, fun _ _ => rfl, fun _ h => h, fun b o hi => cell_same (s2 b (fun hx => b4 o (hx ▸ hi)) (hR.imm b o hi)) o⟩
  have hvl : Vl κ w' (d'.toList.flatMap SpV.cs) (l'.flatMap cells5) := hrel'.vl.mono e
  have hlen' : (d'.toList.flatMap SpV.cs).length = us.length := by rw [flat_len5, hul, hd'l, hxl]
  have hR' : R B F κ w' (σ.set nm (.obj (l'.flatMap cells5))) := by
    refine hR.step e hR.dom (fun b o hi => Nat.lt_of_lt_of_le (hR.imm b o hi) s3) (fun m r hr => ?_)
    by_cases hx : m = nm
    · subst hx
      simp only [St.set_same, Option.some.injEq] at hr
      subst hr
      refine .inr ⟨hdn, ⟨_, rest, tt, fz, s1, by rw [hlen']; exact b2, hvl, b4, by rw [hlen']; exact b5⟩, hR.foot _ _ hnm rfl, fun j s hj hm => ?_⟩
      by_cases hy : j = m
      · exact hy.symm
      · rw [St.set_other _ _ hy] at hj
        exact hR.apart _ _ _ _ hnm hj hm
    · rw [St.set_other _ _ hx] at hr
      exact .inl ⟨hr, s2 _ (fun hy => hx (hR.apart _ _ _ _ hr hnm hy)) (hR.lt hr), fun o ho => ho⟩
  refine ⟨.tuple #[], .tup [], κ, σ.set nm (.obj (l'.flatMap cells5)), rfl, e, fun n hn => .inl hn, ⟨hR'.dom, hR'.own, hR'.apart, hR'.imm, fun m r hr hrl => ?_⟩, ⟨⟨hos.1, hos.2.2.2⟩, hos.2.1, hos.2.2.1, s3, fun b hb hF => s2 b (fun hx => hF ⟨nm, _, hnm, rfl, hx.symm⟩) hb⟩, Nat.le_refl _, .tup [] [] .nil, rfl, l', hl', ?_, rfl⟩
  · by_cases hx : m = nm
    · subst hx; exact .inl ⟨m, _, hnm, rfl, rfl⟩
    · rw [St.set_other _ _ hx] at hr; exact .inl ⟨m, r, hr, hrl, rfl⟩
  · rw [List.pairwise_iff_getElem]
    intro i j hi hj hij
    have hrl := hrel'.length
    have hi' : i < d'.toList.length := by omega
    have hj' : j < d'.toList.length := by omega
    have := hs i j (Nat.zero_le _) hij (by omega)
    rw [getElem!_pos d' i (by simpa using hi'), getElem!_pos d' j (by simpa using hj'), ltS] at this
    have ri := hrel'.get i hi' hi
    have rj := hrel'.get j hj' hj
    simp only [Array.getElem_toList] at ri rj
    rw [ri.a, ri.b, ri.c, rj.a, rj.b, rj.c] at this
    rw [decide_eq_false_iff_not] at this
    unfold aheadS
    split
    · simp only [decide_eq_false_iff_not]; omega
    · split
      · simp only [decide_eq_false_iff_not]; omega
      · simp only [decide_eq_false_iff_not]; omega

/-- nothing to sort -/
theorem sort5_nil {ρ : Ren} (L : SlLaysF0.n6 P ρ) (hE : Enters P (ρ.f 6)) {g : Nat} {σ : St} : ACalls P (ρ.f 6) [.sl [] .nil, .func g [] []] σ (fun v σ' => v = .tup [] ∧ σ' = σ) := by
  refine ⟨hE, fun κ w vs B F hR hv => ?_⟩
  cases hv with
  | cons v1 _ r1 _ k1 m1 =>
  cases m1 with
  | cons v2 _ r2 _ k2 m2 =>
  cases m2
  obtain ⟨bs, n, m, rfl⟩ := slice_of k1
  have hz : n = 0 := by
    rcases k1.sl_inv with ⟨b, h1, _⟩ | ⟨b, i, c, k, h1, _⟩
    · injection h1
    · injection h1
  subst hz
  have hc := AnyF.slices_SortFunc_none L bs m v2 w
  refine Calls.mono hc ?_
  rintro e w' ⟨rfl, rfl⟩
  exact ⟨.tuple #[], .tup [], κ, σ, rfl, .refl _ _, fun n hn => .inl hn, ⟨hR.dom, hR.own, hR.apart, hR.imm, fun n r hr hrl => .inl ⟨n, r, hr, hrl, rfl⟩⟩, .refl _ _, Nat.le_refl _, .tup [] [] .nil, rfl, rfl⟩

end Go.VL

namespace Go.VL

open Go.Proofs Go.RowKit

variable {P : Program} {κ : Kx} {w : World}

def bcCode (tS tI f : Nat) : Code := ((Code.region 0
            #[{ dst := some 4, op := Op.assign (Operand.const (Value.int IntKind.i64 0)), type := tI,
                pos := "bytes.go:28", after := #[], guard := none }]
            false).seq
        ((Code.region 1
              #[{ dst := some 5, op := Op.move (Operand.tmp 0), type := tS, pos := "bytes.go:29", after := #[],
                  guard := none },
                { dst := some 6, op := Op.move (Operand.tmp 1), type := tS, pos := "bytes.go:29", after := #[],
                  guard := none },
                { dst := some 7,
                  op :=
                    Op.call
                      { callee := Callee.value (Operand.func f), args := #[Operand.tmp 5, Operand.tmp 6],
                        argTypes := #[tS, tS] },
                  type := tI, pos := "bytes.go:29",
                  after := #[{ on := 0, ground := Ground.data }, { on := 1, ground := Ground.data }], guard := none },
                { dst := some 4, op := Op.assign (Operand.tmp 7), type := tI, pos := "bytes.go:29",
                  after :=
                    #[{ on := 2, ground := Ground.data }, { on := 2, ground := Ground.chain },
                      { on := 0, ground := Ground.phase }, { on := 1, ground := Ground.phase },
                      { on := 2, ground := Ground.phase }],
                  guard := none }]
              false).seq
          Code.ret))

theorem run_lb : ∀ (l : List UInt8) (b o : Nat) (acc : ByteArray), (∀ (j : Nat) (x : UInt8), l[j]? = some x → w.cell? ⟨b, o + j, none⟩ = some (.int .u8 (x.toNat : Int))) →
    (Extern.Bytes.loadBytes ⟨b, o, none⟩ l.length acc).run P w = .ok ⟨acc.data ++ l.toArray⟩ w
  | [], b, o, acc, _ => by simp [Extern.Bytes.loadBytes]
  | x :: l, b, o, acc, h => by
    have h0 : w.cell? ⟨b, o, none⟩ = some (.int .u8 (x.toNat : Int)) := by simpa using h 0 x rfl
    have ih := run_lb l b (o + 1) (acc.push x) (fun j y hj => by
      have := h (j + 1) y (by simpa using hj)
      rw [show o + 1 + j = o + (j + 1) by omega]; exact this)
    have ha : ((⟨b, o, none⟩ : Addr).add 1) = ⟨b, o + 1, none⟩ := by simp [Addr.add]
    have hx : ((x.toNat : Int)).toNat.toUInt8 = x := by simp
    simp only [List.length_cons, Extern.Bytes.loadBytes, Sem.run_bind, load, Sem.run, h0, Result.andThen_ok, Extern.Bytes.asByte, Sem.run_pure, hx, ha, ih]
    simp

theorem run_bytesOf {v : Value} {l : List UInt8} {g : Ver} (h : V κ w v (.sl (bytesAV l) g)) : (Extern.Bytes.bytesOf v).run P w = .ok ⟨l.toArray⟩ w := by
  rcases h.sl_inv with ⟨base, rfl, hx⟩ | ⟨b, i, c, k, rfl, _, _, hvs⟩
  · have : l = [] := by cases l <;> simp [bytesAV] at hx ⊢
    subst this
    cases base with
    | none => simp [Extern.Bytes.bytesOf]; rfl
    | some a => simp [Extern.Bytes.bytesOf, Extern.Bytes.loadBytes]; rfl
  · have hlen : (bytesAV l).length = l.length := by simp [bytesAV]
    rw [hlen]
    have := run_lb (P := P) (w := w) l b i .empty (fun j x hj => by
      have hf : ((bytesAV l).flatMap AV.cells)[j]? = some (.int .u8 (x.toNat : Int)) := by
        have : (bytesAV l).flatMap AV.cells = bytesAV l := by
          apply flat_single
          intro y hy
          obtain ⟨z, _, rfl⟩ := List.mem_map.1 hy
          rfl
        rw [this]
        simp [bytesAV, hj]
      obtain ⟨u, hu, hv⟩ := hvs.cell j _ hf
      rw [hu, hv.int_inv])
    simp only [Extern.Bytes.bytesOf]
    rw [this]
    simp

set_option maxRecDepth 100000 in
set_option maxHeartbeats 1000000 in
theorem bcmp5_ok {tS tI f fx : Nat} {fn fe : Func} (hf : P.funcs[f]? = some fn) (hfb : fn.body = some (bcCode tS tI fx)) (hft : fn.ntmps = 8) (hfr : fn.results = #[.tmp 4]) (hfn : (fn.name == "runtime.NumGoroutine") = false)
    (hx : P.funcs[fx]? = some fe) (hxn : (fe.name == "runtime.NumGoroutine") = false) (hxb : fe.body.isNone = true) (hx1 : Extern.findNext fe = none) (hx2 : Extern.find fe = some Extern.BytealgCompare.compare)
    {a b : List UInt8} {g g' : Ver} {σ : St} : ACalls P f [.sl (bytesAV a) g, .sl (bytesAV b) g'] σ (fun v σ' => v = .int .i64 (Lib.compareBytes a b) ∧ σ' = σ) := by
  refine ⟨⟨fn, hf, by simp [hfb], hfn⟩, fun κ w vs B F hR hv => ?_⟩
  cases hv with
  | cons v1 _ r1 _ k1 m1 =>
  cases m1 with
  | cons v2 _ r2 _ k2 m2 =>
  cases m2
  have h1 := run_bytesOf (P := P) k1
  have h2 := run_bytesOf (P := P) k2
  have hc : (Extern.BytealgCompare.compare #[v1, v2]).run P w = .ok (.int .i64 (Lib.compareBytes a b)) w := by
    show Sem.run P (do pure (goInt (Extern.BytealgCompare.cmp (← Extern.Bytes.bytesOf v1) (← Extern.Bytes.bytesOf v2)))) w = _
    simp only [Sem.run_bind, h1, h2, Result.andThen_ok, Sem.run_pure, goInt]
    rw [Lib.cmp_eq]
  have hcf := run_callFunc_extern hx hxn hxb hx1 hx2 #[v1, v2] w
  rw [hc] at hcf
  simp only [Result.andThen_ok] at hcf
  suffices Calls P f #[v1, v2] w fun e w' => e = .returned (.int .i64 (Lib.compareBytes a b)) ∧ w' = w by
    refine Calls.mono this ?_
    rintro e w' ⟨rfl, rfl⟩
    exact ⟨_, _, κ, σ, rfl, .refl _ _, fun n hn => .inl hn, ⟨hR.dom, hR.own, hR.apart, hR.imm, fun n r hr hrl => .inl ⟨n, r, hr, hrl, rfl⟩⟩, .refl _ _, Nat.le_refl _, .int _ _, rfl, rfl⟩
  clear h1 h2 hc
  cases fn
  simp only at hfb hft hfr
  subst hfb hft hfr
  refine calls_of_wp hf rfl ?_
  unfold bcCode
  simp only [List.size_toArray, List.length_cons, List.length_nil, Nat.reduceAdd, Nat.reduceSub, Array.replicate_succ, Array.replicate_zero, List.push_toArray, List.append_toArray, List.nil_append, List.cons_append]
  go_wp2
  refine bodyPost_ret (results_tmp rfl _ _ _) rfl ?_
  exact ⟨rfl, rfl⟩

/-- which of two texts of bytes comes first -/
theorem compareBytes_neg : ∀ (a b : List UInt8), (Lib.compareBytes a b < 0) = (Op.bytesLess a b = true)
  | [], [] => by simp [Lib.compareBytes, Op.bytesLess]
  | [], _ :: _ => by simp [Lib.compareBytes, Op.bytesLess]
  | _ :: _, [] => by simp [Lib.compareBytes, Op.bytesLess]
  | x :: a, y :: b => by
    have ih := compareBytes_neg a b
    simp only [Lib.compareBytes, Op.bytesLess]
    by_cases h1 : x < y
    · simp [h1]
    · by_cases h2 : y < x
      · have h3 : ¬ x = y := fun h => by subst h; exact h1 h2
        simp [h1, h2]
        exact fun h => absurd h h3
      · have h3 : x = y := UInt8.le_antisymm (UInt8.not_lt.1 h2) (UInt8.not_lt.1 h1)
        subst h3
        simp only [h1, if_false]
        rw [ih]
        simp

end Go.VL

namespace Go.VL

open Go.Proofs Go.Shelf

def renS : Ren := ⟨fun | 6 => 127 | 15 => 153 | 14 => 158 | 28 => 177 | 29 => 178 | 20 => 179 | 21 => 180 | 22 => 181 | 23 => 182 | 24 => 183 | 25 => 184 | 26 => 185 | 27 => 186 | 46 => 201 | 47 => 197 | 48 => 198 | 49 => 202 | 50 => 203 | 57 => 209 | n => n, fun | 22 => 47 | 24 => 53 | 25 => 137 | 3 => 3 | 39 => 172 | 0 => 0 | 53 => 166 | 55 => 51 | 4 => 4 | 46 => 232 | 45 => 231 | 50 => 236 | 5 => 5 | 9 => 9 | 66 => 250 | 70 => 254 | 76 => 260 | 77 => 261 | n => n, fun n => n⟩

theorem laysS : SlLaysF0.n6 Try.prog renS where
  mixed := by kernel_rfl
  f6 := ⟨ "slices.SortFunc[[]tankard/api.Span,tankard/api.Span]", by decide, Try.func127.trans (congrArg some (by kernel_rfl))⟩
  f14 := ⟨ "slices.pdqsortCmpFunc[tankard/api.Span]", by decide, Try.func158.trans (congrArg some (by kernel_rfl))⟩
  f15 := Try.func153.trans (congrArg some (by kernel_rfl))
  f20 := ⟨ "slices.insertionSortCmpFunc[tankard/api.Span]", by decide, Try.func179.trans (congrArg some (by kernel_rfl))⟩
  f21 := ⟨ "slices.heapSortCmpFunc[tankard/api.Span]", by decide, Try.func180.trans (congrArg some (by kernel_rfl))⟩
  f22 := ⟨ "slices.breakPatternsCmpFunc[tankard/api.Span]", by decide, Try.func181.trans (congrArg some (by kernel_rfl))⟩
  f23 := ⟨ "slices.choosePivotCmpFunc[tankard/api.Span]", by decide, Try.func182.trans (congrArg some (by kernel_rfl))⟩
  f24 := ⟨ "slices.reverseRangeCmpFunc[tankard/api.Span]", by decide, Try.func183.trans (congrArg some (by kernel_rfl))⟩
  f25 := ⟨ "slices.partialInsertionSortCmpFunc[tankard/api.Span]", by decide, Try.func184.trans (congrArg some (by kernel_rfl))⟩
  f26 := ⟨ "slices.partitionEqualCmpFunc[tankard/api.Span]", by decide, Try.func185.trans (congrArg some (by kernel_rfl))⟩
  f27 := ⟨ "slices.partitionCmpFunc[tankard/api.Span]", by decide, Try.func186.trans (congrArg some (by kernel_rfl))⟩
  f28 := Try.func177.trans (congrArg some (by kernel_rfl))
  f29 := Try.func178.trans (congrArg some (by kernel_rfl))
  f46 := ⟨ "slices.siftDownCmpFunc[tankard/api.Span]", by decide, Try.func201.trans (congrArg some (by kernel_rfl))⟩
  f47 := Try.func197.trans (congrArg some (by kernel_rfl))
  f48 := Try.func198.trans (congrArg some (by kernel_rfl))
  f49 := ⟨ "slices.medianAdjacentCmpFunc[tankard/api.Span]", by decide, Try.func202.trans (congrArg some (by kernel_rfl))⟩
  f50 := ⟨ "slices.medianCmpFunc[tankard/api.Span]", by decide, Try.func203.trans (congrArg some (by kernel_rfl))⟩
  f57 := ⟨ "slices.order2CmpFunc[tankard/api.Span]", by decide, Try.func209.trans (congrArg some (by kernel_rfl))⟩
  t0 := Try.underlying0
  a0 := Try.isAgg0
  z0 := Try.sizeOf0
  v0 := Try.zeroValue0
  t3 := Try.underlying3
  a3 := Try.isAgg3
  z3 := Try.sizeOf3
  v3 := Try.zeroValue3
  t4 := Try.underlying4
  a4 := Try.isAgg4
  z4 := Try.sizeOf4
  v4 := Try.zeroValue4
  t5 := Try.underlying5
  a5 := Try.isAgg5
  z5 := Try.sizeOf5
  v5 := Try.zeroValue5
  t9 := Try.underlying9
  a9 := Try.isAgg9
  z9 := Try.sizeOf9
  v9 := Try.zeroValue9
  t22 := Try.underlying47
  a22 := Try.isAgg47
  z22 := Try.sizeOf47
  v22 := Try.zeroValue47
  t25 := Try.underlying137
  a25 := Try.isAgg137
  z25 := Try.sizeOf137
  v25 := Try.zeroValue137
  t39 := Try.underlying172
  a39 := Try.isAgg172
  z39 := Try.sizeOf172
  v39 := Try.zeroValue172
  t45 := Try.underlying231
  a45 := Try.isAgg231
  z45 := Try.sizeOf231
  v45 := Try.zeroValue231
  t46 := Try.underlying232
  a46 := Try.isAgg232
  z46 := Try.sizeOf232
  v46 := Try.zeroValue232
  t50 := Try.underlying236
  a50 := Try.isAgg236
  z50 := Try.sizeOf236
  v50 := Try.zeroValue236
  t53 := Try.underlying166
  a53 := Try.isAgg166
  z53 := Try.sizeOf166
  v53 := Try.zeroValue166
  t55 := Try.underlying51
  a55 := Try.isAgg51
  z55 := Try.sizeOf51
  v55 := Try.zeroValue51
  t66 := Try.underlying250
  a66 := Try.isAgg250
  z66 := Try.sizeOf250
  v66 := Try.zeroValue250
  t70 := Try.underlying254
  a70 := Try.isAgg254
  z70 := Try.sizeOf254
  v70 := Try.zeroValue254
  t76 := Try.underlying260
  a76 := Try.isAgg260
  z76 := Try.sizeOf260
  v76 := Try.zeroValue260
  t77 := Try.underlying261
  a77 := Try.isAgg261
  z77 := Try.sizeOf261
  v77 := Try.zeroValue261

abbrev n_sortsp : Nat := 127

abbrev n_appsp : Nat := 157

abbrev n_valssp : Nat := 128

theorem sort_agg (w : World) : (isAgg (renS.t 24)).run Try.prog w = .ok true w := Try.isAgg53 w

theorem sort_size (w : World) : (Go.sizeOf (renS.t 24)).run Try.prog w = .ok 5 w := Try.sizeOf53 w

theorem elemS : ElemK Try.prog 53 47 5 56 [.int .u64 0, .int .u64 0, .int .i64 0, .int .i64 0, .slice none 0 0] where
  mixed := by kernel_rfl
  t0 := Try.underlying0
  uS := Try.underlying47
  aS := Try.isAgg47
  zS := Try.sizeOf47
  vS := Try.zeroValue47
  aE := Try.isAgg53
  zE := Try.sizeOf53
  vE := Try.zeroValue53
  iE := by kernel_rfl
  zl := rfl

theorem mapsS : MapsK Try.prog 129 131 53 4 where
  uM := Try.underlying129
  aM := Try.isAgg129
  zM := Try.sizeOf129
  vM := Try.zeroValue129
  uB := Try.underlying4
  aB := Try.isAgg4
  zB := Try.sizeOf4
  vB := Try.zeroValue4

theorem app_body : Try.f157.body = some (apCode 53 47 135) := by kernel_rfl

theorem app_nt : Try.f157.ntmps = 13 := by kernel_rfl

theorem app_res : Try.f157.results = #[.tmp 4] := by kernel_rfl

theorem app_name : (Try.f157.name == "runtime.NumGoroutine") = false := by kernel_rfl

theorem app_fn : Try.prog.funcs[n_appsp]? = some Try.f157 := Try.func157

theorem va_body : Try.f128.body = some (vaCode 53 129 108 4) := by kernel_rfl

theorem va_nt : Try.f128.ntmps = 15 := by kernel_rfl

theorem va_res : Try.f128.results = #[] := by kernel_rfl

theorem va_name : (Try.f128.name == "runtime.NumGoroutine") = false := by kernel_rfl

theorem va_fn : Try.prog.funcs[n_valssp]? = some Try.f128 := Try.func128

theorem sort_name : (Try.f127.name == "runtime.NumGoroutine") = false := by kernel_rfl

theorem sort_body : Try.f127.body.isNone = false := by kernel_rfl

theorem sort_fn : Try.prog.funcs[n_sortsp]? = some Try.f127 := Try.func127

abbrev n_bcmp : Nat := 125

theorem bc_body : Try.f125.body = some (bcCode 34 3 156) := by kernel_rfl

theorem bc_nt : Try.f125.ntmps = 8 := by kernel_rfl

theorem bc_res : Try.f125.results = #[.tmp 4] := by kernel_rfl

theorem bc_name : (Try.f125.name == "runtime.NumGoroutine") = false := by kernel_rfl

theorem bc_fn : Try.prog.funcs[n_bcmp]? = some Try.f125 := Try.func125

theorem bx_fn : Try.prog.funcs[156]? = some Try.f156 := Try.func156

theorem bx_name : (Try.f156.name == "runtime.NumGoroutine") = false := by kernel_rfl

theorem bx_body : Try.f156.body.isNone = true := by kernel_rfl

theorem bx_next : Extern.findNext Try.f156 = none := by kernel_rfl

theorem bx_find : Extern.find Try.f156 = some Extern.BytealgCompare.compare := by kernel_rfl

end Go.VL

namespace Go.VL

open Go.Proofs Go.RowKit Go.Lib Go.Sort Go.Shelf

theorem cf_cmp (a b c d a' b' c' d' : Int) : cmpS c b a c' b' a' = cfS ⟨a, b, c, d, none, 0, 0⟩ ⟨a', b', c', d', none, 0, 0⟩ := by
  unfold cmpS cfS cmp3
  simp only
  by_cases h1 : c < c'
  · simp [h1, orI]
  · by_cases h2 : c' < c
    · simp [h1, h2, orI]
    · by_cases h3 : b < b'
      · simp [h1, h2, h3, orI]
      · by_cases h4 : b' < b
        · simp [h1, h2, h3, h4, orI]
        · by_cases h5 : a < a'
          · simp [h1, h2, h3, h4, h5, orI]
          · by_cases h6 : a' < a <;> simp [h1, h2, h3, h4, h5, h6, orI]

theorem appsp_ok {σ : St} {bx m : Nat} {es : List (AV × AV)} {ts : List Nat} {clk : Nat} {l : List Sp} (hbx : σ.res bx = some (.obj [.map m])) (hm : σ.res m = some (.map es ts clk)) (hl : es.map (·.2) = spsAV l) (h1 : l.length ≤ 1000000) :
    ACalls Try.prog n_appsp [.sl [] .nil, .func n_valssp [] [.ptr bx 0]] σ (fun v σ' => ∃ l' : List Sp, l'.Perm l ∧ ((l' = [] ∧ v = .sl [] .nil ∧ σ' = σ) ∨ (v = .ref σ.next 0 l'.length ∧ σ' = (σ.up 1).set σ.next (.obj (l'.flatMap cells5))))) :=
  app5_ok elemS mapsS (by decide) app_fn app_body app_nt app_res app_name va_fn va_body va_nt va_res va_name hbx hm hl (by simp only [maxLen]; omega) (by omega)

theorem sortsp_enters : Enters Try.prog n_sortsp := ⟨_, sort_fn, sort_body, sort_name⟩

theorem sortsp_ok {σ : St} {nm : Nat} {l : List Sp} (hnm : σ.res nm = some (.obj (l.flatMap cells5))) (hlen : l.length ≤ 1000000) :
    ACalls Try.prog n_sortsp [.ref nm 0 l.length, .func n_scmp [] []] σ (fun v σ' => v = .tup [] ∧ ∃ l' : List Sp, l'.Perm l ∧ l'.Pairwise (fun a b => aheadS b a = false) ∧ σ' = σ.set nm (.obj (l'.flatMap cells5))) :=
  sort5_ok (P := Try.prog) (ρ := renS) laysS sort_agg sort_size (scmp_ok (t := 0) (i := 0) (s := 0) (t' := 0) (i' := 0) (s' := 0) (x := .any) (y := .any) (x' := .any) (y' := .any) (σ := σn)).1 sortsp_enters
    (fun a b c d a' b' c' d' => scmp_ok.mono fun v σ' ⟨h1, h2⟩ => ⟨by rw [h1, cf_cmp a b c d a' b' c' d'], h2⟩) hnm (by omega)

theorem sortsp_nil {σ : St} : ACalls Try.prog n_sortsp [.sl [] .nil, .func n_scmp [] []] σ (fun v σ' => v = .tup [] ∧ σ' = σ) :=
  sort5_nil (P := Try.prog) (ρ := renS) laysS sortsp_enters

theorem bcmp_ok {a b : List UInt8} {g g' : Ver} {σ : St} : ACalls Try.prog n_bcmp [.sl (bytesAV a) g, .sl (bytesAV b) g'] σ (fun v σ' => v = .int .i64 (Lib.compareBytes a b) ∧ σ' = σ) :=
  bcmp5_ok bc_fn bc_body bc_nt bc_res bc_name bx_fn bx_name bx_body bx_next bx_find

end Go.VL

namespace Go.VL

open Go.Proofs

abbrev n_tless : Nat := 77

def c_tless : C := (.seq (.reg [⟨(some 2), (.box (.t 0)), none⟩, ⟨(some 3), (.box (.t 1)), none⟩, ⟨(some 4), (.mv (.c (.bool false))), none⟩]) (.seq (.reg [⟨(some 5), (.faddr 2 (.t 2)), none⟩, ⟨(some 6), (.load none (.t 5)), none⟩, ⟨(some 7), (.faddr 2 (.t 3)), none⟩, ⟨(some 8), (.load none (.t 7)), none⟩, ⟨(some 9), (.qcall 124 [(.t 6), (.t 8)]), none⟩, ⟨(some 10), (.faddr 3 (.t 2)), none⟩, ⟨(some 11), (.load none (.t 10)), none⟩, ⟨(some 12), (.faddr 3 (.t 3)), none⟩, ⟨(some 13), (.load none (.t 12)), none⟩, ⟨(some 14), (.qcall 124 [(.t 11), (.t 13)]), none⟩, ⟨(some 15), (.faddr 4 (.t 2)), none⟩, ⟨(some 16), (.load none (.t 15)), none⟩, ⟨(some 17), (.faddr 4 (.t 3)), none⟩, ⟨(some 18), (.load none (.t 17)), none⟩, ⟨(some 19), (.qcall 125 [(.t 16), (.t 18)]), none⟩, ⟨(some 20), (.bslice 1 .val [(.t 9), (.t 14), (.t 19)]), none⟩, ⟨(some 21), (.qcall 122 [(.t 20)]), none⟩, ⟨(some 22), (.bin .lss .i64 (.t 21) (.c (.int .i64 0))), none⟩, ⟨(some 4), (.mv (.t 22)), none⟩]) .ret))

set_option maxRecDepth 100000 in
theorem k_tless : compileC Try.prog ann (Try.f77.body.getD .skip) = some c_tless := by kernel_rfl

theorem s_tless {args : List AV} {σ : St} {K : AV → St → Prop} (h : WF σ → T Try.prog ann c_tless (Fin σ [(.t 4)] K) (args ++ List.replicate (23 - args.length) (.tup [])) σ) : ACalls Try.prog n_tless args σ K :=
  calls_ok Try.func77 (by kernel_rfl) (by kernel_rfl) k_tless (by kernel_rfl) (by kernel_rfl) h

abbrev n_tgather : Nat := 27

def c_tgather : C := (.seq (.reg [⟨(some 2), (.mv (.c (.sl [] .nil))), none⟩]) (.seq (.reg [⟨(some 11), .mkMap, none⟩, ⟨(some 3), (.mv (.t 11)), none⟩]) (.seq (.seq (.reg [⟨(some 12), (.mv (.t 0)), none⟩, ⟨(some 13), (.len (.t 12)), none⟩, ⟨(some 14), (.mv (.c (.int .i64 0))), none⟩]) (.block 0 (.loop (.seq (.reg [⟨(some 15), (.bin .lss .i64 (.t 14) (.t 13)), none⟩]) (.seq (.cond (.t 15) .skip (.exit 0)) (.seq (.block 1 (.seq (.reg [⟨(some 16), (.iaddr 5 (.t 12) (.t 14)), none⟩, ⟨(some 17), (.load (some 5) (.t 16)), none⟩, ⟨(some 5), (.alloc [(.int .u64 0), (.int .u64 0), (.int .i64 0), (.int .i64 0), (.sl [] .nil)]), none⟩, ⟨none, (.store 5 (.t 5) (.t 17)), none⟩]) (.seq (.reg [⟨(some 18), (.faddr 0 (.t 5)), none⟩, ⟨(some 19), (.load none (.t 18)), none⟩, ⟨(some 20), (.faddr 1 (.t 5)), none⟩, ⟨(some 21), (.load none (.t 20)), none⟩, ⟨(some 22), (.build [(.int .u64 0), (.int .u64 0)] [(0, (1, (.t 19))), (1, (1, (.t 21)))]), none⟩, ⟨(some 6), (.alloc [(.int .u64 0), (.int .u64 0)]), none⟩, ⟨none, (.store 2 (.t 6) (.t 22)), none⟩]) (.seq (.reg [⟨(some 24), (.mv (.t 3)), none⟩, ⟨(some 25), (.load (some 2) (.t 6)), none⟩, ⟨(some 26), (.look 4 (.agg [(.int .u64 0), (.int .u64 0), (.int .i64 0), (.int .i64 0), (.sl [] .nil)]) true (.t 24) (.t 25)), none⟩, ⟨(some 23), (.mv (.t 26)), none⟩, ⟨(some 27), (.ext (.t 23) 0), none⟩, ⟨(some 28), (.ext (.t 23) 1), none⟩, ⟨(some 7), (.alloc [(.int .u64 0), (.int .u64 0), (.int .i64 0), (.int .i64 0), (.sl [] .nil)]), none⟩, ⟨none, (.store 5 (.t 7) (.t 27)), none⟩, ⟨(some 8), (.mv (.t 28)), none⟩]) (.seq (.reg [⟨(some 29), (.mv (.t 8)), none⟩, ⟨(some 30), (.not (.t 29)), none⟩, ⟨(some 31), (.mv (.t 30)), none⟩, ⟨(some 32), (.load (some 5) (.t 5)), (some (31, false))⟩, ⟨(some 33), (.load (some 5) (.t 7)), (some (31, false))⟩, ⟨(some 34), (.call 77 [(.t 32), (.t 33)]), (some (31, false))⟩, ⟨(some 35), (.pick (.t 31) (.c (.bool true)) (.t 34)), none⟩]) (.cond (.t 35) (.reg [⟨(some 36), (.mv (.t 3)), none⟩, ⟨(some 37), (.load (some 2) (.t 6)), none⟩, ⟨(some 38), (.load (some 5) (.t 5)), none⟩, ⟨none, (.mapUp 4 (.t 36) (.t 37) (.t 38)), none⟩]) .skip)))))) (.reg [⟨(some 39), (.bin .add .i64 (.t 14) (.c (.int .i64 1))), none⟩, ⟨(some 14), (.mv (.t 39)), none⟩]))))))) (.seq (.reg [⟨(some 40), (.mv (.t 3)), none⟩, ⟨(some 41), (.call 79 [(.t 40)]), none⟩, ⟨(some 42), (.call 78 [(.t 41), (.c (.func 80 [] []))]), none⟩, ⟨(some 9), (.mv (.t 42)), none⟩]) (.seq (.seq (.reg [⟨(some 43), (.mv (.t 9)), none⟩, ⟨(some 44), (.len (.t 43)), none⟩, ⟨(some 45), (.mv (.c (.int .i64 0))), none⟩]) (.block 2 (.loop (.seq (.reg [⟨(some 46), (.bin .lss .i64 (.t 45) (.t 44)), none⟩]) (.seq (.cond (.t 46) .skip (.exit 2)) (.seq (.block 3 (.seq (.reg [⟨(some 47), (.mv (.t 45)), none⟩, ⟨(some 10), (.mv (.t 47)), none⟩]) (.reg [⟨(some 48), (.mv (.t 9)), none⟩, ⟨(some 49), (.mv (.t 10)), none⟩, ⟨(some 50), (.mv (.t 9)), none⟩, ⟨(some 51), (.mv (.t 10)), none⟩, ⟨(some 52), (.iaddr 5 (.t 50) (.t 51)), none⟩, ⟨(some 53), (.faddr 4 (.t 52)), none⟩, ⟨(some 54), (.load none (.t 53)), none⟩, ⟨(some 55), (.call 81 [(.t 54)]), none⟩, ⟨(some 56), (.iaddr 5 (.t 48) (.t 49)), none⟩, ⟨(some 57), (.faddr 4 (.t 56)), none⟩, ⟨none, (.store 1 (.t 57) (.t 55)), none⟩]))) (.reg [⟨(some 58), (.bin .add .i64 (.t 45) (.c (.int .i64 1))), none⟩, ⟨(some 45), (.mv (.t 58)), none⟩]))))))) (.seq (.reg [⟨(some 59), (.mv (.t 9)), none⟩, ⟨(some 2), (.mv (.t 59)), none⟩]) .ret))))))

set_option maxRecDepth 100000 in
theorem k_tgather : compileC Try.prog ann (Try.f27.body.getD .skip) = some c_tgather := by kernel_rfl

theorem s_tgather {args : List AV} {σ : St} {K : AV → St → Prop} (h : WF σ → T Try.prog ann c_tgather (Fin σ [(.t 2)] K) (args ++ List.replicate (60 - args.length) (.tup [])) σ) : ACalls Try.prog n_tgather args σ K :=
  calls_ok Try.func27 (by kernel_rfl) (by kernel_rfl) k_tgather (by kernel_rfl) (by kernel_rfl) h

abbrev n_tmerge : Nat := 28

def c_tmerge : C := (.seq (.reg [⟨(some 4), (.mv (.c (.sl [] .nil))), none⟩]) (.seq (.reg [⟨(some 5), (.mv (.t 0)), none⟩, ⟨(some 6), (.mv (.t 1)), none⟩, ⟨(some 7), (.bslice 1 .val [(.t 5), (.t 6)]), none⟩, ⟨(some 8), (.call 82 [(.t 7)]), none⟩, ⟨(some 9), (.call 27 [(.t 8)]), none⟩, ⟨(some 4), (.mv (.t 9)), none⟩]) .ret))

set_option maxRecDepth 100000 in
theorem k_tmerge : compileC Try.prog ann (Try.f28.body.getD .skip) = some c_tmerge := by kernel_rfl

theorem s_tmerge {args : List AV} {σ : St} {K : AV → St → Prop} (h : WF σ → T Try.prog ann c_tmerge (Fin σ [(.t 4)] K) (args ++ List.replicate (10 - args.length) (.tup [])) σ) : ACalls Try.prog n_tmerge args σ K :=
  calls_ok Try.func28 (by kernel_rfl) (by kernel_rfl) k_tmerge (by kernel_rfl) (by kernel_rfl) h

abbrev n_sortedfs : Nat := 78

def c_sortedfs : C := (.seq (.reg [⟨(some 4), (.mv (.c (.sl [] .nil))), none⟩]) (.seq (.reg [⟨(some 6), (.mv (.t 0)), none⟩, ⟨(some 7), (.call 126 [(.t 6)]), none⟩, ⟨(some 5), (.mv (.t 7)), none⟩]) (.seq (.reg [⟨(some 8), (.mv (.t 5)), none⟩, ⟨(some 9), (.mv (.t 1)), none⟩, ⟨(some 10), (.call 127 [(.t 8), (.t 9)]), none⟩]) (.seq (.reg [⟨(some 11), (.mv (.t 5)), none⟩, ⟨(some 4), (.mv (.t 11)), none⟩]) .ret))))

set_option maxRecDepth 100000 in
theorem k_sortedfs : compileC Try.prog ann (Try.f78.body.getD .skip) = some c_sortedfs := by kernel_rfl

theorem s_sortedfs {args : List AV} {σ : St} {K : AV → St → Prop} (h : WF σ → T Try.prog ann c_sortedfs (Fin σ [(.t 4)] K) (args ++ List.replicate (12 - args.length) (.tup [])) σ) : ACalls Try.prog n_sortedfs args σ K :=
  calls_ok Try.func78 (by kernel_rfl) (by kernel_rfl) k_sortedfs (by kernel_rfl) (by kernel_rfl) h

abbrev n_collects : Nat := 126

def c_collects : C := (.seq (.reg [⟨(some 2), (.mv (.c (.sl [] .nil))), none⟩]) (.seq (.reg [⟨(some 3), (.mv (.t 0)), none⟩, ⟨(some 4), (.call 157 [(.c (.sl [] .nil)), (.t 3)]), none⟩, ⟨(some 2), (.mv (.t 4)), none⟩]) .ret))

set_option maxRecDepth 100000 in
theorem k_collects : compileC Try.prog ann (Try.f126.body.getD .skip) = some c_collects := by kernel_rfl

theorem s_collects {args : List AV} {σ : St} {K : AV → St → Prop} (h : WF σ → T Try.prog ann c_collects (Fin σ [(.t 2)] K) (args ++ List.replicate (5 - args.length) (.tup [])) σ) : ACalls Try.prog n_collects args σ K :=
  calls_ok Try.func126 (by kernel_rfl) (by kernel_rfl) k_collects (by kernel_rfl) (by kernel_rfl) h

abbrev n_valuess : Nat := 79

def c_valuess : C := (.seq (.reg [⟨(some 1), (.box (.t 0)), none⟩, ⟨(some 2), (.mv (.c .nilf)), none⟩]) (.seq (.reg [⟨(some 3), (.mkF 128 [] [(.t 1)]), none⟩, ⟨(some 2), (.mv (.t 3)), none⟩]) .ret))

set_option maxRecDepth 100000 in
theorem k_valuess : compileC Try.prog ann (Try.f79.body.getD .skip) = some c_valuess := by kernel_rfl

theorem s_valuess {args : List AV} {σ : St} {K : AV → St → Prop} (h : WF σ → T Try.prog ann c_valuess (Fin σ [(.t 2)] K) (args ++ List.replicate (4 - args.length) (.tup [])) σ) : ACalls Try.prog n_valuess args σ K :=
  calls_ok Try.func79 (by kernel_rfl) (by kernel_rfl) k_valuess (by kernel_rfl) (by kernel_rfl) h

abbrev n_grows : Nat := 130

def c_grows : C := (.seq (.reg [⟨(some 4), (.mv (.c (.sl [] .nil))), none⟩]) (.seq (.seq (.reg [⟨(some 5), (.mv (.t 1)), none⟩, ⟨(some 6), (.bin .lss .i64 (.t 5) (.c (.int .i64 0))), none⟩]) (.cond (.t 6) (.reg [⟨(some 7), (.mkI 9 (.c (.str ⟨#[99, 97, 110, 110, 111, 116, 32, 98, 101, 32, 110, 101, 103, 97, 116, 105, 118, 101]⟩))), none⟩, ⟨none, .panic, none⟩]) .skip)) (.seq (.seq (.reg [⟨(some 8), (.mv (.t 1)), none⟩, ⟨(some 9), (.mv (.t 0)), none⟩, ⟨(some 10), (.cap (.t 9)), none⟩, ⟨(some 11), (.mv (.t 0)), none⟩, ⟨(some 12), (.len (.t 11)), none⟩, ⟨(some 13), (.bin .sub .i64 (.t 10) (.t 12)), none⟩, ⟨(some 14), (.bin .sub .i64 (.t 8) (.t 13)), none⟩, ⟨(some 1), (.mv (.t 14)), none⟩]) (.seq (.reg [⟨(some 15), (.mv (.t 1)), none⟩, ⟨(some 16), (.bin .gtr .i64 (.t 15) (.c (.int .i64 0))), none⟩]) (.cond (.t 16) (.reg [⟨(some 17), (.mv (.t 0)), none⟩, ⟨(some 18), (.mv (.t 0)), none⟩, ⟨(some 19), (.cap (.t 18)), none⟩, ⟨(some 20), (.slice 5 (.t 17) none (some (.t 19))), none⟩, ⟨(some 21), (.mv (.t 1)), none⟩, ⟨(some 22), (.appZ 5 56 (.agg [(.int .u64 0), (.int .u64 0), (.int .i64 0), (.int .i64 0), (.sl [] .nil)]) (.t 20) (.t 21)), none⟩, ⟨(some 23), (.mv (.t 0)), none⟩, ⟨(some 24), (.len (.t 23)), none⟩, ⟨(some 25), (.slice 5 (.t 22) none (some (.t 24))), none⟩, ⟨(some 0), (.mv (.t 25)), none⟩]) .skip))) (.seq (.reg [⟨(some 26), (.mv (.t 0)), none⟩, ⟨(some 4), (.mv (.t 26)), none⟩]) .ret))))

set_option maxRecDepth 100000 in
theorem k_grows : compileC Try.prog ann (Try.f130.body.getD .skip) = some c_grows := by kernel_rfl

theorem s_grows {args : List AV} {σ : St} {K : AV → St → Prop} (h : WF σ → T Try.prog ann c_grows (Fin σ [(.t 4)] K) (args ++ List.replicate (27 - args.length) (.tup [])) σ) : ACalls Try.prog n_grows args σ K :=
  calls_ok Try.func130 (by kernel_rfl) (by kernel_rfl) k_grows (by kernel_rfl) (by kernel_rfl) h

abbrev n_concats : Nat := 82

def c_concats : C := (.seq (.reg [⟨(some 2), (.mv (.c (.sl [] .nil))), none⟩]) (.seq (.reg [⟨(some 3), (.mv (.c (.int .i64 0))), none⟩]) (.seq (.seq (.reg [⟨(some 9), (.mv (.t 0)), none⟩, ⟨(some 10), (.len (.t 9)), none⟩, ⟨(some 11), (.mv (.c (.int .i64 0))), none⟩]) (.block 0 (.loop (.seq (.reg [⟨(some 12), (.bin .lss .i64 (.t 11) (.t 10)), none⟩]) (.seq (.cond (.t 12) .skip (.exit 0)) (.seq (.block 1 (.seq (.reg [⟨(some 13), (.iaddr 1 (.t 9) (.t 11)), none⟩, ⟨(some 14), (.load none (.t 13)), none⟩, ⟨(some 5), (.mv (.t 14)), none⟩]) (.seq (.reg [⟨(some 15), (.mv (.t 3)), none⟩, ⟨(some 16), (.mv (.t 5)), none⟩, ⟨(some 17), (.len (.t 16)), none⟩, ⟨(some 18), (.bin .add .i64 (.t 15) (.t 17)), none⟩, ⟨(some 3), (.mv (.t 18)), none⟩]) (.seq (.reg [⟨(some 19), (.mv (.t 3)), none⟩, ⟨(some 20), (.bin .lss .i64 (.t 19) (.c (.int .i64 0))), none⟩]) (.cond (.t 20) (.reg [⟨(some 21), (.mkI 9 (.c (.str ⟨#[108, 101, 110, 32, 111, 117, 116, 32, 111, 102, 32, 114, 97, 110, 103, 101]⟩))), none⟩, ⟨none, .panic, none⟩]) .skip))))) (.reg [⟨(some 22), (.bin .add .i64 (.t 11) (.c (.int .i64 1))), none⟩, ⟨(some 11), (.mv (.t 22)), none⟩]))))))) (.seq (.reg [⟨(some 23), (.mv (.t 3)), none⟩, ⟨(some 24), (.call 130 [(.c (.sl [] .nil)), (.t 23)]), none⟩, ⟨(some 6), (.mv (.t 24)), none⟩]) (.seq (.seq (.reg [⟨(some 25), (.mv (.t 0)), none⟩, ⟨(some 26), (.len (.t 25)), none⟩, ⟨(some 27), (.mv (.c (.int .i64 0))), none⟩]) (.block 2 (.loop (.seq (.reg [⟨(some 28), (.bin .lss .i64 (.t 27) (.t 26)), none⟩]) (.seq (.cond (.t 28) .skip (.exit 2)) (.seq (.block 3 (.seq (.reg [⟨(some 29), (.iaddr 1 (.t 25) (.t 27)), none⟩, ⟨(some 30), (.load none (.t 29)), none⟩, ⟨(some 8), (.mv (.t 30)), none⟩]) (.reg [⟨(some 31), (.mv (.t 6)), none⟩, ⟨(some 32), (.mv (.t 8)), none⟩, ⟨(some 33), (.app 5 56 .tip (.t 31) (.t 32)), none⟩, ⟨(some 6), (.mv (.t 33)), none⟩]))) (.reg [⟨(some 34), (.bin .add .i64 (.t 27) (.c (.int .i64 1))), none⟩, ⟨(some 27), (.mv (.t 34)), none⟩]))))))) (.seq (.reg [⟨(some 35), (.mv (.t 6)), none⟩, ⟨(some 2), (.mv (.t 35)), none⟩]) .ret))))))

set_option maxRecDepth 100000 in
theorem k_concats : compileC Try.prog ann (Try.f82.body.getD .skip) = some c_concats := by kernel_rfl

theorem s_concats {args : List AV} {σ : St} {K : AV → St → Prop} (h : WF σ → T Try.prog ann c_concats (Fin σ [(.t 2)] K) (args ++ List.replicate (36 - args.length) (.tup [])) σ) : ACalls Try.prog n_concats args σ K :=
  calls_ok Try.func82 (by kernel_rfl) (by kernel_rfl) k_concats (by kernel_rfl) (by kernel_rfl) h

end Go.VL

namespace Go.VL

open Go.Proofs

abbrev ann_clone : Ann := { errs := [(31, .i64)], hold := [(3, 0, .zero), (3, 2, .own)] }

abbrev n_clone : Nat := 81

def c_clone : C := (.seq (.reg [⟨(some 2), (.mv (.c (.sl [] .nil))), none⟩]) (.seq (.seq (.reg [⟨(some 3), (.mv (.t 0)), none⟩, ⟨(some 4), (.eqS false (.t 3)), none⟩]) (.cond (.t 4) (.seq (.reg [⟨(some 2), (.mv (.c (.sl [] .nil))), none⟩]) .ret) .skip)) (.seq (.reg [⟨(some 5), (.bslice 1 .zero []), none⟩, ⟨(some 6), (.mv (.t 0)), none⟩, ⟨(some 7), (.app 1 1 .own (.t 5) (.t 6)), none⟩, ⟨(some 2), (.mv (.t 7)), none⟩]) .ret)))

set_option maxRecDepth 100000 in
theorem k_clone : compileC Try.prog ann_clone (Try.f81.body.getD .skip) = some c_clone := by kernel_rfl

theorem s_clone {args : List AV} {σ : St} {K : AV → St → Prop} (h : WF σ → T Try.prog ann_clone c_clone (Fin σ [(.t 2)] K) (args ++ List.replicate (8 - args.length) (.tup [])) σ) : ACalls Try.prog n_clone args σ K :=
  calls_ok Try.func81 (by kernel_rfl) (by kernel_rfl) k_clone (by kernel_rfl) (by kernel_rfl) h

end Go.VL

namespace Go.VL

open Go.Proofs

/-- what a store holds: names, and bytes -/
abbrev Objs := List (ByteArray × List UInt8)

def objsAV (L : Objs) : List (AV × AV) := L.map fun e => (.str e.1, .sl (bytesAV e.2) .none)

/-- a store stands at p, its map at m -/
structure StS (σ : St) (p m : Nat) (room left calls : Int) (L : Objs) : Prop where
  obj : σ.res p = some (.obj [.int .i64 room, .map m, .int .i64 left, .int .i64 calls])
  map : ∃ ts clk, σ.res m = some (.map (objsAV L) ts clk) ∧ ts.length = L.length ∧ ts.Nodup ∧ ∀ t ∈ ts, t < clk
  ne : p ≠ m

theorem StS.mono {σ σ' : St} {p m : Nat} {room left calls : Int} {L : Objs} (h : StS σ p m room left calls L) (ho : ∀ n x, σ.res n = some x → σ'.res n = some x) : StS σ' p m room left calls L := by
  obtain ⟨ts, clk, h1, h2⟩ := h.map
  exact ⟨ho _ _ h.obj, ⟨ts, clk, ho _ _ h1, h2⟩, h.ne⟩

theorem clone_ok {b : List UInt8} {v : AV} {σ : St} (hb : b.length ≤ 1099511627776) (hv : (∃ g, v = .sl (bytesAV b) g ∧ (g = .nil → b = [])) ∨ ∃ n, v = .ref n 0 b.length ∧ σ.res n = some (.obj (bytesAV b))) :
    ACalls Try.prog n_clone [v] σ (fun w σ' => (w = .sl [] .none ∧ b = [] ∧ ∀ n x, σ.res n = some x → σ'.res n = some x) ∨ ∃ n, σ.next ≤ n ∧ n < σ'.next ∧ w = .ref n 0 b.length ∧ σ'.res n = some (.obj (bytesAV b)) ∧ ∀ n x, σ.res n = some x → σ'.res n = some x) := by
  refine s_clone (fun wf => ?_)
  unfold c_clone
  have more : ∀ ρ' : List AV, keep [0] 0 ρ' = [v] ++ List.replicate 7 .any → T Try.prog ann_clone (.seq (.reg [⟨(some 5), (.bslice 1 .zero []), none⟩, ⟨(some 6), (.mv (.t 0)), none⟩, ⟨(some 7), (.app 1 1 .own (.t 5) (.t 6)), none⟩, ⟨(some 2), (.mv (.t 7)), none⟩]) .ret)
      (Fin σ [.t 2] (fun w σ' => (w = .sl [] .none ∧ b = [] ∧ ∀ n x, σ.res n = some x → σ'.res n = some x) ∨ ∃ n, σ.next ≤ n ∧ n < σ'.next ∧ w = .ref n 0 b.length ∧ σ'.res n = some (.obj (bytesAV b)) ∧ ∀ n x, σ.res n = some x → σ'.res n = some x)) ρ' σ := by
    intro ρ' hρ
    refine T.gh (Gh.keep [0]) ?_
    rw [hρ]
    clear hρ ρ'
    have hsrc : srcOf (σ.up 4) 1 v = some (bytesAV b) := by
      rcases hv with ⟨g, rfl, _⟩ | ⟨n, rfl, hr⟩
      · simp only [srcOf, bytesAV_er]
      · have e : ((bytesAV b).drop 0).take b.length = bytesAV b := by rw [List.drop_zero, List.take_of_length_le (by rw [bytesAV_len]; exact Nat.le_refl _)]
        have hr' : (σ.up 4).res n = some (.obj (bytesAV b)) := hr
        unfold srcOf
        simp only [hr']
        rw [e, if_pos ⟨by trivial, by rw [bytesAV_len]; omega, by simp [bytesAV, AV.one]⟩]
        simp [bytesAV, AV.er1]
    refine T.seq_k (fun K_h1 h1 => ?_)
    cases b with
    | nil =>
      have hsrc' : srcOf (σ.up 4) 1 v = some [] := hsrc
      refine T.regi hm ?_
      simp only [↓reduceIte, namesOf, List.any, I.names, aopsI, astep, ev, setd, List.set, List.getD, List.getElem?_cons_zero, List.getElem?_cons_succ, List.cons_append, List.nil_append, List.length_cons, List.length_nil, List.replicate, then_normal, Option.getD_some, Bool.or_false, Bool.or_true, Nat.reduceAdd, true_and, eq_self, decide_true, List.isEmpty, hsrc', List.all_nil, Bool.true_and, Nat.zero_add, Nat.zero_mul, Nat.zero_le, and_self, List.append_nil]
      refine h1 _ _ ?_
      try clear h1 K_h1
      exact T.ret (Fin.retw rfl (y := .sl [] .none) (Wk.sl _ _) (.inl ⟨rfl, rfl, fun _ _ h => h⟩))
    | cons x r =>
      have hne : (bytesAV (x :: r)).isEmpty = false := rfl
      refine T.regi hm ?_
      simp only [↓reduceIte, namesOf, List.any, I.names, aopsI, astep, ev, setd, List.set, List.getD, List.getElem?_cons_zero, List.getElem?_cons_succ, List.cons_append, List.nil_append, List.length_cons, List.length_nil, List.replicate, then_normal, Option.getD_some, Bool.or_false, Bool.or_true, Nat.reduceAdd, eq_self, reduceCtorEq, List.isEmpty, hsrc, bytes_all, Bool.true_and, List.nil_append, Nat.zero_add]
      rw [if_pos (by simp only [bytesAV_len, decide_eq_true_eq]; omega)]
      refine h1 _ _ ?_
      try clear h1 K_h1
      refine T.ret (Fin.ret rfl (.inr ⟨σ.next + 2, by omega, by simp, ?_, ?_, set_quiet wf (Nat.le_refl _) (fun _ _ h => h) _ (by omega)⟩))
      · simp [pack, bytesAV_len]
      · rw [St.set_same, bytes_flat]
  refine T.seq_k (fun K_h1 h1 => ?_)
  refine T.regi hm ?_
  simp only [↓reduceIte, namesOf, List.any, I.names, aopsI, astep, ev, setd, List.set, List.cons_append, List.nil_append, List.length_cons, List.length_nil, List.replicate, then_normal, Bool.or_false, Bool.false_eq_true, up_zero, Nat.reduceAdd, Nat.reduceSub]
  refine h1 _ _ ?_
  try clear h1 K_h1
  refine T.seq_k (fun K_h1 h1 => ?_)
  refine T.seq_k (fun K_h2 h2 => ?_)
  have hlen0 : (∃ n, v = .ref n 0 b.length ∧ σ.res n = some (.obj (bytesAV b))) → ∀ K : AV → St → Prop, K (.bool false) σ → True := fun _ _ _ => trivial
  clear hlen0
  rcases hv with ⟨g, rfl, hgn⟩ | ⟨n, rfl, hr⟩
  · have go : ∀ ρ' : List AV, keep [0] 0 ρ' = [.sl (bytesAV b) g] ++ List.replicate 7 .any → ∀ x : Bool, ρ'.getD 4 .any = .bool x → (x = true → b = []) → K_h2 ρ' σ := by
      intro ρ' hρ x hx hn
      refine h2 _ _ ?_
      try clear h2 K_h2
      refine T.cond (b := x) (by simpa [ev] using hx) (fun ht => ?_) (fun _ => T.skip ?_)
      · have hb0 := hn ht
        refine T.gh (Gh.keep [0]) ?_
        rw [hρ]
        refine T.seq_k (fun K_h2 h2 => ?_)
        refine T.regi hm ?_
        simp only [↓reduceIte, namesOf, List.any, I.names, aopsI, astep, ev, setd, List.set, List.cons_append, List.nil_append, List.replicate, then_normal, Bool.or_false, Bool.false_eq_true, up_zero]
        refine h2 _ _ ?_
        try clear h2 K_h2
        exact T.ret (Fin.retw rfl (y := .sl [] .none) (Wk.sl _ _) (.inl ⟨rfl, hb0, fun _ _ h => h⟩))
      · refine h1 _ _ ?_
        try clear h1 K_h1
        exact more _ hρ
    cases b with
    | nil =>
      cases g <;> refine T.regi hm ?_
      simp only [↓reduceIte, namesOf, List.any, I.names, aopsI, astep, ev, setd, List.set, List.getD, List.getElem?_cons_zero, List.getElem?_cons_succ, List.length_nil, then_normal, Option.getD_some, Bool.or_false, Bool.false_eq_true, up_zero, true_and, eq_self, List.isEmpty, bne_self_eq_false]
      · intro x; exact go _ rfl x rfl (fun _ => rfl)
      · exact go _ rfl _ rfl (fun _ => rfl)
      · intro x; exact go _ rfl x rfl (fun _ => rfl)
      · intro x; exact go _ rfl x rfl (fun _ => rfl)
    | cons y r =>
      have hne : (bytesAV (y :: r)).isEmpty = false := rfl
      cases g
      case nil => exact absurd (hgn rfl) (by simp)
      all_goals
        refine T.regi hm ?_
        simp only [↓reduceIte, namesOf, List.any, I.names, aopsI, astep, ev, setd, List.set, List.getD, List.getElem?_cons_zero, List.getElem?_cons_succ, List.length_cons, then_normal, Option.getD_some, Bool.or_false, Bool.false_eq_true, up_zero, reduceCtorEq, hne, bne_self_eq_false]
        exact go _ rfl false rfl (fun h => by cases h)
  · refine T.regi hm ?_
    simp only [↓reduceIte, namesOf, List.any, I.names, aopsI, astep, ev, setd, List.set, List.getD, List.getElem?_cons_zero, List.getElem?_cons_succ, then_normal, Option.getD_some, Bool.or_false, Bool.false_eq_true, up_zero, bne_self_eq_false]
    refine h2 _ _ ?_
    try clear h2 K_h2
    refine T.cond rfl (fun h => by cases h) (fun _ => T.skip ?_)
    refine h1 _ _ ?_
    try clear h1 K_h1
    exact more _ rfl

end Go.VL

namespace Go.VL

open Go.Proofs

/-- an owned row that comes back, told to be a value -/
theorem Gv.freeze {σ0 σ : St} {n off len k : Nat} {cs xs : List AV} (hr : σ.res n = some (.obj cs)) (hlen : xs.length = len) (hk : ∀ x ∈ xs, x.cells.length = k)
    (hx : xs.flatMap AV.cells = (cs.drop off).take (len * k)) : Gv σ0 (.ref n off len) σ (.sl xs .none) (σ.del n) := by
  intro κ0 w0 B0 F0 F κ w v h0 hR he hd hn hv
  obtain ⟨hdm, us, rest, ty, fz, h1, h2, h3, h4, _⟩ := hR.own n _ hr
  have e : Ext κ w { κ with I := fun b o => κ.I b o ∨ (b = κ.φ n ∧ o < us.length) } w := ⟨fun _ _ x => .inl x, fun _ _ => rfl, fun _ _ => rfl, fun _ _ => rfl, fun _ _ => rfl, fun _ x => x, fun _ _ _ => rfl⟩
  have hlt := hR.lt hr
  have hR' : R w0.heap.size F { κ with I := fun b o => κ.I b o ∨ (b = κ.φ n ∧ o < us.length) } w (σ.del n) := by
    refine hR.step e (fun m hm => hR.dom m hm) (fun b o hi => ?_) (fun m r hm => ?_)
    · rcases hi with hi | ⟨rfl, _⟩
      · exact hR.imm b o hi
      · exact hlt
    · have hmn : m ≠ n := by intro e; subst e; simp [St.del] at hm
      have hm' : σ.res m = some r := by simpa [St.del, hmn] using hm
      refine .inl ⟨hm', rfl, fun o hi => ?_⟩
      rcases hi with hi | ⟨hx, _⟩
      · exact hi
      · exact absurd (hR.apart _ _ _ _ hm' hr hx) hmn
  obtain ⟨cap, rfl, hcap, _⟩ := hv.ref_inv
  refine ⟨_, hR', he.trans e, hd, hn, ?_⟩
  rw [← hlen]
  refine .sl _ _ cap k xs hk (by rw [hlen]; exact hcap) ?_
  rw [hx]
  refine Vs.mk (us := (us.drop off).take (len * k)) (((h3.mono e).drop off).take _) (fun i u hu => ?_)
  have hu2 : us[off + i]? = some u := by
    rw [List.getElem?_take] at hu
    split at hu
    · simpa using hu
    · cases hu
  have hil : off + i < us.length := (List.getElem?_eq_some_iff.1 hu2).1
  exact ⟨.inr ⟨rfl, hil⟩, by rw [cell_of h1, List.getElem?_append_left hil]; exact hu2⟩

abbrev BytesV (σ : St) (v : AV) (b : List UInt8) : Prop := (∃ g, v = .sl (bytesAV b) g ∧ (g = .nil → b = [])) ∨ ∃ n, v = .ref n 0 b.length ∧ σ.res n = some (.obj (bytesAV b))

theorem clone_q {b : List UInt8} {v : AV} {σ : St} (hb : b.length ≤ 1099511627776) (hv : BytesV σ v b) : ACalls Try.prog n_clone [v] σ (fun w σ' => w = .sl (bytesAV b) .none ∧ σ' = σ) := by
  refine (clone_ok hb hv).gv ?_
  rintro wf w σ' (⟨rfl, rfl, ho⟩ | ⟨n, h1, h2, rfl, h3, ho⟩)
  · exact ⟨_, _, Gv.quiet ⟨trivial, trivial⟩ ho, rfl, rfl⟩
  · refine ⟨_, _, (Gv.freeze (k := 1) h3 (xs := bytesAV b) (bytesAV_len b) (fun x hx => ?_) ?_).trans (Gv.quiet ⟨nb_bytes _ _, trivial⟩ (fun m x hm => ?_)), rfl, rfl⟩
    · obtain ⟨y, _, rfl⟩ := List.mem_map.1 hx; rfl
    · rw [bytes_flat, List.drop_zero, Nat.mul_one, List.take_of_length_le (by rw [bytesAV_len]; exact Nat.le_refl _)]
    · have hmn : m ≠ n := by
        rintro rfl
        rw [wf m h1] at hm; cases hm
      simp only [St.del]
      rw [if_neg hmn]; exact ho m x hm

/-- all else is as it was -/
structure Nx (σ σ' : St) (p m : Nat) : Prop where
  next : σ.next ≤ σ'.next
  old : ∀ n x, n ≠ p → n ≠ m → σ.res n = some x → σ'.res n = some x

theorem Nx.refl (σ : St) (p m : Nat) : Nx σ σ p m := ⟨Nat.le_refl _, fun _ _ _ _ h => h⟩

theorem Nx.trans {σ σ1 σ2 : St} {p m : Nat} (h : Nx σ σ1 p m) (k : Nx σ1 σ2 p m) : Nx σ σ2 p m := ⟨Nat.le_trans h.next k.next, fun n x h1 h2 h3 => k.old n x h1 h2 (h.old n x h1 h2 h3)⟩

theorem Nx.set {σ : St} {p m : Nat} (r : Res) : Nx σ (σ.set p r) p m := ⟨Nat.le_refl _, fun n x h1 _ h3 => by rw [St.set_other _ _ h1]; exact h3⟩

end Go.VL

namespace Go.VL

open Go.Proofs

open Classical in
/-- a table of what bytes.Compare comes to -/
noncomputable def g_bc (args : List AV) : Option AV := if h : ∃ p : (List UInt8 × List UInt8) × (Ver × Ver), args = [.sl (bytesAV p.1.1) p.2.1, .sl (bytesAV p.1.2) p.2.2] then some (.int .i64 (Lib.compareBytes h.choose.1.1 h.choose.1.2)) else none

theorem g_bc_eq (a b : List UInt8) (g g' : Ver) : g_bc [.sl (bytesAV a) g, .sl (bytesAV b) g'] = some (.int .i64 (Lib.compareBytes a b)) := by
  unfold g_bc
  have hex : ∃ p : (List UInt8 × List UInt8) × (Ver × Ver), [AV.sl (bytesAV a) g, AV.sl (bytesAV b) g'] = [.sl (bytesAV p.1.1) p.2.1, .sl (bytesAV p.1.2) p.2.2] := ⟨((a, b), (g, g')), rfl⟩
  rw [dif_pos hex]
  have hc := hex.choose_spec
  rw [List.cons.injEq, List.cons.injEq] at hc
  have h1 := hc.1
  have h2 := hc.2.1
  injection h1 with h1 _
  injection h2 with h2 _
  rw [← bytesAV_inj h1, ← bytesAV_inj h2]

theorem bc_pure : PureC Try.prog n_bcmp g_bc := by
  intro args σ v hv
  unfold g_bc at hv
  split at hv
  · rename_i hex
    simp only [Option.some.injEq] at hv; subst hv
    have hc := hex.choose_spec
    generalize hex.choose = c at hc
    subst hc
    exact bcmp_ok
  · cases hv

noncomputable def tLs : Tbl := [(n_cmpi, g_cmpi), (n_bcmp, g_bc), (n_cor, g_or3)]

theorem tLs_ok : tLs.ok Try.prog := Tbl.ok_cons cmpi_pure (Tbl.ok_cons bc_pure (Tbl.ok_cons or3_pure Tbl.ok_nil))

theorem less_or (a b : Sp) : decide (orI [cmp3 a.st b.st, cmp3 a.en b.en, Lib.compareBytes a.da b.da] < 0) = lessS a b := by
  unfold lessS cmp3
  by_cases h1 : a.st = b.st
  · by_cases h2 : a.en = b.en
    · simp only [h1, h2, Int.lt_irrefl, if_false, orI, if_true, ne_eq, not_true_eq_false]
      have := compareBytes_neg a.da b.da
      by_cases h3 : Lib.compareBytes a.da b.da = 0
      · simp only [h3, if_true]
        rw [h3] at this
        have h4 : ¬ (Op.bytesLess a.da b.da = true) := by rw [← this]; decide
        simp at h4; simp [h4]
      · simp only [h3, if_false, this]
        simp
    · simp only [h1, Int.lt_irrefl, if_false, orI, if_true, ne_eq, not_true_eq_false, h2, not_false_eq_true]
      by_cases h3 : a.en < b.en
      · simp [h3]
      · have h4 : b.en < a.en := by omega
        simp [h3, h4]
  · simp only [ne_eq, h1, not_false_eq_true, if_true]
    by_cases h3 : a.st < b.st
    · simp [h3, orI]
    · have h4 : b.st < a.st := by omega
      simp [h3, h4, orI]

set_option maxRecDepth 10000 in
theorem tless_ok {a b : Sp} {σ : St} : ACalls Try.prog n_tless [.agg (spC a), .agg (spC b)] σ (fun v σ' => v = .bool (lessS a b) ∧ σ' = σ) := by
  refine s_tless (fun wf => ?_)
  unfold c_tless
  refine T.seq_k (fun K_h1 h1 => ?_)
  refine T.regi hm ?_
  simp only [↓reduceIte, namesOf, List.any, I.names, aopsI, astep, ev, setd, List.set, List.getD, List.getElem?_cons_zero, List.getElem?_cons_succ, List.cons_append, List.nil_append, List.length_cons, List.length_nil, List.replicate, then_normal, Option.getD_some, Bool.or_false, Bool.or_true, Bool.false_eq_true, Nat.reduceAdd, Nat.reduceSub, AV.isAny, AV.cells, eq_self]
  obtain ⟨h0, h0', hq⟩ := box2 wf 3 (.obj (spC a)) (.obj (spC b))
  generalize (((σ.up 3).set (σ.next + 0) (.obj (spC a))).set (σ.next + 1) (.obj (spC b))) = σ1 at h0 h0' hq ⊢
  refine h1 _ _ ?_
  try clear h1 K_h1
  refine T.seq_k (fun K_h1 h1 => ?_)
  have hge := g_bc_eq a.da b.da .none .none
  refine T.regt hm tLs_ok ?_
  simp only [↓reduceIte, namesOf, List.any, I.names, aopsT, qstep, qget, Tbl.get, astep, ev, setd, List.set, List.getD, List.getElem?_cons_zero, List.getElem?_cons_succ, List.length_cons, List.length_nil, then_normal, Option.getD_some, Bool.or_false, Bool.false_eq_true, up_zero, binv, ↓opt_def, AV.isAny, AV.cells, ldc, List.map_cons, List.map_nil, eq_self, er_int, Nat.reduceEqDiff, tLs, n_cmpi, n_bcmp, n_cor, h0, h0', g_cmpi, hge, g_or3, Nat.zero_add, Nat.reduceEqDiff, List.all_cons, List.all_nil, AV.fits, AV.one, Bool.not_false, Bool.and_self, beq_self_eq_true, held]
  refine h1 _ _ ?_
  try clear h1 K_h1
  exact T.ret (Fin.quiet rfl trivial hq ⟨by rw [← less_or]; rfl, rfl⟩)

/-! ### The map that gathers -/

def kS (s : Sp) : AV := .agg [.int .u64 (s.tr : Int), .int .u64 (s.id : Int)]

def metS (vs : List Sp) : List (AV × AV) := vs.map fun s => (kS s, s.av)

def sameK (a b : Sp) : Bool := decide (a.tr = b.tr) && decide (a.id = b.id)

theorem natb (m n : Nat) : ((m : Int) == (n : Int)) = decide (m = n) := by
  by_cases h : m = n
  · simp [h]
  · have : ¬ ((m : Int) = (n : Int)) := by omega
    rw [decide_eq_false h]
    simpa using this

theorem keq_kS (a b : Sp) : keq (kS a) (kS b) = some (sameK a b) := by
  simp only [kS, keq, eqAv, if_true, Option.map_some, Bool.and_true, sameK, natb]

def putS : List Sp → Sp → List Sp
  | [], s => [s]
  | x :: r, s => if sameK s x then (if lessS s x then s :: r else x :: r) else x :: putS r s

theorem mfind_metS (s : Sp) : ∀ vs, mfind (kS s) (metS vs) = some ((vs.find? (sameK s)).map Sp.av)
  | [] => rfl
  | x :: r => by
    have ih := mfind_metS s r
    simp only [metS, List.map_cons, mfind, keq_kS, List.find?_cons] at ih ⊢
    cases sameK s x with
    | true => rfl
    | false => exact ih

theorem mput_metS (s : Sp) : ∀ vs, (∀ o, vs.find? (sameK s) = some o → lessS s o = true) → mput (kS s) s.av (metS vs) = metS (putS vs s)
  | [], _ => rfl
  | x :: r, h => by
    simp only [metS, List.map_cons, mput, keq_kS, putS]
    cases hs : sameK s x with
    | true =>
      have := h x (by simp [hs])
      simp [this]
    | false =>
      have ih := mput_metS s r (fun o ho => h o (by simp [hs, ho]))
      simp only [metS] at ih
      simp [ih]

theorem putS_same (s : Sp) : ∀ vs o, vs.find? (sameK s) = some o → lessS s o = false → putS vs s = vs
  | [], o, h, _ => by simp at h
  | x :: r, o, h, hl => by
    simp only [putS]
    cases hs : sameK s x with
    | true =>
      have : x = o := by simpa [List.find?_cons, hs] using h
      subst this
      simp [hl]
    | false =>
      have := putS_same s r o (by simpa [List.find?_cons, hs] using h) hl
      simp [this]

/-- what the map holds -/
def putsS (l : List Sp) : List Sp := l.foldl putS []

theorem putS_len (s : Sp) : ∀ vs, (putS vs s).length ≤ vs.length + 1
  | [] => by simp [putS]
  | x :: r => by
    have := putS_len s r
    simp only [putS]
    split
    · split <;> simp
    · simp; omega

theorem putsS_len (l : List Sp) : (putsS l).length ≤ l.length := by
  have : ∀ (l vs : List Sp), (l.foldl putS vs).length ≤ vs.length + l.length := by
    intro l
    induction l with
    | nil => intro vs; simp
    | cons s r ih =>
      intro vs
      have h1 := ih (putS vs s)
      have h2 := putS_len s vs
      simp only [List.foldl_cons, List.length_cons]; omega
  simpa [putsS] using this l []

structure GaSt (σ t : St) (m : Nat) (vs : List Sp) : Prop where
  next : σ.next ≤ t.next
  m0 : σ.next ≤ m
  m1 : m < t.next
  map : ∃ ts clk, t.res m = some (.map (metS vs) ts clk)
  old : ∀ n, n < σ.next → t.res n = σ.res n

theorem GaSt.up {σ t : St} {m : Nat} {vs : List Sp} (h : GaSt σ t m vs) (k : Nat) : GaSt σ (t.up k) m vs := ⟨by simp; have := h.next; omega, h.m0, by simp; have := h.m1; omega, h.map, h.old⟩

theorem GaSt.set {σ t : St} {m : Nat} {vs : List Sp} (h : GaSt σ t m vs) {b : Nat} (r : Res) (hb : t.next ≤ b) : GaSt σ (t.set b r) m vs :=
  ⟨h.next, h.m0, h.m1, by obtain ⟨ts, clk, hm⟩ := h.map; exact ⟨ts, clk, by rw [St.set_other _ _ (by have := h.m1; omega)]; exact hm⟩, fun n hn => by rw [St.set_other _ _ (by have := h.next; omega)]; exact h.old n hn⟩

theorem GaSt.box {σ t : St} {m : Nat} {vs : List Sp} (h : GaSt σ t m vs) {n i : Nat} (hi : i < n) (r : Res) : GaSt σ ((t.up n).set (t.next + i) r) m vs :=
  ⟨by simp; have := h.next; omega, h.m0, by simp; have := h.m1; omega, by obtain ⟨ts, clk, hm⟩ := h.map; exact ⟨ts, clk, by rw [St.set_other _ _ (by have := h.m1; omega)]; exact hm⟩, fun n hn => by rw [St.set_other _ _ (by have := h.next; omega)]; exact h.old n hn⟩

theorem GaSt.quiet {σ t : St} {m : Nat} {vs : List Sp} (h : GaSt σ t m vs) (wf : WF σ) : ∀ n r, σ.res n = some r → t.res n = some r := fun n r hr => by
  have : n < σ.next := by
    rcases Nat.lt_or_ge n σ.next with hx | hx
    · exact hx
    · rw [wf n hx] at hr; cases hr
  rw [h.old n this]; exact hr

end Go.VL

namespace Go.VL

open Go.Proofs

theorem values_ok {m : Nat} {σ : St} : ACalls Try.prog n_valuess [.map m] σ (fun v σ' => ∃ bx, σ.next ≤ bx ∧ bx < σ'.next ∧ v = .func n_valssp [] [.ptr bx 0] ∧ σ'.res bx = some (.obj [.map m]) ∧ Like σ σ') := by
  refine s_valuess (fun wf => ?_)
  unfold c_valuess
  refine T.seq_k (fun K_h1 h1 => ?_)
  refine T.regi hm ?_
  simp only [↓reduceIte, namesOf, List.any, I.names, aopsI, astep, ev, setd, List.set, List.getD, List.getElem?_cons_zero, List.cons_append, List.nil_append, List.length_cons, List.length_nil, List.replicate, then_normal, Option.getD_some, Bool.or_false, Bool.false_eq_true, Nat.reduceAdd, Nat.reduceSub, AV.isAny, AV.cells, eq_self]
  refine h1 _ _ ?_
  try clear h1 K_h1
  refine T.seq_k (fun K_h1 h1 => ?_)
  refine T.regi hm ?_
  simp only [↓reduceIte, namesOf, List.any, I.names, aopsI, astep, ev, setd, List.set, List.getD, List.getElem?_cons_zero, List.getElem?_cons_succ, then_normal, Option.getD_some, Bool.or_false, Bool.false_eq_true, up_zero, List.map_cons, List.map_nil]
  refine h1 _ _ ?_
  try clear h1 K_h1
  exact T.ret (Fin.ret rfl ⟨σ.next + 0, by omega, by simp, rfl, by simp, ⟨by simp, fun n hn => by rw [St.set_other _ _ (by omega)]; rfl⟩⟩)

/-- a new row of these spans, in some order -/
def NewRow (σ : St) (l' : List Sp) (v : AV) (σ' : St) : Prop := (l' = [] ∧ v = .sl [] .nil ∧ σ' = σ) ∨ (v = .ref σ.next 0 l'.length ∧ σ' = (σ.up 1).set σ.next (.obj (l'.flatMap cells5)))

theorem collects_ok {σ : St} {bx m : Nat} {es : List (AV × AV)} {ts : List Nat} {clk : Nat} {l : List Sp} (hbx : σ.res bx = some (.obj [.map m])) (hmp : σ.res m = some (.map es ts clk)) (hl : es.map (·.2) = spsAV l) (hll : l.length ≤ 1000000) :
    ACalls Try.prog n_collects [.func n_valssp [] [.ptr bx 0]] σ (fun v σ' => ∃ l' : List Sp, l'.Perm l ∧ NewRow σ l' v σ') := by
  refine s_collects (fun wf => ?_)
  unfold c_collects
  refine T.seq_k (fun K_h1 h1 => ?_)
  refine T.regi hm ?_
  simp only [↓reduceIte, namesOf, List.any, I.names, aopsI, astep, ev, setd, List.set, List.cons_append, List.nil_append, List.length_cons, List.length_nil, List.replicate, then_normal, Bool.or_false, Bool.false_eq_true, up_zero, Nat.reduceAdd, Nat.reduceSub]
  refine h1 _ _ ?_
  try clear h1 K_h1
  refine T.seq_k (fun K_h1 h1 => ?_)
  refine T.regi hm ?_
  simp only [↓reduceIte, namesOf, List.any, I.names, aopsI, astep, ev, setd, List.set, List.getD, List.getElem?_cons_zero, List.getElem?_cons_succ, then_normal, Option.getD_some, Bool.or_false, Bool.false_eq_true, up_zero, List.map_cons, List.map_nil]
  refine (appsp_ok hbx hmp hl hll).mono ?_
  rintro v σ1 ⟨l', hp, hn⟩
  try simp only [↓reduceIte, namesOf, List.any, I.names, aops, aopsI, aopsT, qstep, CPt, qget, Tbl.get, astep, ev, setd, List.set, List.getD, List.getElem?_cons_zero, List.getElem?_cons_succ, List.getElem?_nil, List.cons_append, List.nil_append, List.length_cons, List.length_nil, List.replicate, then_normal, inBlock_normal, Option.getD_some, Option.getD_none, Bool.or_false, Bool.or_true, Bool.true_or, Bool.false_or, Bool.false_eq_true, if_false, if_true, up_zero, Nat.reduceAdd, Nat.reduceSub, binv, ↓opt_def, AV.isAny, AV.cells, ldc, List.map_cons, List.map_nil, St.set_next, St.set_same, St.up_next, Int.natCast_nonneg, lt_len, le_len, Int.toNat_natCast, true_and, and_true, eq_self, reduceCtorEq, decide_true, List.length_singleton, er_int, er_bool, er_str, up_zero]
  refine h1 _ _ ?_
  try clear h1 K_h1
  exact T.ret (Fin.ret rfl ⟨l', hp, hn⟩)

theorem sortedfs_ok {σ : St} {bx m : Nat} {es : List (AV × AV)} {ts : List Nat} {clk : Nat} {l : List Sp} (hbx : σ.res bx = some (.obj [.map m])) (hmp : σ.res m = some (.map es ts clk)) (hl : es.map (·.2) = spsAV l) (hll : l.length ≤ 1000000) :
    ACalls Try.prog n_sortedfs [.func n_valssp [] [.ptr bx 0], .func n_scmp [] []] σ (fun v σ' => ∃ l' : List Sp, l'.Perm l ∧ l'.Pairwise (fun a b => aheadS b a = false) ∧ NewRow σ l' v σ') := by
  refine s_sortedfs (fun wf => ?_)
  unfold c_sortedfs
  refine T.seq_k (fun K_h1 h1 => ?_)
  refine T.regi hm ?_
  simp only [↓reduceIte, namesOf, List.any, I.names, aopsI, astep, ev, setd, List.set, List.cons_append, List.nil_append, List.length_cons, List.length_nil, List.replicate, then_normal, Bool.or_false, Bool.false_eq_true, up_zero, Nat.reduceAdd, Nat.reduceSub]
  refine h1 _ _ ?_
  try clear h1 K_h1
  refine T.seq_k (fun K_h1 h1 => ?_)
  refine T.regi hm ?_
  simp only [↓reduceIte, namesOf, List.any, I.names, aopsI, astep, ev, setd, List.set, List.getD, List.getElem?_cons_zero, List.getElem?_cons_succ, then_normal, Option.getD_some, Bool.or_false, Bool.false_eq_true, up_zero, List.map_cons, List.map_nil]
  refine (collects_ok hbx hmp hl hll).mono ?_
  rintro v σ1 ⟨l', hp, hn⟩
  try simp only [↓reduceIte, namesOf, List.any, I.names, aops, aopsI, aopsT, qstep, CPt, qget, Tbl.get, astep, ev, setd, List.set, List.getD, List.getElem?_cons_zero, List.getElem?_cons_succ, List.getElem?_nil, List.cons_append, List.nil_append, List.length_cons, List.length_nil, List.replicate, then_normal, inBlock_normal, Option.getD_some, Option.getD_none, Bool.or_false, Bool.or_true, Bool.true_or, Bool.false_or, Bool.false_eq_true, if_false, if_true, up_zero, Nat.reduceAdd, Nat.reduceSub, binv, ↓opt_def, AV.isAny, AV.cells, ldc, List.map_cons, List.map_nil, St.set_next, St.set_same, St.up_next, Int.natCast_nonneg, lt_len, le_len, Int.toNat_natCast, true_and, and_true, eq_self, reduceCtorEq, decide_true, List.length_singleton, er_int, er_bool, er_str, up_zero]
  refine h1 _ _ ?_
  try clear h1 K_h1
  refine T.seq_k (fun K_h1 h1 => ?_)
  rcases hn with ⟨hl0, rfl, rfl⟩ | ⟨rfl, rfl⟩
  · refine T.regi hm ?_
    simp only [↓reduceIte, namesOf, List.any, I.names, aopsI, astep, ev, setd, List.set, List.getD, List.getElem?_cons_zero, List.getElem?_cons_succ, then_normal, Option.getD_some, Bool.or_false, Bool.false_eq_true, up_zero, List.map_cons, List.map_nil]
    refine sortsp_nil.mono ?_
    rintro v σ2 ⟨rfl, rfl⟩
    try simp only [↓reduceIte, namesOf, List.any, I.names, aops, aopsI, aopsT, qstep, CPt, qget, Tbl.get, astep, ev, setd, List.set, List.getD, List.getElem?_cons_zero, List.getElem?_cons_succ, List.getElem?_nil, List.cons_append, List.nil_append, List.length_cons, List.length_nil, List.replicate, then_normal, inBlock_normal, Option.getD_some, Option.getD_none, Bool.or_false, Bool.or_true, Bool.true_or, Bool.false_or, Bool.false_eq_true, if_false, if_true, up_zero, Nat.reduceAdd, Nat.reduceSub, binv, ↓opt_def, AV.isAny, AV.cells, ldc, List.map_cons, List.map_nil, St.set_next, St.set_same, St.up_next, Int.natCast_nonneg, lt_len, le_len, Int.toNat_natCast, true_and, and_true, eq_self, reduceCtorEq, decide_true, List.length_singleton, er_int, er_bool, er_str, up_zero]
    refine h1 _ _ ?_
    try clear h1 K_h1
    refine T.seq_k (fun K_h1 h1 => ?_)
    refine T.regi hm ?_
    simp only [↓reduceIte, namesOf, List.any, I.names, aopsI, astep, ev, setd, List.set, List.getD, List.getElem?_cons_zero, List.getElem?_cons_succ, then_normal, Option.getD_some, Bool.or_false, Bool.false_eq_true, up_zero]
    refine h1 _ _ ?_
    try clear h1 K_h1
    exact T.ret (Fin.ret rfl ⟨l', hp, by rw [hl0]; exact .nil, .inl ⟨hl0, rfl, rfl⟩⟩)
  · refine T.regi hm ?_
    simp only [↓reduceIte, namesOf, List.any, I.names, aopsI, astep, ev, setd, List.set, List.getD, List.getElem?_cons_zero, List.getElem?_cons_succ, then_normal, Option.getD_some, Bool.or_false, Bool.false_eq_true, up_zero, List.map_cons, List.map_nil]
    refine (sortsp_ok (l := l') (by simp) (by rw [hp.length_eq]; exact hll)).mono ?_
    rintro v σ2 ⟨rfl, l2, hp2, hs, rfl⟩
    try simp only [St.set_set]
    refine h1 _ _ ?_
    try clear h1 K_h1
    refine T.seq_k (fun K_h1 h1 => ?_)
    refine T.regi hm ?_
    simp only [↓reduceIte, namesOf, List.any, I.names, aopsI, astep, ev, setd, List.set, List.getD, List.getElem?_cons_zero, List.getElem?_cons_succ, then_normal, Option.getD_some, Bool.or_false, Bool.false_eq_true, up_zero]
    refine h1 _ _ ?_
    try clear h1 K_h1
    refine T.ret (Fin.ret rfl ⟨l2, hp2.trans hp, hs, .inr ⟨?_, rfl⟩⟩)
    rw [hp2.length_eq]; rfl

end Go.VL

namespace Go.VL

open Go.Proofs

theorem putsS_snoc (l : List Sp) (s : Sp) : putsS (l ++ [s]) = putS (putsS l) s := by simp [putsS]

theorem metS_vals (vs : List Sp) : (metS vs).map (·.2) = spsAV vs := by simp [metS, spsAV]

theorem kshape_kS (s : Sp) : kshape 4 (kS s) = true := by simp [kS, kshape, ints]

theorem mem_putS {x s : Sp} : ∀ {vs : List Sp}, x ∈ putS vs s → x = s ∨ x ∈ vs
  | [], h => by simp [putS] at h; exact .inl h
  | y :: r, h => by
    simp only [putS] at h
    split at h
    · split at h
      · rcases List.mem_cons.1 h with h | h
        · exact .inl h
        · exact .inr (List.mem_cons_of_mem _ h)
      · exact .inr h
    · rcases List.mem_cons.1 h with h | h
      · exact .inr (by rw [h]; exact List.mem_cons_self ..)
      · rcases mem_putS h with h | h
        · exact .inl h
        · exact .inr (List.mem_cons_of_mem _ h)

theorem mem_putsS {x : Sp} {l : List Sp} (h : x ∈ putsS l) : x ∈ l := by
  have : ∀ (l vs : List Sp), x ∈ l.foldl putS vs → x ∈ l ∨ x ∈ vs := by
    intro l
    induction l with
    | nil => intro vs h; exact .inr h
    | cons s r ih =>
      intro vs h
      rcases ih (putS vs s) h with h | h
      · exact .inl (List.mem_cons_of_mem _ h)
      · rcases mem_putS h with h | h
        · exact .inl (by rw [h]; exact List.mem_cons_self ..)
        · exact .inr h
  rcases this l [] h with h | h
  · exact h
  · cases h

theorem flat5_get : ∀ (l : List Sp) (i : Nat) (hi : i < l.length), (l.flatMap cells5)[i * 5 + 4]? = some (.sl (bytesAV l[i].da) .none)
  | [], i, hi => absurd hi (by simp)
  | s :: l, 0, _ => by simp
  | s :: l, i + 1, hi => by
    have := flat5_get l i (by simpa using hi)
    rw [List.flatMap_cons, List.getElem?_append_right (by simp; omega)]
    have e : (i + 1) * 5 + 4 - (cells5 s).length = i * 5 + 4 := by simp; omega
    rw [e, this]; rfl

theorem splice_same {cs : List AV} {j : Nat} {x : AV} (h : cs[j]? = some x) : splice cs j [x] = cs := by
  obtain ⟨hj, hx⟩ := List.getElem?_eq_some_iff.1 h
  unfold splice
  rw [List.length_singleton, List.append_assoc, List.singleton_append, ← hx, ← List.drop_eq_getElem_cons hj, List.take_append_drop]

theorem flat5_len (l : List Sp) : (l.flatMap cells5).length = l.length * 5 := by
  induction l with
  | nil => rfl
  | cons s l ih => simp only [List.flatMap_cons, List.length_append, ih, List.length_cons]; simp; omega

theorem GaSt.put {σ t : St} {m : Nat} {vs : List Sp} (h : GaSt σ t m vs) (vs' : List Sp) (ts : List Nat) (clk : Nat) : GaSt σ (t.set m (.map (metS vs') ts clk)) m vs' :=
  ⟨h.next, h.m0, h.m1, ⟨ts, clk, by simp⟩, fun n hn => by rw [St.set_other _ _ (by have := h.m0; omega)]; exact h.old n hn⟩

set_option maxRecDepth 10000 in
theorem tgather_ok {l : List Sp} {g : Ver} {σ : St} (hll : l.length ≤ 1000000) (hda : ∀ s ∈ l, s.da.length ≤ 1099511627776) : ACalls Try.prog n_tgather [.sl (spsAV l) g] σ
    (fun v σ' => ∃ l' : List Sp, l'.Perm (putsS l) ∧ l'.Pairwise (fun a b => aheadS b a = false) ∧ ((l' = [] ∧ v = .sl [] .nil) ∨ ∃ nm, σ.next ≤ nm ∧ nm < σ'.next ∧ v = .ref nm 0 l'.length ∧ σ'.res nm = some (.obj (l'.flatMap cells5))) ∧ Like σ σ') := by
  refine s_tgather (fun wf => ?_)
  unfold c_tgather
  refine T.seq_k (fun K_h1 h1 => ?_)
  refine T.regi hm ?_
  simp only [↓reduceIte, namesOf, List.any, I.names, aopsI, astep, ev, setd, List.set, List.cons_append, List.nil_append, List.length_cons, List.length_nil, List.replicate, then_normal, Bool.or_false, Bool.false_eq_true, up_zero, Nat.reduceAdd, Nat.reduceSub]
  refine h1 _ _ ?_
  try clear h1 K_h1
  refine T.seq_k (fun K_h1 h1 => ?_)
  refine T.regi hm ?_
  simp only [↓reduceIte, namesOf, List.any, I.names, aopsI, astep, ev, setd, List.set, List.getD, List.getElem?_cons_zero, List.getElem?_cons_succ, List.length_cons, List.length_nil, then_normal, Option.getD_some, Bool.or_false, Nat.reduceAdd, eq_self]
  have g0 : GaSt σ ((σ.up 2).set (σ.next + 0) (.map [] [] 0)) (σ.next + 0) (putsS (l.take 0)) := ⟨by simp, by omega, by simp, ⟨[], 0, by simp [putsS, metS]⟩, fun n hn => by rw [St.set_other _ _ (by omega)]; rfl⟩
  generalize ((σ.up 2).set (σ.next + 0) (.map [] [] 0)) = σ1 at g0 ⊢
  generalize σ.next + 0 = m at g0 ⊢
  refine h1 _ _ ?_
  try clear h1 K_h1
  refine T.seq_k (fun K_h1 h1 => ?_)
  refine T.seq_k (fun K_h2 h2 => ?_)
  refine T.regi hm ?_
  simp only [↓reduceIte, namesOf, List.any, I.names, aopsI, astep, ev, setd, List.set, List.getD, List.getElem?_cons_zero, List.getElem?_cons_succ, then_normal, Option.getD_some, Bool.or_false, Bool.false_eq_true, up_zero, sps_len]
  refine h2 _ _ ?_
  try clear h2 K_h2
  refine T.block ?_
  refine T.gh (Gh.keep [3, 12, 13, 14]) ?_
  refine T.loopi (fun i ρ t => GaSt σ t m (putsS (l.take i)) ∧ ρ = [.any, .any, .any, .map m, .any, .any, .any, .any, .any, .any, .any, .any, .sl (spsAV l) g, .int .i64 (l.length : Int), .int .i64 (i : Int)] ++ List.replicate 45 .any)
    l.length 0 (Nat.zero_le _) ⟨g0, rfl⟩ ?_
  clear g0 σ1
  rintro i ρ t hi ⟨o1, rfl⟩
  refine T.seq_k (fun K_h2 h2 => ?_)
  refine T.regi hm ?_
  simp only [↓reduceIte, namesOf, List.any, I.names, aopsI, astep, ev, setd, List.set, List.getD, List.getElem?_cons_zero, List.getElem?_cons_succ, List.cons_append, List.nil_append, List.replicate, then_normal, Option.getD_some, Bool.or_false, Bool.false_eq_true, up_zero, binv, ↓opt_def, lt_len, eq_self]
  refine h2 _ _ ?_
  try clear h2 K_h2
  refine T.seq_k (fun K_h2 h2 => ?_)
  refine T.cond rfl (fun hb => ?_) (fun hb => ?_)
  · refine T.skip ?_
    refine h2 _ _ ?_
    try clear h2 K_h2
    have hil : i < l.length := by simpa using hb
    clear hb
    have hta : l.take (i + 1) = l.take i ++ [l[i]] := List.take_succ_eq_append_getElem hil
    have hg := sps_get hil
    generalize l[i] = s at hg hta
    rw [spav] at hg
    refine T.seq_k (fun K_h2 h2 => ?_)
    refine T.block ?_
    refine T.seq_k (fun K_h3 h3 => ?_)
    refine T.regi hm ?_
    simp only [↓reduceIte, namesOf, List.any, I.names, aopsI, astep, ev, setd, List.set, List.getD, List.getElem?_cons_zero, List.getElem?_cons_succ, List.cons_append, List.nil_append, List.length_cons, List.length_nil, List.replicate, then_normal, Option.getD_some, Bool.or_false, Bool.or_true, Nat.reduceAdd, ↓opt_def, AV.isAny, AV.cells, ldc, St.set_same, Int.natCast_nonneg, lt_len, Int.toNat_natCast, true_and, and_true, eq_self, decide_true, sps_len, hg, hil, AV.fits, AV.one, List.all_cons, List.all_nil, Nat.reduceBEq, Bool.not_false, Bool.and_self, Nat.zero_add, splice, List.take, List.drop, Nat.reduceLeDiff, St.set_set]
    have o2 := o1.box (n := 4) (i := 2) (by omega) (.obj (spC s))
    have hb5 : ((t.up 4).set (t.next + 2) (.obj (spC s))).res (t.next + 2) = some (.obj (spC s)) := by simp
    have hbn : t.next + 2 < ((t.up 4).set (t.next + 2) (.obj (spC s))).next := by simp
    have hbl : σ.next ≤ t.next + 2 := by have := o1.next; omega
    have hbm : t.next + 2 ≠ m := by have := o1.m1; omega
    clear o1
    generalize ((t.up 4).set (t.next + 2) (.obj (spC s))) = σ2 at o2 hb5 hbn ⊢
    generalize t.next + 2 = b at hb5 hbn hbl hbm ⊢
    refine h3 _ _ ?_
    try clear h3 K_h3
    refine T.seq_k (fun K_h3 h3 => ?_)
    refine T.regi hm ?_
    simp only [↓reduceIte, namesOf, List.any, I.names, aopsI, astep, ev, setd, List.set, List.getD, List.getElem?_cons_zero, List.getElem?_cons_succ, List.cons_append, List.nil_append, List.length_cons, List.length_nil, List.replicate, then_normal, Option.getD_some, Bool.or_false, Bool.or_true, Nat.reduceAdd, ↓opt_def, AV.isAny, AV.cells, ldc, St.set_same, and_true, eq_self, decide_true, hb5, St.up_res, AV.fits, AV.one, List.all_cons, List.all_nil, Nat.reduceBEq, Bool.not_false, Bool.and_self, Nat.zero_add, splice, List.take, List.drop, Nat.reduceLeDiff, St.set_set, fillA, ↓Option.map_some]
    have o3 := o2.box (n := 7) (i := 5) (by omega) (.obj [.int .u64 (s.tr : Int), .int .u64 (s.id : Int)])
    have hc6 : ((σ2.up 7).set (σ2.next + 5) (.obj [.int .u64 (s.tr : Int), .int .u64 (s.id : Int)])).res (σ2.next + 5) = some (.obj [.int .u64 (s.tr : Int), .int .u64 (s.id : Int)]) := by simp
    have hb6 : ((σ2.up 7).set (σ2.next + 5) (.obj [.int .u64 (s.tr : Int), .int .u64 (s.id : Int)])).res b = some (.obj (spC s)) := by rw [St.set_other _ _ (by omega)]; exact hb5
    have hcn : σ2.next + 5 < ((σ2.up 7).set (σ2.next + 5) (.obj [.int .u64 (s.tr : Int), .int .u64 (s.id : Int)])).next := by simp
    have hbn6 : b < ((σ2.up 7).set (σ2.next + 5) (.obj [.int .u64 (s.tr : Int), .int .u64 (s.id : Int)])).next := by simp; omega
    have hcm : σ2.next + 5 ≠ m := by have := o2.m1; omega
    clear o2 hb5
    generalize ((σ2.up 7).set (σ2.next + 5) (.obj [.int .u64 (s.tr : Int), .int .u64 (s.id : Int)])) = σ3 at o3 hc6 hb6 hcn hbn6 ⊢
    generalize σ2.next + 5 = c at hc6 hcn hcm ⊢
    clear hbn
    refine h3 _ _ ?_
    try clear h3 K_h3
    refine T.seq_k (fun K_h3 h3 => ?_)
    obtain ⟨ts, clk, hmp⟩ := o3.map
    have e3 := mfind_metS s (putsS (l.take i))
    simp only [kS] at e3
    have hks := kshape_kS s
    simp only [kS] at hks
    have hw := inc64' hil (by omega)
    have hpm := mput_metS s (putsS (l.take i))
    simp only [kS] at hpm
    cases hf : (putsS (l.take i)).find? (sameK s) with
    | none =>
      rw [hf] at e3 hpm
      refine T.regi hm ?_
      simp only [↓reduceIte, namesOf, List.any, I.names, aopsI, astep, ev, setd, List.set, List.getD, List.getElem?_cons_zero, List.getElem?_cons_succ, List.cons_append, List.nil_append, List.length_cons, List.length_nil, List.replicate, then_normal, Option.getD_some, Bool.or_false, Bool.or_true, Nat.reduceAdd, ↓opt_def, AV.isAny, AV.cells, ldc, St.set_same, eq_self, decide_true, hc6, hmp, hks, e3, St.up_res, Option.map_none, AV.fits, AV.one, List.all_cons, List.all_nil, Nat.reduceBEq, Bool.not_false, Bool.and_self, Nat.zero_add, splice, List.take, List.drop, Nat.reduceLeDiff, St.set_set]
      have o4 := o3.box (n := 9) (i := 6) (by omega) (.obj [.int .u64 0, .int .u64 0, .int .i64 0, .int .i64 0, .sl [] .nil])
      have hb7 : ((σ3.up 9).set (σ3.next + 6) (.obj [.int .u64 0, .int .u64 0, .int .i64 0, .int .i64 0, .sl [] .nil])).res b = some (.obj (spC s)) := by rw [St.set_other _ _ (by omega)]; exact hb6
      have hc7 : ((σ3.up 9).set (σ3.next + 6) (.obj [.int .u64 0, .int .u64 0, .int .i64 0, .int .i64 0, .sl [] .nil])).res c = some (.obj [.int .u64 (s.tr : Int), .int .u64 (s.id : Int)]) := by rw [St.set_other _ _ (by omega)]; exact hc6
      have hm7 : ((σ3.up 9).set (σ3.next + 6) (.obj [.int .u64 0, .int .u64 0, .int .i64 0, .int .i64 0, .sl [] .nil])).res m = some (.map (metS (putsS (l.take i))) ts clk) := by rw [St.set_other _ _ (by have := o3.m1; omega)]; exact hmp
      generalize ((σ3.up 9).set (σ3.next + 6) (.obj [.int .u64 0, .int .u64 0, .int .i64 0, .int .i64 0, .sl [] .nil])) = σ4 at o4 hb7 hc7 hm7 ⊢
      generalize σ3.next + 6 = d
      refine h3 _ _ ?_
      try clear h3 K_h3
      refine T.seq_k (fun K_h3 h3 => ?_)
      refine T.regi hm ?_
      simp only [↓reduceIte, namesOf, List.any, I.names, aopsI, astep, ev, setd, List.set, List.getD, List.getElem?_cons_zero, List.getElem?_cons_succ, List.cons_append, List.nil_append, List.replicate, then_normal, Option.getD_some, Bool.or_false, Bool.false_eq_true, up_zero, Nat.reduceAdd, ↓opt_def, ldc, List.map_cons, List.map_nil]
      refine h3 _ _ ?_
      try clear h3 K_h3
      refine T.cond rfl (fun _ => ?_) (fun h => by cases h)
      refine T.regi hm ?_
      simp only [↓reduceIte, namesOf, List.any, I.names, aopsI, astep, ev, setd, List.set, List.getD, List.getElem?_cons_zero, List.getElem?_cons_succ, List.cons_append, List.nil_append, List.length_cons, List.length_nil, List.replicate, then_normal, inBlock_normal, Option.getD_some, Bool.or_false, Bool.false_eq_true, up_zero, Nat.reduceAdd, ↓opt_def, ldc, eq_self, hb7, hc7, hm7, hks, e3, Option.map_none, Bool.not_false, Nat.zero_add, List.take, List.drop, Nat.reduceLeDiff]
      rw [show (AV.agg [.int .u64 (s.tr : Int), .int .u64 (s.id : Int), .int .i64 s.st, .int .i64 s.en, .sl (bytesAV s.da) .none]) = s.av from rfl, hpm (fun o h => by cases h)]
      have o5 := o4.put (putS (putsS (l.take i)) s) (ts ++ [clk]) (clk + 1)
      refine h2 _ _ ?_
      try clear h2 K_h2
      refine T.regi hm ?_
      simp only [↓reduceIte, namesOf, List.any, I.names, aopsI, astep, ev, setd, List.set, List.getD, List.getElem?_cons_zero, List.getElem?_cons_succ, List.cons_append, List.nil_append, List.replicate, then_normal, Option.getD_some, Bool.or_false, Bool.false_eq_true, up_zero, binv, ↓opt_def, eq_self, hw]
      refine ⟨hil, _, _, Gh.keep [3, 12, 13, 14], ⟨?_, rfl⟩⟩
      rw [hta, putsS_snoc]
      exact o5
    | some o =>
      rw [hf] at e3 hpm
      rw [Option.map_some, Sp.av] at e3
      have e4 : mfind (.agg [.int .u64 (s.tr : Int), .int .u64 (s.id : Int)]) (metS (putsS (l.take i))) = some (some (.agg (spC o))) := e3
      refine T.regi hm ?_
      simp only [↓reduceIte, namesOf, List.any, I.names, aopsI, astep, ev, setd, List.set, List.getD, List.getElem?_cons_zero, List.getElem?_cons_succ, List.cons_append, List.nil_append, List.length_cons, List.length_nil, List.replicate, then_normal, Option.getD_some, Bool.or_false, Bool.or_true, Nat.reduceAdd, ↓opt_def, AV.isAny, AV.cells, ldc, St.set_same, eq_self, decide_true, hc6, hmp, hks, e4, St.up_res, AV.fits, AV.one, List.all_cons, List.all_nil, Nat.reduceBEq, Bool.not_false, Bool.and_self, Nat.zero_add, splice, List.take, List.drop, Nat.reduceLeDiff, St.set_set]
      have o4 := o3.box (n := 9) (i := 6) (by omega) (.obj (spC o))
      have hb7 : ((σ3.up 9).set (σ3.next + 6) (.obj (spC o))).res b = some (.obj (spC s)) := by rw [St.set_other _ _ (by omega)]; exact hb6
      have hc7 : ((σ3.up 9).set (σ3.next + 6) (.obj (spC o))).res c = some (.obj [.int .u64 (s.tr : Int), .int .u64 (s.id : Int)]) := by rw [St.set_other _ _ (by omega)]; exact hc6
      have hd7 : ((σ3.up 9).set (σ3.next + 6) (.obj (spC o))).res (σ3.next + 6) = some (.obj (spC o)) := by simp
      have hm7 : ((σ3.up 9).set (σ3.next + 6) (.obj (spC o))).res m = some (.map (metS (putsS (l.take i))) ts clk) := by rw [St.set_other _ _ (by have := o3.m1; omega)]; exact hmp
      generalize ((σ3.up 9).set (σ3.next + 6) (.obj (spC o))) = σ4 at o4 hb7 hc7 hm7 hd7 ⊢
      generalize σ3.next + 6 = d at hd7 ⊢
      refine h3 _ _ ?_
      try clear h3 K_h3
      refine T.seq_k (fun K_h3 h3 => ?_)
      refine T.regi hm ?_
      simp only [↓reduceIte, namesOf, List.any, I.names, aopsI, astep, ev, setd, List.set, List.getD, List.getElem?_cons_zero, List.getElem?_cons_succ, List.cons_append, List.nil_append, List.length_cons, List.length_nil, List.replicate, then_normal, Option.getD_some, Bool.or_false, Bool.false_eq_true, up_zero, Nat.reduceAdd, ↓opt_def, ldc, List.map_cons, List.map_nil, hb7, hd7]
      refine tless_ok.mono ?_
      rintro v σ5 ⟨rfl, rfl⟩
      try simp only [↓reduceIte, namesOf, List.any, I.names, aops, aopsI, aopsT, qstep, CPt, qget, Tbl.get, astep, ev, setd, List.set, List.getD, List.getElem?_cons_zero, List.getElem?_cons_succ, List.getElem?_nil, List.cons_append, List.nil_append, List.length_cons, List.length_nil, List.replicate, then_normal, inBlock_normal, Option.getD_some, Option.getD_none, Bool.or_false, Bool.or_true, Bool.true_or, Bool.false_or, Bool.false_eq_true, if_false, if_true, up_zero, Nat.reduceAdd, Nat.reduceSub, binv, ↓opt_def, AV.isAny, AV.cells, ldc, List.map_cons, List.map_nil, St.set_next, St.set_same, St.up_next, Int.natCast_nonneg, lt_len, le_len, Int.toNat_natCast, true_and, and_true, eq_self, reduceCtorEq, decide_true, List.length_singleton, er_int, er_bool, er_str, up_zero]
      refine h3 _ _ ?_
      try clear h3 K_h3
      cases hless : lessS s o with
      | true =>
        refine T.cond rfl (fun _ => ?_) (fun h => by cases h)
        refine T.regi hm ?_
        simp only [↓reduceIte, namesOf, List.any, I.names, aopsI, astep, ev, setd, List.set, List.getD, List.getElem?_cons_zero, List.getElem?_cons_succ, List.cons_append, List.nil_append, List.length_cons, List.length_nil, List.replicate, then_normal, inBlock_normal, Option.getD_some, Bool.or_false, Bool.false_eq_true, up_zero, Nat.reduceAdd, ↓opt_def, ldc, eq_self, hb7, hc7, hm7, hks, e4, Nat.zero_add, List.take, List.drop, Nat.reduceLeDiff]
        rw [show (AV.agg [.int .u64 (s.tr : Int), .int .u64 (s.id : Int), .int .i64 s.st, .int .i64 s.en, .sl (bytesAV s.da) .none]) = s.av from rfl, hpm (fun o' h => by cases h; exact hless)]
        have o5 := o4.put (putS (putsS (l.take i)) s) ts clk
        refine h2 _ _ ?_
        try clear h2 K_h2
        refine T.regi hm ?_
        simp only [↓reduceIte, namesOf, List.any, I.names, aopsI, astep, ev, setd, List.set, List.getD, List.getElem?_cons_zero, List.getElem?_cons_succ, List.cons_append, List.nil_append, List.replicate, then_normal, Option.getD_some, Bool.or_false, Bool.false_eq_true, up_zero, binv, ↓opt_def, eq_self, hw]
        refine ⟨hil, _, _, Gh.keep [3, 12, 13, 14], ⟨?_, rfl⟩⟩
        rw [hta, putsS_snoc]
        exact o5
      | false =>
        refine T.cond rfl (fun h => by cases h) (fun _ => T.skip ?_)
        refine h2 _ _ ?_
        try clear h2 K_h2
        refine T.regi hm ?_
        simp only [↓reduceIte, namesOf, List.any, I.names, aopsI, astep, ev, setd, List.set, List.getD, List.getElem?_cons_zero, List.getElem?_cons_succ, List.cons_append, List.nil_append, List.replicate, then_normal, Option.getD_some, Bool.or_false, Bool.false_eq_true, up_zero, binv, ↓opt_def, eq_self, hw]
        refine ⟨hil, _, _, Gh.keep [3, 12, 13, 14], ⟨?_, rfl⟩⟩
        rw [hta, putsS_snoc, putS_same s _ o hf hless]
        exact o4
  · refine T.exit ?_
    have : i = l.length := by simp at hb; omega
    subst this
    rw [List.take_length] at o1
    try simp only [List.cons_append, List.nil_append, List.replicate, then_normal, inBlock_exit, then_exit]
    refine h1 _ _ ?_
    try clear h1 K_h1
    refine T.seq_k (fun K_h1 h1 => ?_)
    obtain ⟨ts, clk, hmp⟩ := o1.map
    refine T.regi hm ?_
    simp only [↓reduceIte, namesOf, List.any, I.names, aopsI, astep, ev, setd, List.set, List.getD, List.getElem?_cons_zero, List.getElem?_cons_succ, then_normal, Option.getD_some, Bool.or_false, Bool.false_eq_true, up_zero, List.map_cons, List.map_nil]
    refine values_ok.mono ?_
    rintro v σ2 ⟨bx, hx1, hx2, rfl, hbx, hL⟩
    try simp only [↓reduceIte, namesOf, List.any, I.names, aops, aopsI, aopsT, qstep, CPt, qget, Tbl.get, astep, ev, setd, List.set, List.getD, List.getElem?_cons_zero, List.getElem?_cons_succ, List.getElem?_nil, List.cons_append, List.nil_append, List.length_cons, List.length_nil, List.replicate, then_normal, inBlock_normal, Option.getD_some, Option.getD_none, Bool.or_false, Bool.or_true, Bool.true_or, Bool.false_or, Bool.false_eq_true, if_false, if_true, up_zero, Nat.reduceAdd, Nat.reduceSub, binv, ↓opt_def, AV.isAny, AV.cells, ldc, List.map_cons, List.map_nil, St.set_next, St.set_same, St.up_next, Int.natCast_nonneg, lt_len, le_len, Int.toNat_natCast, true_and, and_true, eq_self, reduceCtorEq, decide_true, List.length_singleton, er_int, er_bool, er_str, up_zero]
    have hlp : (putsS l).length ≤ 1000000 := Nat.le_trans (putsS_len l) hll
    refine (sortedfs_ok (l := putsS l) hbx (hL.get o1.m1 hmp) (metS_vals _) hlp).mono ?_
    rintro v σ3 ⟨l', hp, hs, hn⟩
    try simp only [↓reduceIte, namesOf, List.any, I.names, aops, aopsI, aopsT, qstep, CPt, qget, Tbl.get, astep, ev, setd, List.set, List.getD, List.getElem?_cons_zero, List.getElem?_cons_succ, List.getElem?_nil, List.cons_append, List.nil_append, List.length_cons, List.length_nil, List.replicate, then_normal, inBlock_normal, Option.getD_some, Option.getD_none, Bool.or_false, Bool.or_true, Bool.true_or, Bool.false_or, Bool.false_eq_true, if_false, if_true, up_zero, Nat.reduceAdd, Nat.reduceSub, binv, ↓opt_def, AV.isAny, AV.cells, ldc, List.map_cons, List.map_nil, St.set_next, St.set_same, St.up_next, Int.natCast_nonneg, lt_len, le_len, Int.toNat_natCast, true_and, and_true, eq_self, reduceCtorEq, decide_true, List.length_singleton, er_int, er_bool, er_str, up_zero]
    have hL2 : Like σ σ2 := ⟨Nat.le_trans o1.next hL.next, fun n hn => (hL.same n (Nat.lt_of_lt_of_le hn o1.next)).trans (o1.old n hn)⟩
    clear hL o1 hmp hbx
    refine h1 _ _ ?_
    try clear h1 K_h1
    refine T.seq_k (fun K_h1 h1 => ?_)
    rcases hn with ⟨hl0, rfl, rfl⟩ | ⟨rfl, rfl⟩
    · refine T.seq_k (fun K_h2 h2 => ?_)
      refine T.regi hm ?_
      simp only [↓reduceIte, namesOf, List.any, I.names, aopsI, astep, ev, setd, List.set, List.getD, List.getElem?_cons_zero, List.getElem?_cons_succ, List.length_nil, then_normal, Option.getD_some, Bool.or_false, Bool.false_eq_true, up_zero]
      refine h2 _ _ ?_
      try clear h2 K_h2
      refine T.block ?_
      refine T.gh (Gh.keep [9, 44, 45]) ?_
      refine T.loopi (fun i ρ t => t = σ3 ∧ ρ = List.replicate 9 .any ++ [.sl [] .nil] ++ List.replicate 34 .any ++ [.int .i64 0, .int .i64 0] ++ List.replicate 14 .any) 0 0 (Nat.zero_le _) ⟨rfl, rfl⟩ ?_
      rintro i ρ t hi ⟨rfl, rfl⟩
      refine T.seq_k (fun K_h2 h2 => ?_)
      refine T.regi hm ?_
      simp only [↓reduceIte, namesOf, List.any, I.names, aopsI, astep, ev, setd, List.set, List.getD, List.getElem?_cons_zero, List.getElem?_cons_succ, List.cons_append, List.nil_append, List.replicate, then_normal, Option.getD_some, Bool.or_false, Bool.false_eq_true, up_zero, binv, ↓opt_def, eq_self]
      refine h2 _ _ ?_
      try clear h2 K_h2
      refine T.seq_k (fun K_h2 h2 => ?_)
      refine T.cond rfl (fun h => by cases h) (fun _ => T.exit ?_)
      try simp only [List.cons_append, List.nil_append, List.replicate, then_normal, inBlock_exit, then_exit]
      refine h1 _ _ ?_
      try clear h1 K_h1
      refine T.seq_k (fun K_h1 h1 => ?_)
      refine T.regi hm ?_
      simp only [↓reduceIte, namesOf, List.any, I.names, aopsI, astep, ev, setd, List.set, List.getD, List.getElem?_cons_zero, List.getElem?_cons_succ, then_normal, Option.getD_some, Bool.or_false, Bool.false_eq_true, up_zero]
      refine h1 _ _ ?_
      try clear h1 K_h1
      exact T.ret (Fin.ret rfl ⟨l', hp, hs, .inl ⟨hl0, rfl⟩, hL2⟩)
    · refine T.seq_k (fun K_h2 h2 => ?_)
      have hr0 : ((σ2.up 1).set σ2.next (.obj (l'.flatMap cells5))).res σ2.next = some (.obj (l'.flatMap cells5)) := by simp
      have hn0 : σ2.next < ((σ2.up 1).set σ2.next (.obj (l'.flatMap cells5))).next := by simp
      have hnl : σ.next ≤ σ2.next := hL2.next
      have hL3 : Like σ ((σ2.up 1).set σ2.next (.obj (l'.flatMap cells5))) := ⟨by simp; omega, fun n hn => by rw [St.set_other _ _ (by omega)]; exact hL2.same n hn⟩
      generalize ((σ2.up 1).set σ2.next (.obj (l'.flatMap cells5))) = σ3 at hr0 hn0 hL3 ⊢
      generalize σ2.next = nm at hr0 hn0 hnl ⊢
      clear hL2
      have hlen' : l'.length ≤ 1000000 := by rw [hp.length_eq]; exact hlp
      refine T.regi hm ?_
      simp only [↓reduceIte, namesOf, List.any, I.names, aopsI, astep, ev, setd, List.set, List.getD, List.getElem?_cons_zero, List.getElem?_cons_succ, then_normal, Option.getD_some, Bool.or_false, Bool.false_eq_true, up_zero]
      refine h2 _ _ ?_
      try clear h2 K_h2
      refine T.block ?_
      refine T.gh (Gh.keep [9, 44, 45]) ?_
      refine T.loopi (fun i ρ t => (Like σ t ∧ nm < t.next ∧ t.res nm = some (.obj (l'.flatMap cells5))) ∧ ρ = List.replicate 9 .any ++ [.ref nm 0 l'.length] ++ List.replicate 34 .any ++ [.int .i64 (l'.length : Int), .int .i64 (i : Int)] ++ List.replicate 14 .any) l'.length 0 (Nat.zero_le _) ⟨⟨hL3, hn0, hr0⟩, rfl⟩ ?_
      clear hL3 hr0 hn0 σ3
      rintro i ρ t hi ⟨⟨hL, htn, hr⟩, rfl⟩
      refine T.seq_k (fun K_h2 h2 => ?_)
      refine T.regi hm ?_
      simp only [↓reduceIte, namesOf, List.any, I.names, aopsI, astep, ev, setd, List.set, List.getD, List.getElem?_cons_zero, List.getElem?_cons_succ, List.cons_append, List.nil_append, List.replicate, then_normal, Option.getD_some, Bool.or_false, Bool.false_eq_true, up_zero, binv, ↓opt_def, lt_len, eq_self]
      refine h2 _ _ ?_
      try clear h2 K_h2
      refine T.seq_k (fun K_h2 h2 => ?_)
      refine T.cond rfl (fun hb => ?_) (fun hb => ?_)
      · refine T.skip ?_
        refine h2 _ _ ?_
        try clear h2 K_h2
        have hil : i < l'.length := by simpa using hb
        have hg := flat5_get l' i hil
        have hgl := flat5_len l'
        have hw := inc64' hil (by omega)
        refine T.seq_k (fun K_h2 h2 => ?_)
        refine T.block ?_
        refine T.seq_k (fun K_h3 h3 => ?_)
        refine T.regi hm ?_
        simp only [↓reduceIte, namesOf, List.any, I.names, aopsI, astep, ev, setd, List.set, List.getD, List.getElem?_cons_zero, List.getElem?_cons_succ, List.cons_append, List.nil_append, List.replicate, then_normal, Option.getD_some, Bool.or_false, Bool.false_eq_true, up_zero]
        refine h3 _ _ ?_
        try clear h3 K_h3
        refine T.regi hm ?_
        simp only [↓reduceIte, namesOf, List.any, I.names, aopsI, astep, ev, setd, List.set, List.getD, List.getElem?_cons_zero, List.getElem?_cons_succ, List.cons_append, List.nil_append, List.replicate, then_normal, inBlock_normal, Option.getD_some, Bool.or_false, Bool.false_eq_true, up_zero, ↓opt_def, AV.cells, ldc, List.map_cons, List.map_nil, Int.natCast_nonneg, lt_len, Int.toNat_natCast, true_and, and_true, decide_true, hr, hil, hg, Nat.zero_add]
        have hds : l'[i].da.length ≤ 1099511627776 := hda _ (mem_putsS (hp.mem_iff.1 (List.getElem_mem hil)))
        have hsp := splice_same hg
        unfold splice at hsp
        rw [List.length_singleton] at hsp
        refine (clone_q hds (.inl ⟨_, rfl, fun h => by cases h⟩)).mono ?_
        rintro v τ ⟨rfl, rfl⟩
        try simp only [List.length_cons, List.length_nil, AV.isAny, AV.cells, hr, AV.fits, AV.one, List.all_cons, List.all_nil, Nat.reduceBEq, Bool.not_false, Bool.and_self, Nat.zero_add, splice]
        rw [if_pos (by rw [hgl]; simp; omega), hsp, St.set_self hr]
        refine h2 _ _ ?_
        try clear h2 K_h2
        refine T.regi hm ?_
        simp only [↓reduceIte, namesOf, List.any, I.names, aopsI, astep, ev, setd, List.set, List.getD, List.getElem?_cons_zero, List.getElem?_cons_succ, List.cons_append, List.nil_append, List.replicate, then_normal, Option.getD_some, Bool.or_false, Bool.false_eq_true, up_zero, binv, ↓opt_def, eq_self, hw]
        exact ⟨hil, _, _, Gh.keep [9, 44, 45], ⟨hL, htn, hr⟩, rfl⟩
      · refine T.exit ?_
        have : i = l'.length := by simp at hb; omega
        try simp only [List.cons_append, List.nil_append, List.replicate, then_normal, inBlock_exit, then_exit]
        refine h1 _ _ ?_
        try clear h1 K_h1
        refine T.seq_k (fun K_h1 h1 => ?_)
        refine T.regi hm ?_
        simp only [↓reduceIte, namesOf, List.any, I.names, aopsI, astep, ev, setd, List.set, List.getD, List.getElem?_cons_zero, List.getElem?_cons_succ, then_normal, Option.getD_some, Bool.or_false, Bool.false_eq_true, up_zero]
        refine h1 _ _ ?_
        try clear h1 K_h1
        exact T.ret (Fin.ret rfl ⟨l', hp, hs, .inr ⟨nm, hnl, htn, rfl, hr⟩, hL⟩)

theorem sps_flat5 (l : List Sp) : (spsAV l).flatMap AV.cells = l.flatMap cells5 := by
  induction l with
  | nil => rfl
  | cons s l ih => simp only [spsAV, List.map_cons, List.flatMap_cons] at ih ⊢; rw [ih]; rfl

theorem nb_sps (m : Nat) (l : List Sp) : nbs m (spsAV l) := by
  rw [nbs_iff]
  intro x hx
  obtain ⟨s, _, rfl⟩ := List.mem_map.1 hx
  exact ⟨trivial, trivial, trivial, trivial, ⟨nb_bytes _ _, trivial⟩, trivial⟩

/-- what is gathered, given away -/
theorem tgather_q {l : List Sp} {g : Ver} {σ : St} (hll : l.length ≤ 1000000) (hda : ∀ s ∈ l, s.da.length ≤ 1099511627776) : ACalls Try.prog n_tgather [.sl (spsAV l) g] σ
    (fun v σ' => ∃ l' : List Sp, l'.Perm (putsS l) ∧ l'.Pairwise (fun a b => aheadS b a = false) ∧ v = .sl (spsAV l') .none ∧ σ' = σ) := by
  refine (tgather_ok hll hda).gv ?_
  rintro wf v σ' ⟨l', hp, hs, (⟨rfl, rfl⟩ | ⟨nm, h1, h2, rfl, h3⟩), hL⟩
  · exact ⟨_, _, (Gv.wk (.sl _ _)).trans (Gv.quiet ⟨trivial, trivial⟩ (hL.quiet wf)), [], hp, hs, rfl, rfl⟩
  · refine ⟨_, _, (Gv.freeze (k := 5) h3 (xs := spsAV l') (sps_len l') (fun x hx => ?_) ?_).trans (Gv.quiet ⟨nb_sps _ _, trivial⟩ (fun m x hm => ?_)), l', hp, hs, rfl, rfl⟩
    · obtain ⟨y, _, rfl⟩ := List.mem_map.1 hx; rfl
    · rw [sps_flat5, List.drop_zero, List.take_of_length_le (by rw [flat5_len]; exact Nat.le_refl _)]
    · have hmn : m ≠ nm := by
        rintro rfl
        rw [wf m h1] at hm; cases hm
      simp only [St.del]
      rw [if_neg hmn]; exact hL.quiet wf m x hm

end Go.VL

namespace Go.VL

theorem sameK_iff {a b : Sp} : sameK a b = true ↔ a.tr = b.tr ∧ a.id = b.id := by simp [sameK]

theorem sameK_symm {a b : Sp} (h : sameK a b = true) : sameK b a = true := by
  rw [sameK_iff] at *; exact ⟨h.1.symm, h.2.symm⟩

theorem sameK_trans {a b c : Sp} (h : sameK a b = true) (k : sameK b c = true) : sameK a c = true := by
  rw [sameK_iff] at *; exact ⟨h.1.trans k.1, h.2.trans k.2⟩

theorem sameK_refl (a : Sp) : sameK a a = true := by rw [sameK_iff]; exact ⟨rfl, rfl⟩

theorem ahead_tot {a b : Sp} (h : sameK a b = false) : aheadS a b = true ∨ aheadS b a = true := by
  unfold aheadS
  by_cases h1 : a.st = b.st
  · by_cases h2 : a.id = b.id
    · have h3 : a.tr ≠ b.tr := fun e => by
        have := sameK_iff.2 ⟨e, h2⟩
        rw [h] at this; cases this
      simp only [h1, h2, ne_eq, not_true_eq_false, if_false, decide_eq_true_eq]; omega
    · have h3 : b.id ≠ a.id := fun e => h2 e.symm
      simp only [h1, h2, h3, ne_eq, not_true_eq_false, not_false_eq_true, if_false, if_true, decide_eq_true_eq]; omega
  · have h3 : b.st ≠ a.st := fun e => h1 e.symm
    simp only [h1, h3, ne_eq, not_false_eq_true, if_true, decide_eq_true_eq]; omega

theorem ahead_asym {a b : Sp} (h : aheadS a b = true) : aheadS b a = false := by
  cases hb : aheadS b a with
  | false => rfl
  | true => have := ahead_trans h hb; rw [ahead_irr] at this; cases this

theorem bytes_trans : ∀ {a b c : List UInt8}, Op.bytesLess a b = true → Op.bytesLess b c = true → Op.bytesLess a c = true
  | _, _, [], _, h => by simp [Op.bytesLess] at h
  | _, [], _ :: _, h, _ => by simp [Op.bytesLess] at h
  | [], _ :: _, _ :: _, _, _ => by simp [Op.bytesLess]
  | x :: a, y :: b, z :: c, h, k => by
    simp only [Op.bytesLess, Bool.or_eq_true, Bool.and_eq_true, decide_eq_true_eq, beq_iff_eq] at h k ⊢
    rcases h with h | ⟨rfl, h⟩
    · rcases k with k | ⟨rfl, k⟩
      · exact .inl (UInt8.lt_trans h k)
      · exact .inl h
    · rcases k with k | ⟨rfl, k⟩
      · exact .inl k
      · exact .inr ⟨rfl, bytes_trans h k⟩

theorem less_trans {a b c : Sp} (h : lessS a b = true) (k : lessS b c = true) : lessS a c = true := by
  unfold lessS at *
  by_cases h1 : a.st = b.st <;> by_cases h2 : b.st = c.st
  · by_cases h3 : a.en = b.en <;> by_cases h4 : b.en = c.en
    · simp only [h1, h2, h3, h4, ne_eq, not_true_eq_false, if_false] at h k ⊢; exact bytes_trans h k
    · simp only [h1, h2, h3, h4, ne_eq, not_true_eq_false, not_false_eq_true, if_false, if_true, decide_eq_true_eq] at h k ⊢; exact k
    · simp only [h1, h2, ← h4, h3, ne_eq, not_true_eq_false, not_false_eq_true, if_false, if_true, decide_eq_true_eq] at h k ⊢; exact h
    · have h5 : a.en ≠ c.en := by
        simp only [h1, h2, h3, h4, ne_eq, not_true_eq_false, not_false_eq_true, if_false, if_true, decide_eq_true_eq] at h k; omega
      simp only [h1, h2, h3, h4, h5, ne_eq, not_true_eq_false, not_false_eq_true, if_false, if_true, decide_eq_true_eq] at h k ⊢; omega
  · simp only [h1, h2, ne_eq, not_false_eq_true, if_true, decide_eq_true_eq] at k ⊢; exact k
  · simp only [← h2, h1, ne_eq, not_false_eq_true, if_true, decide_eq_true_eq] at h ⊢; exact h
  · have h3 : a.st ≠ c.st := by
      simp only [h1, h2, ne_eq, not_false_eq_true, if_true, decide_eq_true_eq] at h k; omega
    simp only [h1, h2, h3, ne_eq, not_false_eq_true, if_true, decide_eq_true_eq] at h k ⊢; omega

/-- the least of all of its Trace and Id -/
def minS (l : List Sp) (x : Sp) : Prop := x ∈ l ∧ ∀ y ∈ l, sameK y x = true → lessS y x = false

/-! ### What the map holds -/

theorem putS_keys {s : Sp} : ∀ {vs : List Sp}, vs.Pairwise (fun a b => sameK a b = false) → (putS vs s).Pairwise (fun a b => sameK a b = false)
  | [], _ => by simp [putS]
  | x :: r, h => by
    obtain ⟨h1, h2⟩ := List.pairwise_cons.1 h
    simp only [putS]
    split
    · rename_i hs
      split
      · refine List.pairwise_cons.2 ⟨fun b hb => ?_, h2⟩
        cases hc : sameK s b with
        | false => rfl
        | true => have := sameK_trans (sameK_symm hs) hc; rw [h1 b hb] at this; cases this
      · exact h
    · rename_i hs
      refine List.pairwise_cons.2 ⟨fun b hb => ?_, putS_keys h2⟩
      rcases mem_putS hb with rfl | hb
      · cases hc : sameK x b with
        | false => rfl
        | true => exact absurd (sameK_symm hc) hs
      · exact h1 b hb

/-- what was there, or something lesser, is there still -/
theorem putS_keep {s : Sp} : ∀ {vs : List Sp} {x : Sp}, x ∈ vs → x ∈ putS vs s ∨ (sameK s x = true ∧ lessS s x = true ∧ s ∈ putS vs s)
  | y :: r, x, h => by
    simp only [putS]
    rcases List.mem_cons.1 h with rfl | h
    · split
      · rename_i hs
        split
        · rename_i hl; exact .inr ⟨hs, hl, by simp⟩
        · exact .inl (by simp)
      · exact .inl (by simp)
    · split
      · split
        · exact .inl (List.mem_cons_of_mem _ h)
        · exact .inl (List.mem_cons_of_mem _ h)
      · rcases putS_keep (s := s) h with h | ⟨h1, h2, h3⟩
        · exact .inl (List.mem_cons_of_mem _ h)
        · exact .inr ⟨h1, h2, List.mem_cons_of_mem _ h3⟩

/-- one of its Trace and Id is there, and it is not lesser -/
theorem putS_new (s : Sp) : ∀ (vs : List Sp), ∃ x ∈ putS vs s, sameK s x = true ∧ lessS s x = false
  | [] => ⟨s, by simp [putS], sameK_refl s, less_irr s⟩
  | y :: r => by
    simp only [putS]
    split
    · rename_i hs
      split
      · exact ⟨s, by simp, sameK_refl s, less_irr s⟩
      · rename_i hl; exact ⟨y, by simp, hs, by simpa using hl⟩
    · obtain ⟨x, h1, h2, h3⟩ := putS_new s r
      exact ⟨x, List.mem_cons_of_mem _ h1, h2, h3⟩

structure Held (l vs : List Sp) : Prop where
  keys : vs.Pairwise (fun a b => sameK a b = false)
  sub : ∀ x ∈ vs, x ∈ l
  low : ∀ y ∈ l, ∃ x ∈ vs, sameK y x = true ∧ lessS y x = false

theorem Held.uniq {l vs : List Sp} (h : Held l vs) {x y : Sp} (hx : x ∈ vs) (hy : y ∈ vs) (hk : sameK x y = true) : x = y := by
  obtain ⟨i, hi, rfl⟩ := List.getElem_of_mem hx
  obtain ⟨j, hj, rfl⟩ := List.getElem_of_mem hy
  rcases Nat.lt_trichotomy i j with hij | rfl | hij
  · have := List.pairwise_iff_getElem.1 h.keys i j hi hj hij; rw [hk] at this; cases this
  · rfl
  · have := List.pairwise_iff_getElem.1 h.keys j i hj hi hij; rw [sameK_symm hk] at this; cases this

theorem held_puts (l : List Sp) : Held l (putsS l) := by
  have key : ∀ (r l vs : List Sp), Held l vs → Held (l ++ r) (r.foldl putS vs) := by
    intro r
    induction r with
    | nil => intro l vs h; simpa using h
    | cons s r ih =>
      intro l vs h
      have := ih (l ++ [s]) (putS vs s) ⟨putS_keys h.keys, fun x hx => ?_, fun y hy => ?_⟩
      · simpa using this
      · rcases mem_putS hx with rfl | hx
        · simp
        · exact List.mem_append_left _ (h.sub x hx)
      · rcases List.mem_append.1 hy with hy | hy
        · obtain ⟨x, hx, hk, hl⟩ := h.low y hy
          rcases putS_keep (s := s) hx with hx' | ⟨h1, h2, h3⟩
          · exact ⟨x, hx', hk, hl⟩
          · refine ⟨s, h3, sameK_trans hk (sameK_symm h1), ?_⟩
            cases hc : lessS y s with
            | false => rfl
            | true => have := less_trans hc h2; rw [hl] at this; cases this
        · simp only [List.mem_singleton] at hy
          subst hy
          exact putS_new y vs
  have := key l [] [] ⟨.nil, (fun x hx => by cases hx), (fun y hy => by cases hy)⟩
  simpa [putsS] using this

theorem Held.mem {l vs : List Sp} (h : Held l vs) (x : Sp) : x ∈ vs ↔ minS l x := by
  constructor
  · intro hx
    refine ⟨h.sub x hx, fun y hy hk => ?_⟩
    obtain ⟨z, hz, hk2, hl⟩ := h.low y hy
    have : z = x := h.uniq hz hx (sameK_trans (sameK_symm hk2) hk)
    rw [← this]; exact hl
  · rintro ⟨hx, hmin⟩
    obtain ⟨z, hz, hk, hl⟩ := h.low x hx
    have h2 := hmin z (h.sub z hz) (sameK_symm hk)
    have hk' := sameK_iff.1 hk
    have : x = z := less_total hk'.1 hk'.2 hl h2
    rw [this]; exact hz

theorem Held.nodup {l vs : List Sp} (h : Held l vs) : vs.Nodup := h.keys.imp fun {a b} hab e => by
  subst e; rw [sameK_refl] at hab; cases hab

/-! ### What the document gathers -/

theorem counts_iff {l : List Sp} {i : Nat} (hi : i < l.length) : countsB l i = true ↔ ∀ k (hk : k < l.length), sameK l[k] l[i] = true → lessS l[k] l[i] = false ∧ ¬ (l[k] = l[i] ∧ k < i) := by
  have e : l[i]? = some l[i] := by simp [hi]
  unfold countsB
  rw [e]
  simp only [List.all_eq_true, List.mem_range, Bool.not_eq_true']
  constructor
  · intro h k hk hs
    have := h k hk
    unfold outAt at this
    have ek : l[k]? = some l[k] := by simp [hk]
    rw [ek] at this
    obtain ⟨s1, s2⟩ := sameK_iff.1 hs
    simp only [s1, s2, decide_true, Bool.true_and, Bool.or_eq_false_iff, Bool.and_eq_false_iff, decide_eq_false_iff_not] at this
    refine ⟨this.1, fun hx => ?_⟩
    rcases this.2 with h | h
    · exact h hx.1
    · exact h hx.2
  · intro h k hk
    unfold outAt
    have ek : l[k]? = some l[k] := by simp [hk]
    rw [ek]
    cases hs : sameK l[k] l[i] with
    | false =>
      unfold sameK at hs
      simp only [hs, Bool.false_and]
    | true =>
      obtain ⟨h1, h2⟩ := h k hk hs
      simp only [h1, Bool.false_or, Bool.and_eq_false_iff, decide_eq_false_iff_not]
      by_cases hx : l[k] = l[i]
      · exact .inr (.inr fun hlt => h2 ⟨hx, hlt⟩)
      · exact .inr (.inl hx)

theorem gatherN_iff (l : List Sp) : ∀ n, n ≤ l.length → ∀ y, y ∈ gatherN l n ↔ ∃ j, ∃ h : j < l.length, j < n ∧ l[j] = y ∧ countsB l j = true
  | 0, _, y => by simp [gatherN]
  | n + 1, hn, y => by
    have hnl : n < l.length := by omega
    have e : l[n]? = some l[n] := by simp [hnl]
    have ih := gatherN_iff l n (by omega) y
    unfold gatherN
    rw [e]
    simp only
    cases hc : countsB l n with
    | true =>
      rw [if_pos rfl, ins_mem, ih]
      constructor
      · rintro (rfl | ⟨j, h1, h2, h3, h4⟩)
        · exact ⟨n, hnl, by omega, rfl, hc⟩
        · exact ⟨j, h1, by omega, h3, h4⟩
      · rintro ⟨j, h1, h2, h3, h4⟩
        by_cases hj : j = n
        · subst hj; exact .inl h3.symm
        · exact .inr ⟨j, h1, by omega, h3, h4⟩
    | false =>
      rw [if_neg (by simp), ih]
      constructor
      · rintro ⟨j, h1, h2, h3, h4⟩; exact ⟨j, h1, by omega, h3, h4⟩
      · rintro ⟨j, h1, h2, h3, h4⟩
        by_cases hj : j = n
        · subst hj; rw [hc] at h4; cases h4
        · exact ⟨j, h1, by omega, h3, h4⟩

theorem ins_sorted2 {out : List Sp} {x : Sp} (hs : SortedS out) (hd : ∀ y ∈ out, sameK x y = false) : SortedS (insS out x) := by
  have hle := lastAt_le out x out.length
  unfold insS
  have htake : ∀ y ∈ out.take (lastAt out x out.length), aheadS y x = true := by
    intro y hy
    rcases Nat.eq_zero_or_pos (lastAt out x out.length) with h0 | hpos
    · rw [h0] at hy; simp at hy
    · obtain ⟨j, hj, e, ha⟩ := lastAt_is out x out.length (Nat.le_refl _) hpos
      rw [e] at hy
      obtain ⟨m, hm⟩ := List.getElem?_of_mem hy
      rw [List.getElem?_take] at hm
      split at hm
      · rename_i hmj
        have hml : m < out.length := by omega
        have hy' : out[m] = y := by simpa [hml] using hm
        by_cases hx : m = j
        · subst hx; rw [← hy']; exact ha
        · rw [← hy']; exact ahead_trans (List.pairwise_iff_getElem.1 hs m j hml hj (by omega)) ha
      · cases hm
  have hdrop : ∀ y ∈ out.drop (lastAt out x out.length), aheadS x y = true := by
    intro y hy
    obtain ⟨m, hm⟩ := List.getElem?_of_mem hy
    rw [List.getElem?_drop] at hm
    have hml : lastAt out x out.length + m < out.length := (List.getElem?_eq_some_iff.1 hm).1
    have hy' : out[lastAt out x out.length + m] = y := (List.getElem?_eq_some_iff.1 hm).2
    have hno := lastAt_no out x out.length _ hml (by omega) hml
    rw [hy'] at hno
    rcases ahead_tot (hd y (List.mem_of_mem_drop hy)) with h | h
    · exact h
    · rw [hno] at h; cases h
  rw [List.append_assoc]
  refine List.pairwise_append.2 ⟨hs.sublist (List.take_sublist _ _), ?_, fun a ha b hb => ?_⟩
  · exact List.pairwise_append.2 ⟨List.pairwise_singleton _ _, hs.sublist (List.drop_sublist _ _), fun a ha b hb => by simp only [List.mem_singleton] at ha; subst ha; exact hdrop b hb⟩
  · rcases List.mem_append.1 hb with hb | hb
    · simp only [List.mem_singleton] at hb; subst hb; exact htake a ha
    · have hsp : SortedS (out.take (lastAt out x out.length) ++ out.drop (lastAt out x out.length)) := by rw [List.take_append_drop]; exact hs
      exact (List.pairwise_append.1 hsp).2.2 a ha b hb

theorem gatherN_sorted (l : List Sp) : ∀ n, n ≤ l.length → SortedS (gatherN l n)
  | 0, _ => .nil
  | n + 1, hn => by
    have hnl : n < l.length := by omega
    have e : l[n]? = some l[n] := by simp [hnl]
    have ih := gatherN_sorted l n (by omega)
    unfold gatherN
    rw [e]
    simp only
    split
    · rename_i hc
      refine ins_sorted2 ih (fun y hy => ?_)
      obtain ⟨j, hj, hjn, rfl, hcj⟩ := (gatherN_iff l n (by omega) y).1 hy
      cases hs : sameK l[n] l[j] with
      | false => rfl
      | true =>
        obtain ⟨a1, a2⟩ := (counts_iff hnl).1 hc j hj (sameK_symm hs)
        obtain ⟨b1, _⟩ := (counts_iff hj).1 hcj n hnl hs
        obtain ⟨k1, k2⟩ := sameK_iff.1 hs
        have := less_total k1 k2 b1 a1
        exact absurd ⟨this.symm, hjn⟩ a2
    · exact ih

theorem gather_mem (l : List Sp) (x : Sp) : x ∈ gatherL l ↔ minS l x := by
  unfold gatherL
  rw [gatherN_iff l l.length (Nat.le_refl _)]
  constructor
  · rintro ⟨j, hj, _, rfl, hc⟩
    refine ⟨List.getElem_mem hj, fun y hy hk => ?_⟩
    obtain ⟨k, hk2, rfl⟩ := List.getElem_of_mem hy
    exact ((counts_iff hj).1 hc k hk2 hk).1
  · rintro ⟨hx, hmin⟩
    have hidx : l.idxOf x < l.length := List.idxOf_lt_length_of_mem hx
    refine ⟨l.idxOf x, hidx, hidx, List.getElem_idxOf hidx, (counts_iff hidx).2 fun k hk hs => ?_⟩
    rw [List.getElem_idxOf hidx] at hs ⊢
    refine ⟨hmin _ (List.getElem_mem hk) hs, ?_⟩
    rintro ⟨he, hlt⟩
    have := List.not_of_lt_findIdx (p := (· == x)) (xs := l) hlt
    simp [he] at this

theorem gather_sorted (l : List Sp) : SortedS (gatherL l) := gatherN_sorted l _ (Nat.le_refl _)

theorem sorted_nodup {l : List Sp} (h : SortedS l) : l.Nodup := h.imp fun {a b} hab e => by
  subst e; rw [ahead_irr] at hab; cases hab

/-- IN ORDER, WHAT THE MAP HELD IS WHAT THE DOCUMENT GATHERS -/
theorem gathered_is {l l' : List Sp} (hp : l'.Perm (putsS l)) (hs : l'.Pairwise (fun a b => aheadS b a = false)) : l' = gatherL l := by
  have hh := held_puts l
  have hpg : l'.Perm (gatherL l) := by
    refine hp.trans ((List.perm_ext_iff_of_nodup hh.nodup (sorted_nodup (gather_sorted l))).2 fun x => ?_)
    rw [hh.mem, gather_mem]
  refine List.Perm.eq_of_pairwise (le := fun a b => aheadS b a = false) (fun a b ha hb h1 h2 => ?_) hs ((gather_sorted l).imp fun h => ahead_asym h) hpg
  have ha' : a ∈ putsS l := hp.mem_iff.1 ha
  have hb' : b ∈ putsS l := (hh.mem b).2 ((gather_mem l b).1 hb)
  cases hk : sameK a b with
  | true => exact hh.uniq ha' hb' hk
  | false =>
    rcases ahead_tot hk with h | h
    · rw [h2] at h; cases h
    · rw [h1] at h; cases h

end Go.VL

namespace Go.VL

open Go.Proofs

theorem gather_ok {l : List Sp} {g : Ver} {σ : St} (hll : l.length ≤ 1000000) (hda : ∀ s ∈ l, s.da.length ≤ 1099511627776) : ACalls Try.prog n_tgather [.sl (spsAV l) g] σ (fun v σ' => v = .sl (spsAV (gatherL l)) .none ∧ σ' = σ) := by
  refine (tgather_q hll hda).mono ?_
  rintro v σ' ⟨l', hp, hs, rfl, rfl⟩
  rw [gathered_is hp hs]
  exact ⟨rfl, rfl⟩

def rwsAV (l : List (List Sp)) : List AV := l.map fun p => .sl (spsAV p) .none

theorem rws_len (l : List (List Sp)) : (rwsAV l).length = l.length := by simp [rwsAV]

theorem rws_get {l : List (List Sp)} {i : Nat} (h : i < l.length) : (rwsAV l)[i]? = some (.sl (spsAV l[i]) .none) := by simp [rwsAV, h]

theorem sps_fits5 (l : List Sp) : (spsAV l).all (AV.fits 5) = true := by
  simp [spsAV, Sp.av, AV.fits, AV.isAny, AV.cells, AV.one]

theorem sps_er5 (l : List Sp) : (spsAV l).map AV.er = spsAV l := by
  simp only [spsAV, List.map_map]
  apply List.map_congr_left
  intro t _
  rfl

theorem sps_app5 (a b : List Sp) : spsAV a ++ spsAV b = spsAV (a ++ b) := by simp [spsAV]

theorem grows_ok {n : Nat} {σ : St} (hn : n ≤ 1000000000) : ACalls Try.prog n_grows [.sl [] .nil, .int .i64 (n : Int)] σ (fun v σ' => (n = 0 ∧ v = .sl [] .nil ∧ σ' = σ) ∨ ∃ g, OneTip σ σ' g 5 ∧ v = .sl [] (.tip g)) := by
  refine s_grows (fun wf => ?_)
  unfold c_grows
  refine T.seq_k (fun K_h1 h1 => ?_)
  refine T.regi hm ?_
  simp only [↓reduceIte, namesOf, List.any, I.names, aopsI, astep, ev, setd, List.set, List.cons_append, List.nil_append, List.length_cons, List.length_nil, List.replicate, then_normal, Bool.or_false, Bool.false_eq_true, up_zero, Nat.reduceAdd, Nat.reduceSub]
  refine h1 _ _ ?_
  try clear h1 K_h1
  refine T.seq_k (fun K_h1 h1 => ?_)
  refine T.seq_k (fun K_h2 h2 => ?_)
  have e0 : decide ((n : Int) < 0) = false := decide_eq_false (by omega)
  refine T.regi hm ?_
  simp only [↓reduceIte, namesOf, List.any, I.names, aopsI, astep, ev, setd, List.set, List.getD, List.getElem?_cons_zero, List.getElem?_cons_succ, then_normal, Option.getD_some, Bool.or_false, Bool.false_eq_true, up_zero, binv, ↓opt_def, eq_self, e0]
  refine h2 _ _ ?_
  try clear h2 K_h2
  refine T.cond rfl (fun h => by cases h) (fun _ => T.skip ?_)
  refine h1 _ _ ?_
  try clear h1 K_h1
  refine T.seq_k (fun K_h1 h1 => ?_)
  refine T.seq_k (fun K_h2 h2 => ?_)
  have e1 : IntKind.i64.wrap ((0 : Int) - ((0 : Nat) : Int)) = 0 := by decide
  have e2 : IntKind.i64.wrap ((n : Int) - 0) = (n : Int) := by rw [wrap64 (by omega) (by omega)]; omega
  refine T.regi hm ?_
  simp only [↓reduceIte, namesOf, List.any, I.names, aopsI, astep, ev, setd, List.set, List.getD, List.getElem?_cons_zero, List.getElem?_cons_succ, List.length_nil, then_normal, Option.getD_some, Bool.or_false, Bool.false_eq_true, up_zero, binv, ↓opt_def, eq_self, e1, e2]
  refine h2 _ _ ?_
  try clear h2 K_h2
  refine T.seq_k (fun K_h2 h2 => ?_)
  by_cases hz : n = 0
  · subst hz
    have e3 : decide (((0 : Nat) : Int) > 0) = false := rfl
    refine T.regi hm ?_
    simp only [↓reduceIte, namesOf, List.any, I.names, aopsI, astep, ev, setd, List.set, List.getD, List.getElem?_cons_zero, List.getElem?_cons_succ, then_normal, Option.getD_some, Bool.or_false, Bool.false_eq_true, up_zero, binv, ↓opt_def, true_and, eq_self, e3]
    refine h2 _ _ ?_
    try clear h2 K_h2
    refine T.cond rfl (fun h => by cases h) (fun _ => T.skip ?_)
    refine h1 _ _ ?_
    try clear h1 K_h1
    refine T.seq_k (fun K_h1 h1 => ?_)
    refine T.regi hm ?_
    simp only [↓reduceIte, namesOf, List.any, I.names, aopsI, astep, ev, setd, List.set, List.getD, List.getElem?_cons_zero, List.getElem?_cons_succ, then_normal, Option.getD_some, Bool.or_false, Bool.false_eq_true, up_zero, true_and, eq_self]
    refine h1 _ _ ?_
    try clear h1 K_h1
    exact T.ret (Fin.ret rfl (.inl ⟨rfl, rfl, rfl⟩))
  · have e3 : decide ((n : Int) > 0) = true := decide_eq_true (by omega)
    refine T.regi hm ?_
    simp only [↓reduceIte, namesOf, List.any, I.names, aopsI, astep, ev, setd, List.set, List.getD, List.getElem?_cons_zero, List.getElem?_cons_succ, then_normal, Option.getD_some, Bool.or_false, Bool.false_eq_true, up_zero, binv, ↓opt_def, eq_self, e3]
    refine h2 _ _ ?_
    try clear h2 K_h2
    refine T.cond rfl (fun _ => ?_) (fun h => by cases h)
    have hp : (0 : Int) < (n : Int) := by omega
    have hb : (n : Int) * ((56 : Nat) : Int) ≤ 70368744177664 := by omega
    have hm' : (n : Int) ≤ 4611686018427387904 := by omega
    refine T.regi hm ?_
    simp only [↓reduceIte, namesOf, List.any, I.names, aopsI, astep, ev, setd, List.set, List.getD, List.getElem?_cons_zero, List.getElem?_cons_succ, List.length_cons, List.length_nil, then_normal, Option.getD_some, Bool.or_false, Bool.or_true, Nat.reduceAdd, AV.isAny, AV.cells, Int.natCast_nonneg, Int.toNat_natCast, true_and, and_true, eq_self, idx, List.all_nil, Int.le_refl, List.drop_nil, List.take_nil, Ver.noRoom, hp, hb, hm', AV.fits, AV.one, List.all_cons, Bool.not_false, Bool.and_self, beq_self_eq_true, true_or, and_self]
    refine h1 _ _ ?_
    try clear h1 K_h1
    refine T.seq_k (fun K_h1 h1 => ?_)
    refine T.regi hm ?_
    simp only [↓reduceIte, namesOf, List.any, I.names, aopsI, astep, ev, setd, List.set, List.getD, List.getElem?_cons_zero, List.getElem?_cons_succ, then_normal, Option.getD_some, Bool.or_false, Bool.false_eq_true, up_zero]
    refine h1 _ _ ?_
    try clear h1 K_h1
    exact T.ret (Fin.ret rfl (.inr ⟨_, OneTip.new (by omega), rfl⟩))

theorem flat_take1s {l : List (List Sp)} {i : Nat} (h : i < l.length) : (l.take (i + 1)).flatten = (l.take i).flatten ++ l[i] := by
  rw [List.take_succ_eq_append_getElem h, List.flatten_append]; simp

theorem flat_take_les {l : List (List Sp)} (i : Nat) : (l.take i).flatten.length ≤ l.flatten.length := by
  conv => rhs; rw [← List.take_append_drop i l]
  rw [List.flatten_append, List.length_append]; omega

set_option maxRecDepth 10000 in
theorem concats_ok {l : List (List Sp)} {g : Ver} {σ : St} (hl : l.length ≤ 1000000000) (hs : l.flatten.length ≤ 1000000000) :
    ACalls Try.prog n_concats [.sl (rwsAV l) g] σ (fun v σ' => v = .sl (spsAV l.flatten) .none ∧ σ' = σ) := by
  refine s_concats (fun wf => ?_)
  unfold c_concats
  refine T.seq_k (fun K_h1 h1 => ?_)
  refine T.regi hm ?_
  simp only [↓reduceIte, namesOf, List.any, I.names, aopsI, astep, ev, setd, List.set, List.cons_append, List.nil_append, List.length_cons, List.length_nil, List.replicate, then_normal, Bool.or_false, Bool.false_eq_true, up_zero, Nat.reduceAdd, Nat.reduceSub]
  refine h1 _ _ ?_
  try clear h1 K_h1
  refine T.seq_k (fun K_h1 h1 => ?_)
  refine T.regi hm ?_
  simp only [↓reduceIte, namesOf, List.any, I.names, aopsI, astep, ev, setd, List.set, then_normal, Bool.or_false, Bool.false_eq_true, up_zero]
  refine h1 _ _ ?_
  try clear h1 K_h1
  refine T.seq_k (fun K_h1 h1 => ?_)
  refine T.seq_k (fun K_h2 h2 => ?_)
  refine T.regi hm ?_
  simp only [↓reduceIte, namesOf, List.any, I.names, aopsI, astep, ev, setd, List.set, List.getD, List.getElem?_cons_zero, List.getElem?_cons_succ, then_normal, Option.getD_some, Bool.or_false, Bool.false_eq_true, up_zero, rws_len]
  refine h2 _ _ ?_
  try clear h2 K_h2
  refine T.block ?_
  refine T.gh (Gh.keep [0, 3, 9, 10, 11]) ?_
  refine T.loopi (fun i ρ σ' => σ' = σ ∧ ρ = [.sl (rwsAV l) g, .any, .any, .int .i64 ((l.take i).flatten.length : Int), .any, .any, .any, .any, .any, .sl (rwsAV l) g, .int .i64 (l.length : Int), .int .i64 (i : Int)] ++ List.replicate 24 .any)
    l.length 0 (Nat.zero_le _) ⟨rfl, rfl⟩ ?_
  rintro i ρ σ' hi ⟨rfl, rfl⟩
  refine T.seq_k (fun K_h2 h2 => ?_)
  refine T.regi hm ?_
  simp only [↓reduceIte, namesOf, List.any, I.names, aopsI, astep, ev, setd, List.set, List.getD, List.getElem?_cons_zero, List.getElem?_cons_succ, List.cons_append, List.nil_append, List.replicate, then_normal, Option.getD_some, Bool.or_false, Bool.false_eq_true, up_zero, binv, ↓opt_def, lt_len, eq_self]
  refine h2 _ _ ?_
  try clear h2 K_h2
  refine T.seq_k (fun K_h2 h2 => ?_)
  refine T.cond rfl (fun hb => ?_) (fun hb => ?_)
  · refine T.skip ?_
    refine h2 _ _ ?_
    try clear h2 K_h2
    have hil : i < l.length := by simpa using hb
    clear hb
    refine T.seq_k (fun K_h2 h2 => ?_)
    refine T.block ?_
    refine T.seq_k (fun K_h3 h3 => ?_)
    refine T.regi hm ?_
    simp only [↓reduceIte, namesOf, List.any, I.names, aopsI, astep, ev, setd, List.set, List.getD, List.getElem?_cons_zero, List.getElem?_cons_succ, List.cons_append, List.nil_append, List.length_cons, List.length_nil, List.replicate, then_normal, Option.getD_some, Bool.or_false, Bool.false_eq_true, up_zero, Nat.reduceAdd, ↓opt_def, AV.cells, ldc, Int.natCast_nonneg, lt_len, Int.toNat_natCast, true_and, and_true, eq_self, decide_true, rws_len, rws_get hil, hil]
    refine h3 _ _ ?_
    try clear h3 K_h3
    refine T.seq_k (fun K_h3 h3 => ?_)
    have hle := flat_take_les (l := l) (i + 1)
    have hft := flat_take1s hil
    have e1 : IntKind.i64.wrap (((l.take i).flatten.length : Int) + (l[i].length : Int)) = ((l.take (i + 1)).flatten.length : Int) := by
      rw [hft] at hle ⊢
      rw [List.length_append] at hle ⊢
      rw [wrap64 (by omega) (by omega)]; omega
    refine T.regi hm ?_
    simp only [↓reduceIte, namesOf, List.any, I.names, aopsI, astep, ev, setd, List.set, List.getD, List.getElem?_cons_zero, List.getElem?_cons_succ, List.cons_append, List.nil_append, List.replicate, then_normal, Option.getD_some, Bool.or_false, Bool.false_eq_true, up_zero, binv, ↓opt_def, eq_self, sps_len, e1]
    refine h3 _ _ ?_
    try clear h3 K_h3
    refine T.seq_k (fun K_h3 h3 => ?_)
    have e2 : decide (((l.take (i + 1)).flatten.length : Int) < 0) = false := decide_eq_false (by omega)
    refine T.regi hm ?_
    simp only [↓reduceIte, namesOf, List.any, I.names, aopsI, astep, ev, setd, List.set, List.getD, List.getElem?_cons_zero, List.getElem?_cons_succ, List.cons_append, List.nil_append, List.replicate, then_normal, Option.getD_some, Bool.or_false, Bool.false_eq_true, up_zero, binv, ↓opt_def, eq_self, e2]
    refine h3 _ _ ?_
    try clear h3 K_h3
    refine T.cond rfl (fun h => by cases h) (fun _ => T.skip ?_)
    refine h2 _ _ ?_
    try clear h2 K_h2
    have hw := inc64 hil (by omega)
    refine T.regi hm ?_
    simp only [↓reduceIte, namesOf, List.any, I.names, aopsI, astep, ev, setd, List.set, List.getD, List.getElem?_cons_zero, List.getElem?_cons_succ, List.cons_append, List.nil_append, List.replicate, then_normal, Option.getD_some, Bool.or_false, Bool.false_eq_true, up_zero, binv, ↓opt_def, eq_self, hw]
    exact ⟨hil, _, _, Gh.keep [0, 3, 9, 10, 11], rfl, rfl⟩
  · refine T.exit ?_
    have : i = l.length := by simp at hb; omega
    subst this
    rw [List.take_length]
    try simp only [List.cons_append, List.nil_append, List.replicate, then_normal, inBlock_exit, then_exit]
    refine h1 _ _ ?_
    try clear h1 K_h1
    refine T.seq_k (fun K_h1 h1 => ?_)
    refine T.regi hm ?_
    simp only [↓reduceIte, namesOf, List.any, I.names, aopsI, astep, ev, setd, List.set, List.getD, List.getElem?_cons_zero, List.getElem?_cons_succ, then_normal, Option.getD_some, Bool.or_false, Bool.false_eq_true, up_zero, List.map_cons, List.map_nil]
    refine (grows_ok (n := l.flatten.length) hs).mono ?_
    rintro v σ1 hv
    try simp only [↓reduceIte, namesOf, List.any, I.names, aops, aopsI, aopsT, qstep, CPt, qget, Tbl.get, astep, ev, setd, List.set, List.getD, List.getElem?_cons_zero, List.getElem?_cons_succ, List.getElem?_nil, List.cons_append, List.nil_append, List.length_cons, List.length_nil, List.replicate, then_normal, inBlock_normal, Option.getD_some, Option.getD_none, Bool.or_false, Bool.or_true, Bool.true_or, Bool.false_or, Bool.false_eq_true, if_false, if_true, up_zero, Nat.reduceAdd, Nat.reduceSub, binv, ↓opt_def, AV.isAny, AV.cells, ldc, List.map_cons, List.map_nil, St.set_next, St.set_same, St.up_next, Int.natCast_nonneg, lt_len, le_len, Int.toNat_natCast, true_and, and_true, eq_self, reduceCtorEq, decide_true, List.length_singleton, er_int, er_bool, er_str, up_zero]
    refine h1 _ _ ?_
    try clear h1 K_h1
    refine T.seq_k (fun K_h1 h1 => ?_)
    refine T.seq_k (fun K_h2 h2 => ?_)
    refine T.regi hm ?_
    simp only [↓reduceIte, namesOf, List.any, I.names, aopsI, astep, ev, setd, List.set, List.getD, List.getElem?_cons_zero, List.getElem?_cons_succ, then_normal, Option.getD_some, Bool.or_false, Bool.false_eq_true, up_zero, rws_len]
    refine h2 _ _ ?_
    try clear h2 K_h2
    refine T.block ?_
    refine T.gh (Gh.keep [6, 25, 26, 27]) ?_
    refine T.loopi (fun i ρ σ2 => ((l.flatten.length = 0 ∧ (∀ n r, σ'.res n = some r → σ2.res n = some r) ∧ ρ.getD 6 .any = .sl [] .nil) ∨ ∃ g1, OneTip σ' σ2 g1 5 ∧ ρ.getD 6 .any = .sl (spsAV (l.take i).flatten) (.tip g1)) ∧
      ∃ x, ρ = [.any, .any, .any, .any, .any, .any, x, .any, .any, .any, .any, .any, .any, .any, .any, .any, .any, .any, .any, .any, .any, .any, .any, .any, .any, .sl (rwsAV l) g, .int .i64 (l.length : Int), .int .i64 (i : Int)] ++ List.replicate 8 .any)
      l.length 0 (Nat.zero_le _) ⟨?_, v, rfl⟩ ?_
    · rcases hv with ⟨h0, rfl, rfl⟩ | ⟨g1, o1, rfl⟩
      · exact .inl ⟨h0, fun _ _ h => h, rfl⟩
      · exact .inr ⟨g1, o1, by simp [spsAV, keep]⟩
    clear hv
    rintro i ρ σ2 hi2 ⟨hv, x, rfl⟩
    simp only [List.cons_append, List.getD, List.getElem?_cons_succ, List.getElem?_cons_zero, Option.getD_some] at hv
    refine T.seq_k (fun K_h2 h2 => ?_)
    refine T.regi hm ?_
    simp only [↓reduceIte, namesOf, List.any, I.names, aopsI, astep, ev, setd, List.set, List.getD, List.getElem?_cons_zero, List.getElem?_cons_succ, List.cons_append, List.nil_append, List.replicate, then_normal, Option.getD_some, Bool.or_false, Bool.false_eq_true, up_zero, binv, ↓opt_def, lt_len, eq_self]
    refine h2 _ _ ?_
    try clear h2 K_h2
    refine T.seq_k (fun K_h2 h2 => ?_)
    refine T.cond rfl (fun hb => ?_) (fun hb => ?_)
    · refine T.skip ?_
      refine h2 _ _ ?_
      try clear h2 K_h2
      have hil : i < l.length := by simpa using hb
      clear hb
      have hw := inc64 hil (by omega)
      have hle := flat_take_les (l := l) (i + 1)
      have hft := flat_take1s hil
      refine T.seq_k (fun K_h2 h2 => ?_)
      refine T.block ?_
      refine T.seq_k (fun K_h3 h3 => ?_)
      refine T.regi hm ?_
      simp only [↓reduceIte, namesOf, List.any, I.names, aopsI, astep, ev, setd, List.set, List.getD, List.getElem?_cons_zero, List.getElem?_cons_succ, List.cons_append, List.nil_append, List.length_cons, List.length_nil, List.replicate, then_normal, Option.getD_some, Bool.or_false, Bool.false_eq_true, up_zero, Nat.reduceAdd, ↓opt_def, AV.cells, ldc, Int.natCast_nonneg, lt_len, Int.toNat_natCast, true_and, and_true, eq_self, decide_true, rws_len, rws_get hil, hil]
      refine h3 _ _ ?_
      try clear h3 K_h3
      rcases hv with ⟨h0, hq0, rfl⟩ | ⟨g1, o1, rfl⟩
      · have hz : l[i] = [] := by
          apply List.eq_nil_of_length_eq_zero
          rw [hft, List.length_append] at hle; omega
        refine T.regi hm ?_
        simp only [↓reduceIte, namesOf, List.any, I.names, aopsI, astep, ev, setd, List.set, List.getD, List.getElem?_cons_zero, List.getElem?_cons_succ, List.cons_append, List.nil_append, List.length_cons, List.length_nil, List.replicate, then_normal, inBlock_normal, Option.getD_some, Bool.or_false, Bool.or_true, Nat.reduceAdd, List.map_nil, eq_self, decide_true, srcOf, hz, spsAV, List.all_nil, Bool.true_and, List.isEmpty, Nat.zero_mul, Nat.zero_le, and_self, Nat.add_zero, Nat.zero_add]
        refine h2 _ _ ?_
        try clear h2 K_h2
        refine T.regi hm ?_
        simp only [↓reduceIte, namesOf, List.any, I.names, aopsI, astep, ev, setd, List.set, List.getD, List.getElem?_cons_zero, List.getElem?_cons_succ, List.cons_append, List.nil_append, List.replicate, then_normal, Option.getD_some, Bool.or_false, Bool.false_eq_true, up_zero, binv, ↓opt_def, eq_self, hw]
        exact ⟨hil, _, _, Gh.keep [6, 25, 26, 27], .inl ⟨h0, hq0, rfl⟩, _, rfl⟩
      · refine T.regi hm ?_
        simp only [↓reduceIte, namesOf, List.any, I.names, aopsI, astep, ev, setd, List.set, List.getD, List.getElem?_cons_zero, List.getElem?_cons_succ, List.cons_append, List.nil_append, List.length_cons, List.length_nil, List.replicate, then_normal, inBlock_normal, Option.getD_some, Bool.or_false, Bool.or_true, Nat.reduceAdd, eq_self, srcOf, sps_er5, o1.at_, St.up_res, sps_app5, ← hft, sps_fits5, Bool.true_and]
        rw [if_pos (by rw [hft, List.length_append] at hle; simp only [sps_len, decide_eq_true_eq]; omega)]
        have o2 : OneTip σ' (((σ2.up 4).del g1).set (σ2.next + 2) (Res.tip 5)) (σ2.next + 2) 5 := (o1.up 4).mv wf (by have := o1.lo; have := o1.hi; omega) (by simp)
        refine h2 _ _ ?_
        try clear h2 K_h2
        refine T.regi hm ?_
        simp only [↓reduceIte, namesOf, List.any, I.names, aopsI, astep, ev, setd, List.set, List.getD, List.getElem?_cons_zero, List.getElem?_cons_succ, List.cons_append, List.nil_append, List.replicate, then_normal, Option.getD_some, Bool.or_false, Bool.false_eq_true, up_zero, binv, ↓opt_def, eq_self, hw]
        exact ⟨hil, _, _, Gh.keep [6, 25, 26, 27], .inr ⟨_, o2, rfl⟩, _, rfl⟩
    · refine T.exit ?_
      have : i = l.length := by simp at hb; omega
      subst this
      rw [List.take_length] at hv
      try simp only [List.getD, List.cons_append, List.nil_append, List.replicate, then_normal, inBlock_exit, then_exit]
      refine h1 _ _ ?_
      try clear h1 K_h1
      refine T.seq_k (fun K_h1 h1 => ?_)
      refine T.regi hm ?_
      simp only [↓reduceIte, namesOf, List.any, I.names, aopsI, astep, ev, setd, List.set, List.getD, List.getElem?_cons_zero, List.getElem?_cons_succ, then_normal, Option.getD_some, Bool.or_false, Bool.false_eq_true, up_zero]
      refine h1 _ _ ?_
      try clear h1 K_h1
      rcases hv with ⟨h0, hq0, rfl⟩ | ⟨g1, o1, rfl⟩
      · have : l.flatten = [] := List.eq_nil_of_length_eq_zero h0
        exact T.ret (Fin.quietw rfl (Wk.sl _ _) ⟨trivial, trivial⟩ hq0 ⟨by rw [this]; rfl, rfl⟩)
      · exact T.ret (Fin.quietw rfl (Wk.sl _ _) ⟨nb_sps _ _, trivial⟩ (o1.quiet wf) ⟨rfl, rfl⟩)

theorem gather_len (l : List Sp) : (gatherL l).length ≤ l.length := gatherN_le l _

theorem tmerge_ok {a b : List Sp} {g g' : Ver} {σ : St} (hla : a.length ≤ 100000) (hlb : b.length ≤ 100000) (hda : ∀ s ∈ a, s.da.length ≤ 1099511627776) (hdb : ∀ s ∈ b, s.da.length ≤ 1099511627776) :
    ACalls Try.prog n_tmerge [.sl (spsAV a) g, .sl (spsAV b) g'] σ (fun v σ' => v = .sl (spsAV (gatherL (a ++ b))) .none ∧ σ' = σ) := by
  refine s_tmerge (fun wf => ?_)
  unfold c_tmerge
  refine T.seq_k (fun K_h1 h1 => ?_)
  refine T.regi hm ?_
  simp only [↓reduceIte, namesOf, List.any, I.names, aopsI, astep, ev, setd, List.set, List.cons_append, List.nil_append, List.length_cons, List.length_nil, List.replicate, then_normal, Bool.or_false, Bool.false_eq_true, up_zero, Nat.reduceAdd, Nat.reduceSub]
  refine h1 _ _ ?_
  try clear h1 K_h1
  refine T.seq_k (fun K_h1 h1 => ?_)
  refine T.regi hm ?_
  simp only [↓reduceIte, namesOf, List.any, I.names, aopsI, astep, ev, setd, List.set, List.getD, List.getElem?_cons_zero, List.getElem?_cons_succ, List.length_cons, List.length_nil, then_normal, Option.getD_some, Bool.or_false, Bool.false_eq_true, up_zero, AV.isAny, AV.cells, List.map_cons, List.map_nil, eq_self, AV.fits, AV.one, List.all_cons, List.all_nil, Nat.reduceBEq, Bool.not_false, Bool.and_self, Nat.zero_add, held, AV.er, AV.er1]
  have hrw : [AV.sl (spsAV a) .none, AV.sl (spsAV b) .none] = rwsAV [a, b] := rfl
  rw [hrw]
  have hfl : [a, b].flatten = a ++ b := by simp
  refine (concats_ok (l := [a, b]) (by simp) (by rw [hfl, List.length_append]; omega)).mono ?_
  rintro v σ1 ⟨rfl, rfl⟩
  rw [hfl]
  try simp only [↓reduceIte, namesOf, List.any, I.names, aops, aopsI, aopsT, qstep, CPt, qget, Tbl.get, astep, ev, setd, List.set, List.getD, List.getElem?_cons_zero, List.getElem?_cons_succ, List.getElem?_nil, List.cons_append, List.nil_append, List.length_cons, List.length_nil, List.replicate, then_normal, inBlock_normal, Option.getD_some, Option.getD_none, Bool.or_false, Bool.or_true, Bool.true_or, Bool.false_or, Bool.false_eq_true, if_false, if_true, up_zero, Nat.reduceAdd, Nat.reduceSub, binv, ↓opt_def, AV.isAny, AV.cells, ldc, List.map_cons, List.map_nil, St.set_next, St.set_same, St.up_next, Int.natCast_nonneg, lt_len, le_len, Int.toNat_natCast, true_and, and_true, eq_self, reduceCtorEq, decide_true, List.length_singleton, er_int, er_bool, er_str, up_zero]
  refine (gather_ok (by rw [List.length_append]; omega) (fun s hs => ?_)).mono ?_
  · rcases List.mem_append.1 hs with h | h
    · exact hda s h
    · exact hdb s h
  rintro v σ2 ⟨rfl, rfl⟩
  try simp only [↓reduceIte, namesOf, List.any, I.names, aops, aopsI, aopsT, qstep, CPt, qget, Tbl.get, astep, ev, setd, List.set, List.getD, List.getElem?_cons_zero, List.getElem?_cons_succ, List.getElem?_nil, List.cons_append, List.nil_append, List.length_cons, List.length_nil, List.replicate, then_normal, inBlock_normal, Option.getD_some, Option.getD_none, Bool.or_false, Bool.or_true, Bool.true_or, Bool.false_or, Bool.false_eq_true, if_false, if_true, up_zero, Nat.reduceAdd, Nat.reduceSub, binv, ↓opt_def, AV.isAny, AV.cells, ldc, List.map_cons, List.map_nil, St.set_next, St.set_same, St.up_next, Int.natCast_nonneg, lt_len, le_len, Int.toNat_natCast, true_and, and_true, eq_self, reduceCtorEq, decide_true, List.length_singleton, er_int, er_bool, er_str, up_zero]
  refine h1 _ _ ?_
  try clear h1 K_h1
  exact T.ret (Fin.ret rfl ⟨rfl, rfl⟩)

end Go.VL

namespace Go.VL

theorem minS_set {l l' : List Sp} (h : ∀ x, x ∈ l ↔ x ∈ l') (x : Sp) : minS l x ↔ minS l' x :=
  ⟨fun ⟨h1, h2⟩ => ⟨(h x).1 h1, fun y hy => h2 y ((h y).2 hy)⟩, fun ⟨h1, h2⟩ => ⟨(h x).2 h1, fun y hy => h2 y ((h y).1 hy)⟩⟩

theorem gather_ext {l l' : List Sp} (h : ∀ x, minS l x ↔ minS l' x) : gatherL l = gatherL l' := by
  refine List.Perm.eq_of_pairwise (le := fun a b => aheadS a b = true) (fun a b _ _ h1 h2 => ?_) (gather_sorted l) (gather_sorted l') ?_
  · have := ahead_asym h1; rw [h2] at this; cases this
  · exact (List.perm_ext_iff_of_nodup (sorted_nodup (gather_sorted l)) (sorted_nodup (gather_sorted l'))).2 fun x => by rw [gather_mem, gather_mem]; exact h x

theorem gather_set {l l' : List Sp} (h : ∀ x, x ∈ l ↔ x ∈ l') : gatherL l = gatherL l' := gather_ext (minS_set h)

theorem gather_low {l : List Sp} {y : Sp} (hy : y ∈ l) : ∃ z ∈ gatherL l, sameK y z = true ∧ lessS y z = false := by
  obtain ⟨z, hz, h⟩ := (held_puts l).low y hy
  exact ⟨z, (gather_mem l z).2 (((held_puts l).mem z).1 hz), h⟩

theorem gather_app (l c : List Sp) : gatherL (gatherL l ++ c) = gatherL (l ++ c) := by
  refine gather_ext fun x => ⟨fun ⟨h1, h2⟩ => ⟨?_, fun y hy hk => ?_⟩, fun ⟨h1, h2⟩ => ⟨?_, fun y hy hk => ?_⟩⟩
  · rcases List.mem_append.1 h1 with h | h
    · exact List.mem_append_left _ ((gather_mem l x).1 h).1
    · exact List.mem_append_right _ h
  · rcases List.mem_append.1 hy with hy | hy
    · obtain ⟨z, hz, hk2, hl⟩ := gather_low hy
      have hzx : sameK z x = true := sameK_trans (sameK_symm hk2) hk
      have h3 := h2 z (List.mem_append_left _ hz) hzx
      cases hc : lessS y x with
      | false => rfl
      | true =>
        cases hzy : lessS z y with
        | true => have := less_trans hzy hc; rw [h3] at this; cases this
        | false =>
          have hkk := sameK_iff.1 hk2
          have : y = z := less_total hkk.1 hkk.2 hl hzy
          subst this; rw [hc] at h3; cases h3
    · exact h2 y (List.mem_append_right _ hy) hk
  · rcases List.mem_append.1 h1 with h | h
    · exact List.mem_append_left _ ((gather_mem l x).2 ⟨h, fun y hy => h2 y (List.mem_append_left _ hy)⟩)
    · exact List.mem_append_right _ h
  · rcases List.mem_append.1 hy with hy | hy
    · exact h2 y (List.mem_append_left _ ((gather_mem l y).1 hy).1) hk
    · exact h2 y (List.mem_append_right _ hy) hk

end Go.VL

namespace Go.VL

open Go.Proofs

theorem few_of {l : List Sp} {m : Nat} (h : fewB (m : Int) l = true) : l.length ≤ m ∧ ∀ s ∈ l, s.da.length ≤ 200 := by
  unfold fewB at h
  simp only [Bool.and_eq_true, decide_eq_true_eq, List.all_eq_true] at h
  exact ⟨by omega, h.1⟩

end Go.VL

namespace Go.VL

open Go.Proofs

abbrev n_rofs : Nat := 53

def c_rofs : C := (.seq (.reg [⟨(some 4), (.mv (.c (.sl [] .nil))), none⟩]) (.seq (.reg [⟨(some 5), (.mv (.c (.sl [] .nil))), none⟩]) (.seq (.reg [⟨(some 8), (.mv (.t 0)), none⟩, ⟨(some 9), (.call 51 [(.t 8)]), none⟩, ⟨(some 6), (.mv (.t 9)), none⟩]) (.seq (.seq (.reg [⟨(some 7), (.mv (.c (.int .i64 0))), none⟩]) (.block 0 (.loop (.seq (.seq (.reg [⟨(some 10), (.mv (.t 7)), none⟩, ⟨(some 11), (.mv (.t 6)), none⟩, ⟨(some 12), (.len (.t 11)), none⟩, ⟨(some 13), (.bin .lss .i64 (.t 10) (.t 12)), none⟩]) (.cond (.t 13) .skip (.exit 0))) (.seq (.block 1 (.seq (.reg [⟨(some 16), (.mv (.t 6)), none⟩, ⟨(some 17), (.mv (.t 7)), none⟩, ⟨(some 18), (.iaddr 5 (.t 16) (.t 17)), none⟩, ⟨(some 19), (.faddr 0 (.t 18)), none⟩, ⟨(some 20), (.load none (.t 19)), none⟩, ⟨(some 21), (.mv (.t 1)), none⟩, ⟨(some 22), (.bin .eql .u64 (.t 20) (.t 21)), none⟩]) (.cond (.t 22) (.reg [⟨(some 23), (.mv (.t 5)), none⟩, ⟨(some 24), (.mv (.t 6)), none⟩, ⟨(some 25), (.mv (.t 7)), none⟩, ⟨(some 26), (.iaddr 5 (.t 24) (.t 25)), none⟩, ⟨(some 27), (.load (some 5) (.t 26)), none⟩, ⟨(some 28), (.bslice 5 .val [(.t 27)]), none⟩, ⟨(some 29), (.app 5 56 .tip (.t 23) (.t 28)), none⟩, ⟨(some 5), (.mv (.t 29)), none⟩]) .skip))) (.reg [⟨(some 14), (.mv (.t 7)), none⟩, ⟨(some 15), (.bin .add .i64 (.t 14) (.c (.int .i64 1))), none⟩, ⟨(some 7), (.mv (.t 15)), none⟩])))))) (.seq (.reg [⟨(some 30), (.mv (.t 5)), none⟩, ⟨(some 4), (.mv (.t 30)), none⟩]) .ret)))))

set_option maxRecDepth 100000 in
theorem k_rofs : compileC Try.prog ann (Try.f53.body.getD .skip) = some c_rofs := by kernel_rfl

theorem s_rofs {args : List AV} {σ : St} {K : AV → St → Prop} (h : WF σ → T Try.prog ann c_rofs (Fin σ [(.t 4)] K) (args ++ List.replicate (31 - args.length) (.tup [])) σ) : ACalls Try.prog n_rofs args σ K :=
  calls_ok Try.func53 (by kernel_rfl) (by kernel_rfl) k_rofs (by kernel_rfl) (by kernel_rfl) h

end Go.VL

namespace Go.VL

open Go.Proofs

/-- is a span of another trace? -/
def offT (id : Nat) (s : Sp) : Bool := decide ((s.tr : Int) ≠ (id : Int))

def ofT (id : Nat) (l : List Sp) : List Sp := l.filter fun s => !offT id s

theorem filter_take_len {α : Type} (p : α → Bool) (l : List α) (j : Nat) : ((l.take j).filter p).length ≤ j := by
  have := List.length_filter_le p (l.take j)
  rw [List.length_take] at this; omega

theorem ofT_snoc {id : Nat} {l : List Sp} {j : Nat} (hj : j < l.length) : ofT id (l.take (j + 1)) = ofT id (l.take j) ++ (if offT id l[j] = true then [] else [l[j]]) := by
  unfold ofT
  rw [List.take_succ_eq_append_getElem hj, List.filter_append]
  congr 1
  cases h : offT id l[j] <;> simp [h]

set_option maxRecDepth 10000 in
theorem rofs_ok {l : List Sp} {g : Ver} {id : Nat} {σ : St} (hl : l.length ≤ 1000000) : ACalls Try.prog n_rofs [.sl (spsAV l) g, .int .u64 (id : Int)] σ
    (fun v σ' => v = .sl (spsAV (ofT id (gatherL l))) .none ∧ σ' = σ) := by
  refine s_rofs (fun wf => ?_)
  unfold c_rofs
  refine T.seq_k (fun K_h0 h0 => ?_)
  refine T.regi hm ?_
  simp only [↓reduceIte, namesOf, List.any, I.names, aopsI, astep, ev, setd, List.set, List.cons_append, List.nil_append, List.length_cons, List.length_nil, List.replicate, then_normal, Bool.or_false, Bool.false_eq_true, up_zero, Nat.reduceAdd, Nat.reduceSub]
  refine h0 _ _ ?_
  try clear h0 K_h0
  refine T.seq_k (fun K_h0 h0 => ?_)
  refine T.regi hm ?_
  simp only [↓reduceIte, namesOf, List.any, I.names, aopsI, astep, ev, setd, List.set, then_normal, Bool.or_false, Bool.false_eq_true, up_zero]
  refine h0 _ _ ?_
  try clear h0 K_h0
  refine T.seq_k (fun K_h1 h1 => ?_)
  refine T.regi hm ?_
  simp only [↓reduceIte, namesOf, List.any, I.names, aopsI, astep, ev, setd, List.set, List.getD, List.getElem?_cons_zero, List.getElem?_cons_succ, then_normal, Option.getD_some, Bool.or_false, Bool.false_eq_true, up_zero, List.map_cons, List.map_nil]
  refine (rgather_ok hl).mono ?_
  rintro v σ1 ⟨rfl, rfl⟩
  have hml : (gatherL l).length ≤ 1000000 := Nat.le_trans (gather_len l) hl
  generalize hm0 : gatherL l = m at hml ⊢
  try simp only [↓reduceIte, namesOf, List.any, I.names, aops, aopsI, aopsT, qstep, CPt, qget, Tbl.get, astep, ev, setd, List.set, List.getD, List.getElem?_cons_zero, List.getElem?_cons_succ, List.getElem?_nil, List.cons_append, List.nil_append, List.length_cons, List.length_nil, List.replicate, then_normal, inBlock_normal, Option.getD_some, Option.getD_none, Bool.or_false, Bool.or_true, Bool.true_or, Bool.false_or, Bool.false_eq_true, if_false, if_true, up_zero, Nat.reduceAdd, Nat.reduceSub, binv, ↓opt_def, AV.isAny, AV.cells, ldc, List.map_cons, List.map_nil, St.set_next, St.set_same, St.up_next, Int.natCast_nonneg, lt_len, le_len, Int.toNat_natCast, true_and, and_true, eq_self, reduceCtorEq, decide_true, List.length_singleton, er_int, er_bool, er_str, up_zero]
  refine h1 _ _ ?_
  try clear h1 K_h1
  refine T.seq_k (fun K_h1 h1 => ?_)
  refine T.seq_k (fun K_h0 h0 => ?_)
  refine T.regi hm ?_
  simp only [↓reduceIte, namesOf, List.any, I.names, aopsI, astep, ev, setd, List.set, then_normal, Bool.or_false, Bool.false_eq_true, up_zero]
  refine h0 _ _ ?_
  try clear h0 K_h0
  refine T.block ?_
  refine T.gh (Gh.keep [1, 5, 6, 7]) ?_
  refine T.loopi (fun i ρ t => (∃ x G, AccG σ1 t 5 (spsAV (ofT id (m.take i))) x G ∧ ρ = [.any, .int .u64 (id : Int), .any, .any, .any, x, .sl (spsAV m) .none, .int .i64 (i : Int)] ++ List.replicate 23 .any))
    m.length 0 (Nat.zero_le _) ⟨_, none, .nil (.refl _), rfl⟩ ?_
  rintro i ρ t hi ⟨x, G, hA, rfl⟩
  refine T.seq_k (fun K_h2 h2 => ?_)
  refine T.seq_k (fun K_h0 h0 => ?_)
  refine T.regi hm ?_
  simp only [↓reduceIte, namesOf, List.any, I.names, aopsI, astep, ev, setd, List.set, List.getD, List.getElem?_cons_zero, List.getElem?_cons_succ, List.cons_append, List.nil_append, List.replicate, then_normal, Option.getD_some, Bool.or_false, Bool.false_eq_true, up_zero, binv, ↓opt_def, lt_len, eq_self, sps_len]
  refine h0 _ _ ?_
  try clear h0 K_h0
  by_cases hil : i < m.length
  case neg =>
    refine T.cond (b := false) (by simp [ev]; omega) (fun h => by cases h) (fun _ => T.exit ?_)
    have : i = m.length := by omega
    subst this
    rw [List.take_length] at hA
    try simp only [List.cons_append, List.nil_append, List.replicate, then_normal, inBlock_exit, then_exit]
    refine h1 _ _ ?_
    try clear h1 K_h1
    refine T.seq_k (fun K_h0 h0 => ?_)
    refine T.regi hm ?_
    simp only [↓reduceIte, namesOf, List.any, I.names, aopsI, astep, ev, setd, List.set, List.getD, List.getElem?_cons_zero, List.getElem?_cons_succ, then_normal, Option.getD_some, Bool.or_false, Bool.false_eq_true, up_zero]
    refine h0 _ _ ?_
    try clear h0 K_h0
    rw [hm0]
    exact T.ret (Fin.quietw rfl hA.wk ⟨nbs_sps _ _, trivial⟩ (hA.quiet wf) ⟨rfl, rfl⟩)
  refine T.cond (b := true) (by simp [ev]; omega) (fun _ => T.skip ?_) (fun h => by cases h)
  refine h2 _ _ ?_
  try clear h2 K_h2
  have hiw := inc64' hil (by omega)
  have hilI : (i : Int) < (m.length : Int) := by omega
  have hg := sps_get hil
  have hsn := ofT_snoc (id := id) hil
  have hfl := filter_take_len (fun s => !offT id s) m i
  generalize m[i] = s at hg hsn
  rw [spav] at hg
  refine T.seq_k (fun K_h2 h2 => ?_)
  refine T.block ?_
  refine T.seq_k (fun K_h3 h3 => ?_)
  have hoff : ((s.tr : Int) == (id : Int)) = !offT id s := by simp [offT, BEq.beq]
  refine T.regi hm ?_
  simp only [↓reduceIte, namesOf, List.any, I.names, aopsI, astep, ev, setd, List.set, List.getD, List.getElem?_cons_zero, List.getElem?_cons_succ, List.cons_append, List.nil_append, List.length_cons, List.length_nil, List.replicate, then_normal, Option.getD_some, Bool.or_false, Bool.false_eq_true, up_zero, Nat.reduceAdd, binv, ↓opt_def, AV.cells, ldc, Int.natCast_nonneg, Int.toNat_natCast, and_true, eq_self, sps_len, hg, hilI, Nat.zero_add, List.drop, hoff]
  refine h3 _ _ ?_
  try clear h3 K_h3
  cases ho : offT id s with
  | true =>
    rw [ho, if_pos rfl, List.append_nil] at hsn
    refine T.cond (b := false) rfl (fun h => by cases h) (fun _ => T.skip ?_)
    try simp only [List.cons_append, List.nil_append, List.replicate, then_normal, inBlock_normal, inBlock_normal]
    refine h2 _ _ ?_
    try clear h2 K_h2
    refine T.regi hm ?_
    simp only [↓reduceIte, namesOf, List.any, I.names, aopsI, astep, ev, setd, List.set, List.getD, List.getElem?_cons_zero, List.getElem?_cons_succ, List.cons_append, List.nil_append, List.replicate, then_normal, Option.getD_some, Bool.or_false, Bool.false_eq_true, up_zero, binv, ↓opt_def, eq_self, hiw]
    exact ⟨hil, _, _, Gh.keep [1, 5, 6, 7], _, _, hsn ▸ hA, rfl⟩
  | false =>
    rw [ho, if_neg (by simp)] at hsn
    refine T.cond (b := true) rfl (fun _ => ?_) (fun h => by cases h)
    refine T.regt hm (tbl := []) Tbl.ok_nil ?_
    refine aopsT_cut 6 (fun K_c h_c => ?_)
    simp only [List.take_succ_cons, List.take_zero]
    try simp only [↓reduceIte, namesOf, List.any, I.names, aopsT, qstep, astep, ev, setd, List.set, List.getD, List.getElem?_cons_zero, List.getElem?_cons_succ, List.length_cons, List.length_nil, Option.getD_some, Bool.or_false, Bool.or_true, Nat.reduceAdd, ↓opt_def, AV.isAny, AV.cells, ldc, List.map_cons, List.map_nil, Int.natCast_nonneg, Int.toNat_natCast, and_true, eq_self, hilI, hg, sps_len, held, AV.fits, AV.one, List.all_cons, List.all_nil, Nat.reduceBEq, Bool.not_false, Bool.and_self, Nat.zero_add, List.take, List.drop, Nat.reduceLeDiff]
    refine h_c _ _ ?_
    clear h_c K_c
    simp only [List.drop_succ_cons, List.drop_zero, Nat.zero_add]
    refine aopsT_acc (hA.up 8) (by have := hA.like.next; omega) (by simp) rfl (ys := [s.av]) ?_ ?_ ?_ (fun x' t' G' hA3 _ _ _ _ => ?_)
    · rfl
    · exact sps_fits (ofT id (m.take i) ++ [s]) ▸ by simp [spsAV]
    · have hss : [s.av].length = 1 := rfl
      rw [sps_len, hss]
      have : (ofT id (m.take i)).length ≤ i := hfl
      omega
    try simp only [aopsT, qstep, astep, ev, setd, List.set, List.getD, List.getElem?_cons_zero, List.getElem?_cons_succ, List.cons_append, List.nil_append, List.replicate, then_normal, inBlock_normal, Option.getD_some, ]
    refine h2 _ _ ?_
    try clear h2 K_h2
    refine T.regi hm ?_
    simp only [↓reduceIte, namesOf, List.any, I.names, aopsI, astep, ev, setd, List.set, List.getD, List.getElem?_cons_zero, List.getElem?_cons_succ, List.cons_append, List.nil_append, List.replicate, then_normal, Option.getD_some, Bool.or_false, Bool.false_eq_true, up_zero, binv, ↓opt_def, eq_self, hiw]
    refine ⟨hil, _, _, Gh.keep [1, 5, 6, 7], x', G', ?_, rfl⟩
    rw [hsn]
    have : spsAV (ofT id (m.take i) ++ [s]) = spsAV (ofT id (m.take i)) ++ [s.av] := by simp [spsAV]
    rw [this]; exact hA3

end Go.VL

namespace Go.VL

open Go.Proofs

abbrev n_rtraces : Nat := 17

def c_rtraces : C := (.seq (.reg [⟨(some 4), (.mv (.c (.bool false))), none⟩]) (.seq (.seq (.reg [⟨(some 7), (.mv (.t 0)), none⟩, ⟨(some 8), (.len (.t 7)), none⟩, ⟨(some 9), (.mv (.t 1)), none⟩, ⟨(some 10), (.len (.t 9)), none⟩, ⟨(some 11), (.bin .neq .i64 (.t 8) (.t 10)), none⟩]) (.cond (.t 11) (.seq (.reg [⟨(some 4), (.mv (.c (.bool false))), none⟩]) .ret) .skip)) (.seq (.seq (.reg [⟨(some 5), (.mv (.c (.int .i64 0))), none⟩]) (.block 0 (.loop (.seq (.seq (.reg [⟨(some 12), (.mv (.t 5)), none⟩, ⟨(some 13), (.mv (.t 0)), none⟩, ⟨(some 14), (.len (.t 13)), none⟩, ⟨(some 15), (.bin .lss .i64 (.t 12) (.t 14)), none⟩]) (.cond (.t 15) .skip (.exit 0))) (.seq (.block 1 (.seq (.reg [⟨(some 18), (.mv (.t 0)), none⟩, ⟨(some 19), (.mv (.t 5)), none⟩, ⟨(some 20), (.iaddr 2 (.t 18) (.t 19)), none⟩, ⟨(some 21), (.faddr 1 (.t 20)), none⟩, ⟨(some 22), (.load none (.t 21)), none⟩, ⟨(some 23), (.mv (.t 1)), none⟩, ⟨(some 24), (.mv (.t 5)), none⟩, ⟨(some 25), (.iaddr 2 (.t 23) (.t 24)), none⟩, ⟨(some 26), (.faddr 1 (.t 25)), none⟩, ⟨(some 27), (.load none (.t 26)), none⟩, ⟨(some 28), (.qcall 30 [(.t 22), (.t 27)]), none⟩, ⟨(some 6), (.mv (.t 28)), none⟩]) (.seq (.reg [⟨(some 29), (.mv (.t 0)), none⟩, ⟨(some 30), (.mv (.t 5)), none⟩, ⟨(some 31), (.iaddr 2 (.t 29) (.t 30)), none⟩, ⟨(some 32), (.faddr 0 (.t 31)), none⟩, ⟨(some 33), (.load none (.t 32)), none⟩, ⟨(some 34), (.mv (.t 1)), none⟩, ⟨(some 35), (.mv (.t 5)), none⟩, ⟨(some 36), (.iaddr 2 (.t 34) (.t 35)), none⟩, ⟨(some 37), (.faddr 0 (.t 36)), none⟩, ⟨(some 38), (.load none (.t 37)), none⟩, ⟨(some 39), (.bin .neq .u64 (.t 33) (.t 38)), none⟩, ⟨(some 40), (.mv (.t 39)), none⟩, ⟨(some 41), (.mv (.t 6)), (some (40, false))⟩, ⟨(some 42), (.not (.t 41)), (some (40, false))⟩, ⟨(some 43), (.pick (.t 40) (.c (.bool true)) (.t 42)), none⟩]) (.cond (.t 43) (.seq (.reg [⟨(some 4), (.mv (.c (.bool false))), none⟩]) .ret) .skip)))) (.reg [⟨(some 16), (.mv (.t 5)), none⟩, ⟨(some 17), (.bin .add .i64 (.t 16) (.c (.int .i64 1))), none⟩, ⟨(some 5), (.mv (.t 17)), none⟩])))))) (.seq (.reg [⟨(some 4), (.mv (.c (.bool true))), none⟩]) .ret))))

set_option maxRecDepth 100000 in
theorem k_rtraces : compileC Try.prog ann (Try.f17.body.getD .skip) = some c_rtraces := by kernel_rfl

theorem s_rtraces {args : List AV} {σ : St} {K : AV → St → Prop} (h : WF σ → T Try.prog ann c_rtraces (Fin σ [(.t 4)] K) (args ++ List.replicate (44 - args.length) (.tup [])) σ) : ACalls Try.prog n_rtraces args σ K :=
  calls_ok Try.func17 (by kernel_rfl) (by kernel_rfl) k_rtraces (by kernel_rfl) (by kernel_rfl) h

end Go.VL

namespace Go.VL

open Go.Proofs

/-- a reader (an owned thing nm), a row that grows, and names that nobody knows -/
structure Rk (σ t : St) (nm : Nat) (r : Res) (k : Nat) (v : Ver) : Prop where
  like : Like σ t
  lo : σ.next ≤ nm
  hi : nm < t.next
  at_ : t.res nm = some r
  ver : v = .nil ∨ ∃ g, v = .tip g ∧ g ≠ nm ∧ σ.next ≤ g ∧ g < t.next ∧ t.res g = some (.tip k)

theorem Rk.set {σ t : St} {nm k : Nat} {r : Res} {v : Ver} (h : Rk σ t nm r k v) (r' : Res) : Rk σ (t.set nm r') nm r' k v :=
  ⟨h.like.set _ h.lo, h.lo, h.hi, by simp, h.ver.imp id fun ⟨g, a1, a2, a3, a4, a5⟩ => ⟨g, a1, a2, a3, a4, by rw [St.set_other _ _ a2]; exact a5⟩⟩

theorem Rk.up {σ t : St} {nm k : Nat} {r : Res} {v : Ver} (h : Rk σ t nm r k v) (n : Nat) : Rk σ (t.up n) nm r k v :=
  ⟨h.like.up n, h.lo, Nat.lt_of_lt_of_le h.hi (Nat.le_add_right _ _), h.at_, h.ver.imp id fun ⟨g, a1, a2, a3, a4, a5⟩ => ⟨g, a1, a2, a3, Nat.lt_of_lt_of_le a4 (Nat.le_add_right _ _), a5⟩⟩

theorem Rk.new {σ t : St} {nm k : Nat} {r : Res} {v : Ver} (h : Rk σ t nm r k v) {a : Nat} (r' : Res) (ha : σ.next ≤ a) (hn : a ≠ nm) (hv : ∀ g, v = .tip g → a ≠ g) : Rk σ (t.set a r') nm r k v :=
  ⟨h.like.set _ ha, h.lo, h.hi, by rw [St.set_other _ _ (Ne.symm hn)]; exact h.at_, h.ver.imp id fun ⟨g, a1, a2, a3, a4, a5⟩ => ⟨g, a1, a2, a3, a4, by rw [St.set_other _ _ (Ne.symm (hv g a1))]; exact a5⟩⟩

theorem Rk.lt {σ t : St} {nm k : Nat} {r : Res} {v : Ver} (h : Rk σ t nm r k v) {g : Nat} (hv : v = .tip g) : g < t.next := by
  rcases h.ver with e | ⟨g', e, _, _, h4, _⟩
  · rw [hv] at e; cases e
  · rw [hv] at e; cases e; exact h4

end Go.VL
