/- Texts put together, of these what the theorem needs: The value logic, part U: a law that returns true, whatever its arguments: the contract of its row. The compiled code of functions of this seat. MADE BY PROGRAM (mkc.py). Contracts: small things. Contracts: numbers as bytes. PLAIN LAW: a checksum by a table is the checksum bit by bit. Contracts: the checksum by a table. Contracts: sealing. Contracts: sealed bytes opened. Contracts: readers. A reader is an owned row of three: bytes, how far, where amiss. Contracts: small things that are used often; an error's number. Contracts: readers, told as functions. States that are alike but for new names; a named end among them; arithmetic of words. The compiled code of functions of this seat. MADE BY PROGRAM (mkc.py). Contracts: spans and traces that are few; what may be. Contracts: pages that are few; comparing. Contracts: canonical traces. Contracts: lists of canonical traces; rows put together. The plain law of gathering: what is gathered of spans of one trace is they themselves just if they stand in order, and no Id is there twice. Gathering and sorting a row of spans, told over values. slices.SortFunc at a row of spans, told over values. bytes.Compare, whose work the model does itself. What gathers and sorts spans at this seat: numbers and facts. MADE BY PROGRAM (mksp.py). slices.SortFunc and AppendSeq over maps.Values, at this seat's spans. The compiled code of functions of this seat. MADE BY PROGRAM (mkc.py). -/
import Derived.Test.YtmbbeldgfhnkbaaKTraceUnion2
import Derived.Test.YtmbbeldgfhnkbaaChecked

set_option linter.unusedSimpArgs false
set_option linter.unusedVariables false

namespace Go.VL

open Go.RowKit

inductive HasAll (P : Program) (n : Nat) : List TypeId → List AV → Prop where
  | nil : HasAll P n [] []
  | cons {t : TypeId} {x : AV} {ts : List TypeId} {xs : List AV} (h : HasE P n t x) (r : HasAll P n ts xs) : HasAll P n (t :: ts) (x :: xs)

section

variable {H : Type} {enc : TypeId × Value → H} {P : Program} {W : World}

theorem arg_has {n : Nat} {r : Reach} {b0 : Nat} {t : TypeId} {v : Value} {d : DataW H} {ps : List MemPlace} (hg : goodT P n t = true) (hok : Value.okWide P W r b0 t v) (hd : DataW.Trod enc P W 0 (fun _ => true) true t v d ps) : ∃ x, V (κ0 W) W v x ∧ HasE P n t x := by
  obtain ⟨fuel, hf⟩ := hd
  obtain ⟨xs, h1, h2⟩ := trod_has hg hf
  refine ⟨mkE P t xs, ?_, (mkE_has h2).2⟩
  unfold mkE
  by_cases hs : isStruct P t = true
  · simp only [hs, if_true]
    unfold isStruct at hs
    split at hs
    · rename_i fs hu
      simp only [Value.okWide, hu] at hok
      obtain ⟨cs, rfl, _⟩ := hok
      obtain ⟨l⟩ := cs
      exact .agg _ _ (by simpa [Value.cells] using h1)
    · cases hs
  · have hs' : isStruct P t = false := by simpa using hs
    obtain ⟨x, rfl, hx⟩ := h2.single hs'
    simp only [hs', Bool.false_eq_true, if_false, List.headD_cons]
    have hna : ∀ cs, v ≠ .agg cs := by
      rintro cs rfl
      cases n with
      | zero => cases hg
      | succ n =>
        unfold goodT at hg
        split at hg
        · rename_i hu; simp [Value.okWide, hu, Cell.okWide, Cell.ok] at hok
        · rename_i hu; simp [Value.okWide, hu, Cell.okWide, Cell.ok] at hok
        · rename_i hu; simp [Value.okWide, hu, Cell.okWide, Cell.ok] at hok
        · rename_i hu; simp [Value.okWide, hu, Cell.okWide, Cell.ok] at hok
        · rename_i hu; unfold isStruct at hs'; rw [hu] at hs'; cases hs'
        · cases hg
    have hc : v.cells.toList = [v] := by
      cases v <;> first | rfl | exact absurd rfl (hna _)
    rw [hc] at h1
    cases h1 with
    | cons _ _ _ _ h _ => exact h

theorem args_has {n : Nat} {r : Reach} {b0 : Nat} : ∀ {ts : List TypeId} {vs : List Value} {ds : List (DataW H)} {ps : List MemPlace}, (∀ t ∈ ts, goodT P n t = true) → (∀ (j : Nat) t v, ts[j]? = some t → vs[j]? = some v → Value.okWide P W r b0 t v) →
    DataW.TrodAll enc P W 0 (fun _ => true) true ts vs ds ps → ∃ xs, Vl (κ0 W) W vs xs ∧ HasAll P n ts xs
  | [], [], [], _, _, _, _ => ⟨[], .nil, .nil⟩
  | t :: ts, v :: vs, d :: ds, ps, hg, hok, ⟨p, q, h1, h2, _⟩ => by
    obtain ⟨x, k1, k2⟩ := arg_has (hg t (by simp)) (hok 0 t v rfl rfl) h1
    obtain ⟨xs, k3, k4⟩ := args_has (fun t ht => hg t (List.mem_cons_of_mem _ ht)) (fun j t v ht hv => hok (j + 1) t v (by simpa using ht) (by simpa using hv)) h2
    exact ⟨x :: xs, .cons _ _ _ _ k1 k3, .cons k2 k4⟩
  | [], _ :: _, _, _, _, _, h => by simp [DataW.TrodAll] at h
  | [], [], _ :: _, _, _, _, h => by simp [DataW.TrodAll] at h
  | _ :: _, [], _, _, _, _, h => by simp [DataW.TrodAll] at h
  | _ :: _, _ :: _, [], _, _, _, h => by simp [DataW.TrodAll] at h

theorem trodAll_below (hl : laidOutB P = true) {W' : World} (hb : Below W.heap.size W W') : ∀ {ts : List TypeId} {vs : List Value} {ds : List (DataW H)} {ps : List MemPlace}, (∀ t ∈ ts, P.readableRec t = true ∧ t < P.types.size) →
    DataW.TrodAll enc P W 0 (fun _ => true) true ts vs ds ps → DataW.TrodAll enc P W' 0 (fun b => decide (b < W.heap.size)) true ts vs ds ps
  | [], [], [], _, _, h => by simpa [DataW.TrodAll] using h
  | t :: ts, v :: vs, d :: ds, ps, ht, ⟨p, q, h1, h2, e⟩ => by
    have hlt : ∀ x ∈ p, x.block < W.heap.size := by
      obtain ⟨n, hn⟩ := h1
      exact DataW.trod_lt n t _ _ hn
    exact ⟨p, q, Below.trod hl (ht t (by simp)).1 (ht t (by simp)).2 h1 hb hlt, trodAll_below hl hb (fun t h => ht t (List.mem_cons_of_mem _ h)) h2, e⟩
  | [], _ :: _, _, _, _, h => by simp [DataW.TrodAll] at h
  | [], [], _ :: _, _, _, h => by simp [DataW.TrodAll] at h
  | _ :: _, [], _, _, _, h => by simp [DataW.TrodAll] at h
  | _ :: _, _ :: _, [], _, _, h => by simp [DataW.TrodAll] at h

theorem trodAll_len {w : World} {b : Nat} {sp : Nat → Bool} {hd : Bool} : ∀ {ts : List TypeId} {vs : List Value} {ds : List (DataW H)} {ps : List MemPlace}, DataW.TrodAll enc P w b sp hd ts vs ds ps → ds.length = ts.length
  | [], [], [], _, _ => rfl
  | t :: ts, v :: vs, d :: ds, ps, ⟨p, q, h1, h2, e⟩ => by simp [trodAll_len h2]
  | [], _ :: _, _, _, h => by simp [DataW.TrodAll] at h
  | [], [], _ :: _, _, h => by simp [DataW.TrodAll] at h
  | _ :: _, [], _, _, h => by simp [DataW.TrodAll] at h
  | _ :: _, _ :: _, [], _, h => by simp [DataW.TrodAll] at h

/-- THE ROW's CONTRACT, from what a call comes to over values -/
theorem law_calls (n : Nat) {f : FuncId} {fn : Func} {s : ChangeSpec} {tb : TypeId} (hl : laidOutB P = true)
    (hps : fn.params.toList.all (fun t => goodT P n t && P.readableRec t && decide (t < P.types.size)) = true) (hvars : s.vars = []) (hrt : fn.resultTypes = #[tb]) (hb : P.underlying tb = some .bool)
    (hfn : ∀ ds : List (DataW H), ds.length = fn.params.toList.length → s.fn H ds = { results := [.lit (.bool true)], args := ds })
    (hwalk : ∀ xs, HasAll P n fn.params.toList xs → ACalls P f xs σ0 (fun v _ => v = .bool true))
    {base : Nat} {args : Array Value} {ds gs : List (DataW H)} {before : List MemPlace}
    (hval : ∀ (j : Nat) t v, fn.params[j]? = some t → args[j]? = some v → Value.okWide P W .any base t v)
    (hW : DataW.Whole enc P fn.params.toList s.vars false W args.toList ds gs before) :
    Calls P f args W fun e W' => ∃ v, e = .returned v ∧ s.post enc P fn false true false false W args v W' := by
  simp only [List.all_eq_true, Bool.and_eq_true, decide_eq_true_eq] at hps
  have hW' := hW
  obtain ⟨p, q, hA, hV, hbf, _, _⟩ := hW
  rw [hvars] at hV
  have hgs : gs = [] ∧ q = [] := by
    cases gs with
    | nil => exact ⟨rfl, by simpa [DataW.TrodVars] using hV⟩
    | cons _ _ => simp [DataW.TrodVars] at hV
  obtain ⟨rfl, rfl⟩ := hgs
  obtain ⟨xs, h1, h2⟩ := args_has (n := n) (fun t ht => (hps t ht).1.1) (fun j t v ht hv => hval j t v (by simpa using ht) (by simpa using hv)) hA
  obtain ⟨l⟩ := args
  refine ((hwalk xs h2).2 (κ0 W) W l 0 (fun _ => False) (R0 W) h1).mono ?_
  rintro e W' ⟨v, x, κ', σ', rfl, _, _, _, hfr, _, hv, hx⟩
  subst hx
  refine ⟨v, rfl, ?_⟩
  rw [hv.bool_inv]
  have hbelow : Below W.heap.size W W' := ⟨hfr.os.os, hfr.tape, hfr.output, hfr.size, fun b hlt => hfr.block b hlt (by rintro ⟨n, r, hn, _⟩; simp [σ0] at hn)⟩
  have hd := hfn ds (trodAll_len hA)
  refine ⟨ds, [], before, [], p, [], hW', ?_, ?_, ?_, hbelow.frame _, fun h => by cases h⟩
  · rw [List.append_nil, hd, hrt]
    exact ⟨[], [], shut_bool hb true, rfl, rfl⟩
  · rw [List.append_nil, hd]
    exact trodAll_below hl hbelow (fun t ht => ⟨(hps t ht).1.2, (hps t ht).2⟩) hA
  · rw [hvars, List.append_nil, hd]
    rfl

end

end Go.VL

namespace Go.VL

open Go.Proofs

abbrev ann : Ann := { errs := [(31, .i64)] }

abbrev n_right : Nat := 112

abbrev n_step : Nat := 168

end Go.VL

namespace Go.VL

open Go.Proofs

theorem hm : Try.prog.follows .mixedOrders = true := by kernel_rfl

def nums (k : IntKind) (l : List Int) : List AV := l.map (.int k)

theorem nums_len (k : IntKind) (l : List Int) : (nums k l).length = l.length := by simp [nums]

theorem nums_get (k : IntKind) {l : List Int} {i : Nat} (h : i < l.length) : (nums k l)[i]? = some (.int k l[i]) := by simp [nums, h]

theorem wrap64 {n : Int} (h0 : -9223372036854775808 ≤ n) (h1 : n < 9223372036854775808) : IntKind.i64.wrap n = n := by
  simp [IntKind.wrap, IntKind.bits, IntKind.signed]; omega

def rightB (w : Int) : Bool := decide (w = 1 ∨ w = 2 ∨ w = 4 ∨ w = 8)

end Go.VL

namespace Go.VL

open Go.Proofs

def g_right : List AV → Option AV
  | [.int .i64 w] => some (.bool (rightB w))
  | _ => none

def t1 : Tbl := [(n_right, g_right)]

theorem bytesAV_len (x : List UInt8) : (bytesAV x).length = x.length := by simp [bytesAV]

theorem bytesAV_er (x : List UInt8) : (bytesAV x).map AV.er = bytesAV x := by
  simp only [bytesAV, List.map_map]; rfl

end Go.VL

namespace Go.VL

def bitstep (x : BitVec 32) : BitVec 32 := if x.getLsbD 0 then (x >>> 1) ^^^ 0xEDB88320#32 else x >>> 1

def stepN : Nat → BitVec 32 → BitVec 32
  | 0, x => x
  | n + 1, x => stepN n (bitstep x)

/-! ### The operations on words -/

end Go.VL

namespace Go.VL

open Go.Proofs

def step8I (m : Int) : Int := ((stepN 8 (BitVec.ofInt 32 m)).toNat : Int)

/-- (told by choice, so that nobody reckons it) -/
noncomputable def inU32 (m : Int) : Bool := @decide (0 ≤ m ∧ m < 4294967296) (Classical.propDecidable _)

noncomputable def g_step : List AV → Option AV
  | [.int .u32 m] => if inU32 m = true then some (.int .u32 (step8I m)) else none
  | _ => none

noncomputable def t2 : Tbl := [(n_step, g_step)]

def tab (i : Nat) : List AV := (List.range 256).map fun j => .int .u32 (if j < i then step8I (j : Int) else 0)

end Go.VL

namespace Go.VL

open Go.Proofs

theorem nb_bytes (m : Nat) (l : List UInt8) : nbs m (bytesAV l) := by
  rw [nbs_iff]
  intro x hx
  simp only [bytesAV, List.mem_map] at hx
  obtain ⟨b, _, rfl⟩ := hx
  trivial

end Go.VL

namespace Go.VL

open Go.Proofs

theorem Fin.quietw {σ0 : St} {rs : List RX} {K : AV → St → Prop} {ρ : List AV} {σ : St} {xs : List AV} {y : AV} (h1 : rvals ρ σ rs = some xs) (hw : Wk (pack xs) y) (hx : y.nb σ0.next) (hr : ∀ n r, σ0.res n = some r → σ.res n = some r) (h2 : K y σ0) : Fin σ0 rs K .ret ρ σ :=
  ⟨ρ, σ, xs, _, σ0, .refl, h1, (Gv.wk hw).trans (.quiet hx hr), h2⟩

theorem toBytes_bytes : ∀ l : List UInt8, toBytes (bytesAV l) = some l
  | [] => rfl
  | b :: r => by
    have h := toBytes_bytes r
    simp only [bytesAV] at h
    simp only [bytesAV, List.map_cons, toBytes, h, Option.map_some, Int.toNat_natCast]
    simp

theorem ba_eq (a b : List UInt8) : decide ((⟨a.toArray⟩ : ByteArray) = ⟨b.toArray⟩) = decide (a = b) := by
  by_cases h : a = b
  · subst h; simp
  · rw [decide_eq_false h, decide_eq_false]
    intro e
    injection e with e
    exact h (by simpa using e)

end Go.VL

namespace Go.VL

open Go.Proofs

/-- what a reader may be -/
structure Rd (l : List UInt8) (at_ bad : Int) : Prop where
  len : l.length ≤ 1099511627776
  lo : 0 ≤ at_
  hi : at_ ≤ l.length

end Go.VL

namespace Go.VL

open Go.Proofs

theorem set_quiet {σ σ' : St} (wf : WF σ) (hn : σ.next ≤ σ'.next) (ho : ∀ n x, σ.res n = some x → σ'.res n = some x) {k a : Nat} (r : Res) (ha : σ'.next ≤ a) : ∀ n x, σ.res n = some x → ((σ'.up k).set a r).res n = some x := by
  intro n x hr
  have hn' : n < σ.next := by
    rcases Nat.lt_or_ge n σ.next with h | h
    · exact h
    · rw [wf n h] at hr; cases hr
  rw [St.set_other _ _ (by omega)]; exact ho n x hr

end Go.VL

namespace Go.VL

open Go.Proofs

/-- how far a reader is, and where something is amiss (-1: nowhere) -/
structure Rs where
  at_ : Int
  bad : Int

def Rs.ok (l : List UInt8) (s : Rs) : Prop := Rd l s.at_ s.bad ∧ (s.bad = -1 ∨ 0 ≤ s.bad)

def r0 : Rs := ⟨0, -1⟩

end Go.VL

namespace Go.VL

open Go.Proofs

/-- the same, and perhaps more behind it -/
structure Like (ρ τ : St) : Prop where
  next : ρ.next ≤ τ.next
  same : ∀ n, n < ρ.next → τ.res n = ρ.res n

theorem Like.refl (σ : St) : Like σ σ := ⟨Nat.le_refl _, fun _ _ => rfl⟩

theorem Like.trans {a b c : St} (h : Like a b) (k : Like b c) : Like a c := ⟨Nat.le_trans h.next k.next, fun n hn => (k.same n (Nat.lt_of_lt_of_le hn h.next)).trans (h.same n hn)⟩

theorem Like.up {a b : St} (h : Like a b) (k : Nat) : Like a (b.up k) := ⟨Nat.le_trans h.next (Nat.le_add_right _ _), h.same⟩

theorem Like.set {a b : St} (h : Like a b) {n : Nat} (r : Res) (hn : a.next ≤ n) : Like a (b.set n r) := ⟨h.next, fun m hm => by rw [St.set_other _ _ (by omega)]; exact h.same m hm⟩

theorem Like.del {a b : St} (h : Like a b) {n : Nat} (hn : a.next ≤ n) : Like a (b.del n) := ⟨h.next, fun m hm => by
  have : m ≠ n := by omega
  rw [← h.same m hm]; simp [St.del, this]⟩

theorem Like.put {a b : St} (h : Like a b) (n : Nat) (r : Res) : Like (a.set n r) (b.set n r) := ⟨h.next, fun m hm => by
  have hm' : m < a.next := hm
  by_cases e : m = n
  · subst e; simp
  · rw [St.set_other _ _ e, St.set_other _ _ e]; exact h.same m hm'⟩

theorem Like.one {σ σ' : St} {g k : Nat} (h : OneTip σ σ' g k) : Like σ σ' := ⟨by have := h.lo; have := h.hi; omega, fun n hn => by rw [h.res, St.set_other _ _ (by have := h.lo; omega)]⟩

theorem Like.get {a b : St} (h : Like a b) {n : Nat} (hn : n < a.next) {r : Res} (hr : a.res n = some r) : b.res n = some r := by rw [h.same n hn]; exact hr

theorem WF.lt {σ : St} (wf : WF σ) {n : Nat} {r : Res} (h : σ.res n = some r) : n < σ.next := by
  rcases Nat.lt_or_ge n σ.next with h' | h'
  · exact h'
  · rw [wf n h'] at h; cases h

/-- what is left behind a call may be told as it is, but for names that nobody knows -/
theorem Gv.like {σ0 τ ρ : St} {x : AV} (h : Like ρ τ) (hn : ρ.next = σ0.next) (hx : x.nb σ0.next) (hr : ∀ n r, ρ.res n = some r → n < σ0.next ∧ (σ0.res n = some r ∨ r.nb σ0.next)) : Gv σ0 x τ x ρ :=
  .cut (Nat.le_of_eq hn.symm) (by rw [hn]; exact hx) (fun n r hnr => by
    obtain ⟨h1, h2⟩ := hr n r hnr
    refine ⟨by rw [h.same n (by omega)]; exact hnr, ?_⟩
    rcases h2 with h2 | h2
    · exact .inl h2
    · exact .inr ⟨by omega, by rw [hn]; exact h2⟩)

theorem inc64' {i n : Nat} (h : i < n) (hn : n ≤ 4611686018427387904) : IntKind.i64.wrap ((i : Int) + 1) = ((i + 1 : Nat) : Int) := by
  rw [wrap64 (by omega) (by omega)]; omega

/-- a named end, and what was there ahead of it -/
structure Tq (σ t : St) (g k : Nat) : Prop where
  like : Like σ t
  at_ : t.res g = some (.tip k)
  lo : σ.next ≤ g
  hi : g < t.next

theorem Tq.up {σ t : St} {g k : Nat} (h : Tq σ t g k) (n : Nat) : Tq σ (t.up n) g k := ⟨h.like.up n, h.at_, h.lo, Nat.lt_of_lt_of_le h.hi (Nat.le_add_right _ _)⟩

theorem Tq.new {σ t : St} (h : Like σ t) {n i : Nat} (hi : i < n) (k : Nat) : Tq σ ((t.up n).set (t.next + i) (.tip k)) (t.next + i) k :=
  ⟨(h.up n).set _ (by have := h.next; omega), by simp, by have := h.next; omega, by simp; omega⟩

theorem Tq.app {σ t : St} {g k : Nat} (h : Tq σ t g k) {n i : Nat} (hi : i < n) : Tq σ (((t.up n).del g).set (t.next + i) (.tip k)) (t.next + i) k :=
  ⟨((h.like.up n).del h.lo).set _ (by have := h.like.next; omega), by simp, by have := h.like.next; omega, by simp; omega⟩

theorem Tq.box {σ t : St} {g k : Nat} (h : Tq σ t g k) {n i : Nat} (hi : i < n) (r : Res) : Tq σ ((t.up n).set (t.next + i) r) g k :=
  ⟨(h.like.up n).set _ (by have := h.like.next; omega), by rw [St.set_other _ _ (by have := h.hi; omega)]; exact h.at_, h.lo, by have := h.hi; simp; omega⟩

theorem Tq.one {σ t : St} {g k : Nat} (h : OneTip σ t g k) : Tq σ t g k := ⟨.one h, h.at_, h.lo, h.hi⟩

theorem Tq.trans {σ t u : St} {g k : Nat} (h : Like σ t) (q : Tq t u g k) : Tq σ u g k := ⟨h.trans q.like, q.at_, Nat.le_trans h.next q.lo, q.hi⟩

theorem Like.quiet {σ t : St} (wf : WF σ) (h : Like σ t) : ∀ n x, σ.res n = some x → t.res n = some x := fun _ _ hx => h.get (wf.lt hx) hx

theorem Tq.quiet {σ t : St} {g k : Nat} (wf : WF σ) (h : Tq σ t g k) : ∀ n x, σ.res n = some x → t.res n = some x := h.like.quiet wf

theorem Like.box {σ t : St} (h : Like σ t) {n i : Nat} (r : Res) : Like σ ((t.up n).set (t.next + i) r) := (h.up n).set _ (by have := h.next; omega)

theorem Tq.mv {σ t : St} {g k : Nat} (h : Tq σ t g k) {g2 : Nat} (lo : σ.next ≤ g2) (hi : g2 < t.next) : Tq σ ((t.del g).set g2 (.tip k)) g2 k :=
  ⟨(h.like.del h.lo).set _ lo, by simp, lo, hi⟩

/-- a named end, and an owned thing -/
structure Tb (σ t : St) (g k a : Nat) (r : Res) : Prop where
  q : Tq σ t g k
  b : t.res a = some r
  lt : a < t.next
  ne : a ≠ g

theorem Tb.bs {σ t : St} {g k a : Nat} {r : Res} (h : Tb σ t g k a r) : ∀ n, (t.up n).res a = some r := fun _ => h.b

theorem Tb.app {σ t : St} {g k a : Nat} {r : Res} (h : Tb σ t g k a r) {n i : Nat} (hi : i < n) : Tb σ (((t.up n).del g).set (t.next + i) (.tip k)) (t.next + i) k a r :=
  ⟨h.q.app hi, by
    have := h.lt
    rw [St.set_other _ _ (by omega)]
    have hne := h.ne
    simp only [St.del, if_neg hne]; exact h.b, by have := h.lt; simp; omega, by have := h.lt; omega⟩

theorem Tq.tb {σ t : St} {g k : Nat} (q : Tq σ t g k) {n i : Nat} (hi : i < n) (r : Res) : Tb σ ((t.up n).set (t.next + i) r) g k (t.next + i) r :=
  ⟨q.box hi r, by simp, by simp; omega, by have := q.hi; omega⟩

end Go.VL

namespace Go.VL

open Go.Proofs

abbrev n_few : Nat := 26

def c_few : C := (.seq (.reg [⟨(some 4), (.mv (.c (.bool false))), none⟩]) (.seq (.seq (.reg [⟨(some 5), (.mv (.c (.int .i64 0))), none⟩]) (.block 0 (.loop (.seq (.seq (.reg [⟨(some 6), (.mv (.t 5)), none⟩, ⟨(some 7), (.mv (.t 0)), none⟩, ⟨(some 8), (.len (.t 7)), none⟩, ⟨(some 9), (.bin .lss .i64 (.t 6) (.t 8)), none⟩]) (.cond (.t 9) .skip (.exit 0))) (.seq (.block 1 (.seq (.reg [⟨(some 12), (.mv (.t 0)), none⟩, ⟨(some 13), (.mv (.t 5)), none⟩, ⟨(some 14), (.iaddr 5 (.t 12) (.t 13)), none⟩, ⟨(some 15), (.faddr 4 (.t 14)), none⟩, ⟨(some 16), (.load none (.t 15)), none⟩, ⟨(some 17), (.len (.t 16)), none⟩, ⟨(some 18), (.bin .gtr .i64 (.t 17) (.c (.int .i64 200))), none⟩]) (.cond (.t 18) (.seq (.reg [⟨(some 4), (.mv (.c (.bool false))), none⟩]) .ret) .skip))) (.reg [⟨(some 10), (.mv (.t 5)), none⟩, ⟨(some 11), (.bin .add .i64 (.t 10) (.c (.int .i64 1))), none⟩, ⟨(some 5), (.mv (.t 11)), none⟩])))))) (.seq (.reg [⟨(some 19), (.mv (.t 0)), none⟩, ⟨(some 20), (.len (.t 19)), none⟩, ⟨(some 21), (.mv (.t 1)), none⟩, ⟨(some 22), (.bin .leq .i64 (.t 20) (.t 21)), none⟩, ⟨(some 4), (.mv (.t 22)), none⟩]) .ret)))

set_option maxRecDepth 100000 in
theorem k_few : compileC Try.prog ann (Try.f26.body.getD .skip) = some c_few := by kernel_rfl

theorem s_few {args : List AV} {σ : St} {K : AV → St → Prop} (h : WF σ → T Try.prog ann c_few (Fin σ [(.t 4)] K) (args ++ List.replicate (23 - args.length) (.tup [])) σ) : ACalls Try.prog n_few args σ K :=
  calls_ok Try.func26 (by kernel_rfl) (by kernel_rfl) k_few (by kernel_rfl) (by kernel_rfl) h

abbrev n_may : Nat := 118

def c_may : C := (.seq (.reg [⟨(some 1), (.box (.t 0)), none⟩, ⟨(some 2), (.mv (.c (.bool false))), none⟩]) (.seq (.reg [⟨(some 3), (.faddr 2 (.t 1)), none⟩, ⟨(some 4), (.load none (.t 3)), none⟩, ⟨(some 5), (.bin .geq .i64 (.t 4) (.c (.int .i64 0))), none⟩, ⟨(some 6), (.mv (.t 5)), none⟩, ⟨(some 7), (.faddr 2 (.t 1)), (some (6, true))⟩, ⟨(some 8), (.load none (.t 7)), (some (6, true))⟩, ⟨(some 9), (.faddr 3 (.t 1)), (some (6, true))⟩, ⟨(some 10), (.load none (.t 9)), (some (6, true))⟩, ⟨(some 11), (.bin .leq .i64 (.t 8) (.t 10)), (some (6, true))⟩, ⟨(some 12), (.pick (.t 6) (.t 11) (.c (.bool false))), none⟩, ⟨(some 13), (.mv (.t 12)), none⟩, ⟨(some 14), (.faddr 3 (.t 1)), (some (13, true))⟩, ⟨(some 15), (.load none (.t 14)), (some (13, true))⟩, ⟨(some 16), (.bin .leq .i64 (.t 15) (.c (.int .i64 1099511627776))), (some (13, true))⟩, ⟨(some 17), (.pick (.t 13) (.t 16) (.c (.bool false))), none⟩, ⟨(some 18), (.mv (.t 17)), none⟩, ⟨(some 19), (.faddr 4 (.t 1)), (some (18, true))⟩, ⟨(some 20), (.load none (.t 19)), (some (18, true))⟩, ⟨(some 21), (.len (.t 20)), (some (18, true))⟩, ⟨(some 22), (.bin .leq .i64 (.t 21) (.c (.int .i64 64))), (some (18, true))⟩, ⟨(some 23), (.pick (.t 18) (.t 22) (.c (.bool false))), none⟩, ⟨(some 2), (.mv (.t 23)), none⟩]) .ret))

set_option maxRecDepth 100000 in
theorem k_may : compileC Try.prog ann (Try.f118.body.getD .skip) = some c_may := by kernel_rfl

theorem s_may {args : List AV} {σ : St} {K : AV → St → Prop} (h : WF σ → T Try.prog ann c_may (Fin σ [(.t 2)] K) (args ++ List.replicate (24 - args.length) (.tup [])) σ) : ACalls Try.prog n_may args σ K :=
  calls_ok Try.func118 (by kernel_rfl) (by kernel_rfl) k_may (by kernel_rfl) (by kernel_rfl) h

abbrev n_nan1 : Nat := 155

def c_nan1 : C := (.seq (.reg [⟨(some 2), (.mv (.c (.bool false))), none⟩]) (.seq (.reg [⟨(some 3), (.mv (.t 0)), none⟩, ⟨(some 4), (.mv (.t 0)), none⟩, ⟨(some 5), (.bin .neq .i64 (.t 3) (.t 4)), none⟩, ⟨(some 2), (.mv (.t 5)), none⟩]) .ret))

set_option maxRecDepth 100000 in
theorem k_nan1 : compileC Try.prog ann (Try.f155.body.getD .skip) = some c_nan1 := by kernel_rfl

theorem s_nan1 {args : List AV} {σ : St} {K : AV → St → Prop} (h : WF σ → T Try.prog ann c_nan1 (Fin σ [(.t 2)] K) (args ++ List.replicate (6 - args.length) (.tup [])) σ) : ACalls Try.prog n_nan1 args σ K :=
  calls_ok Try.func155 (by kernel_rfl) (by kernel_rfl) k_nan1 (by kernel_rfl) (by kernel_rfl) h

abbrev n_nan2 : Nat := 159

def c_nan2 : C := (.seq (.reg [⟨(some 2), (.mv (.c (.bool false))), none⟩]) (.seq (.reg [⟨(some 3), (.mv (.t 0)), none⟩, ⟨(some 4), (.mv (.t 0)), none⟩, ⟨(some 5), (.bin .neq .u64 (.t 3) (.t 4)), none⟩, ⟨(some 2), (.mv (.t 5)), none⟩]) .ret))

set_option maxRecDepth 100000 in
theorem k_nan2 : compileC Try.prog ann (Try.f159.body.getD .skip) = some c_nan2 := by kernel_rfl

theorem s_nan2 {args : List AV} {σ : St} {K : AV → St → Prop} (h : WF σ → T Try.prog ann c_nan2 (Fin σ [(.t 2)] K) (args ++ List.replicate (6 - args.length) (.tup [])) σ) : ACalls Try.prog n_nan2 args σ K :=
  calls_ok Try.func159 (by kernel_rfl) (by kernel_rfl) k_nan2 (by kernel_rfl) (by kernel_rfl) h

abbrev n_cmpi : Nat := 124

def c_cmpi : C := (.seq (.reg [⟨(some 4), (.mv (.c (.int .i64 0))), none⟩]) (.seq (.reg [⟨(some 7), (.mv (.t 0)), none⟩, ⟨(some 8), (.call 155 [(.t 7)]), none⟩, ⟨(some 5), (.mv (.t 8)), none⟩]) (.seq (.reg [⟨(some 9), (.mv (.t 1)), none⟩, ⟨(some 10), (.call 155 [(.t 9)]), none⟩, ⟨(some 6), (.mv (.t 10)), none⟩]) (.seq (.seq (.reg [⟨(some 11), (.mv (.t 5)), none⟩]) (.cond (.t 11) (.seq (.seq (.reg [⟨(some 12), (.mv (.t 6)), none⟩]) (.cond (.t 12) (.seq (.reg [⟨(some 4), (.mv (.c (.int .i64 0))), none⟩]) .ret) .skip)) (.seq (.reg [⟨(some 4), (.mv (.c (.int .i64 (-1)))), none⟩]) .ret)) .skip)) (.seq (.seq (.reg [⟨(some 13), (.mv (.t 6)), none⟩]) (.cond (.t 13) (.seq (.reg [⟨(some 4), (.mv (.c (.int .i64 1))), none⟩]) .ret) .skip)) (.seq (.seq (.reg [⟨(some 14), (.mv (.t 0)), none⟩, ⟨(some 15), (.mv (.t 1)), none⟩, ⟨(some 16), (.bin .lss .i64 (.t 14) (.t 15)), none⟩]) (.cond (.t 16) (.seq (.reg [⟨(some 4), (.mv (.c (.int .i64 (-1)))), none⟩]) .ret) .skip)) (.seq (.seq (.reg [⟨(some 17), (.mv (.t 0)), none⟩, ⟨(some 18), (.mv (.t 1)), none⟩, ⟨(some 19), (.bin .gtr .i64 (.t 17) (.t 18)), none⟩]) (.cond (.t 19) (.seq (.reg [⟨(some 4), (.mv (.c (.int .i64 1))), none⟩]) .ret) .skip)) (.seq (.reg [⟨(some 4), (.mv (.c (.int .i64 0))), none⟩]) .ret))))))))

set_option maxRecDepth 100000 in
theorem k_cmpi : compileC Try.prog ann (Try.f124.body.getD .skip) = some c_cmpi := by kernel_rfl

theorem s_cmpi {args : List AV} {σ : St} {K : AV → St → Prop} (h : WF σ → T Try.prog ann c_cmpi (Fin σ [(.t 4)] K) (args ++ List.replicate (20 - args.length) (.tup [])) σ) : ACalls Try.prog n_cmpi args σ K :=
  calls_ok Try.func124 (by kernel_rfl) (by kernel_rfl) k_cmpi (by kernel_rfl) (by kernel_rfl) h

abbrev n_cmpu : Nat := 129

def c_cmpu : C := (.seq (.reg [⟨(some 4), (.mv (.c (.int .i64 0))), none⟩]) (.seq (.reg [⟨(some 7), (.mv (.t 0)), none⟩, ⟨(some 8), (.call 159 [(.t 7)]), none⟩, ⟨(some 5), (.mv (.t 8)), none⟩]) (.seq (.reg [⟨(some 9), (.mv (.t 1)), none⟩, ⟨(some 10), (.call 159 [(.t 9)]), none⟩, ⟨(some 6), (.mv (.t 10)), none⟩]) (.seq (.seq (.reg [⟨(some 11), (.mv (.t 5)), none⟩]) (.cond (.t 11) (.seq (.seq (.reg [⟨(some 12), (.mv (.t 6)), none⟩]) (.cond (.t 12) (.seq (.reg [⟨(some 4), (.mv (.c (.int .i64 0))), none⟩]) .ret) .skip)) (.seq (.reg [⟨(some 4), (.mv (.c (.int .i64 (-1)))), none⟩]) .ret)) .skip)) (.seq (.seq (.reg [⟨(some 13), (.mv (.t 6)), none⟩]) (.cond (.t 13) (.seq (.reg [⟨(some 4), (.mv (.c (.int .i64 1))), none⟩]) .ret) .skip)) (.seq (.seq (.reg [⟨(some 14), (.mv (.t 0)), none⟩, ⟨(some 15), (.mv (.t 1)), none⟩, ⟨(some 16), (.bin .lss .u64 (.t 14) (.t 15)), none⟩]) (.cond (.t 16) (.seq (.reg [⟨(some 4), (.mv (.c (.int .i64 (-1)))), none⟩]) .ret) .skip)) (.seq (.seq (.reg [⟨(some 17), (.mv (.t 0)), none⟩, ⟨(some 18), (.mv (.t 1)), none⟩, ⟨(some 19), (.bin .gtr .u64 (.t 17) (.t 18)), none⟩]) (.cond (.t 19) (.seq (.reg [⟨(some 4), (.mv (.c (.int .i64 1))), none⟩]) .ret) .skip)) (.seq (.reg [⟨(some 4), (.mv (.c (.int .i64 0))), none⟩]) .ret))))))))

set_option maxRecDepth 100000 in
theorem k_cmpu : compileC Try.prog ann (Try.f129.body.getD .skip) = some c_cmpu := by kernel_rfl

theorem s_cmpu {args : List AV} {σ : St} {K : AV → St → Prop} (h : WF σ → T Try.prog ann c_cmpu (Fin σ [(.t 4)] K) (args ++ List.replicate (20 - args.length) (.tup [])) σ) : ACalls Try.prog n_cmpu args σ K :=
  calls_ok Try.func129 (by kernel_rfl) (by kernel_rfl) k_cmpu (by kernel_rfl) (by kernel_rfl) h

abbrev n_cor : Nat := 122

def c_cor : C := (.seq (.reg [⟨(some 2), (.mv (.c (.int .i64 0))), none⟩]) (.seq (.reg [⟨(some 3), (.mv (.c (.int .i64 0))), none⟩]) (.seq (.seq (.reg [⟨(some 6), (.mv (.t 0)), none⟩, ⟨(some 7), (.len (.t 6)), none⟩, ⟨(some 8), (.mv (.c (.int .i64 0))), none⟩]) (.block 0 (.loop (.seq (.reg [⟨(some 9), (.bin .lss .i64 (.t 8) (.t 7)), none⟩]) (.seq (.cond (.t 9) .skip (.exit 0)) (.seq (.block 1 (.seq (.reg [⟨(some 10), (.iaddr 1 (.t 6) (.t 8)), none⟩, ⟨(some 11), (.load none (.t 10)), none⟩, ⟨(some 5), (.mv (.t 11)), none⟩]) (.seq (.reg [⟨(some 12), (.mv (.t 5)), none⟩, ⟨(some 13), (.mv (.t 3)), none⟩, ⟨(some 14), (.bin .neq .i64 (.t 12) (.t 13)), none⟩]) (.cond (.t 14) (.seq (.reg [⟨(some 15), (.mv (.t 5)), none⟩, ⟨(some 2), (.mv (.t 15)), none⟩]) .ret) .skip)))) (.reg [⟨(some 16), (.bin .add .i64 (.t 8) (.c (.int .i64 1))), none⟩, ⟨(some 8), (.mv (.t 16)), none⟩]))))))) (.seq (.reg [⟨(some 17), (.mv (.t 3)), none⟩, ⟨(some 2), (.mv (.t 17)), none⟩]) .ret))))

set_option maxRecDepth 100000 in
theorem k_cor : compileC Try.prog ann (Try.f122.body.getD .skip) = some c_cor := by kernel_rfl

theorem s_cor {args : List AV} {σ : St} {K : AV → St → Prop} (h : WF σ → T Try.prog ann c_cor (Fin σ [(.t 2)] K) (args ++ List.replicate (18 - args.length) (.tup [])) σ) : ACalls Try.prog n_cor args σ K :=
  calls_ok Try.func122 (by kernel_rfl) (by kernel_rfl) k_cor (by kernel_rfl) (by kernel_rfl) h

abbrev n_scmp : Nat := 80

def c_scmp : C := (.seq (.reg [⟨(some 2), (.box (.t 0)), none⟩, ⟨(some 3), (.box (.t 1)), none⟩, ⟨(some 4), (.mv (.c (.int .i64 0))), none⟩]) (.seq (.reg [⟨(some 5), (.faddr 2 (.t 2)), none⟩, ⟨(some 6), (.load none (.t 5)), none⟩, ⟨(some 7), (.faddr 2 (.t 3)), none⟩, ⟨(some 8), (.load none (.t 7)), none⟩, ⟨(some 9), (.qcall 124 [(.t 6), (.t 8)]), none⟩, ⟨(some 10), (.faddr 1 (.t 2)), none⟩, ⟨(some 11), (.load none (.t 10)), none⟩, ⟨(some 12), (.faddr 1 (.t 3)), none⟩, ⟨(some 13), (.load none (.t 12)), none⟩, ⟨(some 14), (.qcall 129 [(.t 11), (.t 13)]), none⟩, ⟨(some 15), (.faddr 0 (.t 2)), none⟩, ⟨(some 16), (.load none (.t 15)), none⟩, ⟨(some 17), (.faddr 0 (.t 3)), none⟩, ⟨(some 18), (.load none (.t 17)), none⟩, ⟨(some 19), (.qcall 129 [(.t 16), (.t 18)]), none⟩, ⟨(some 20), (.bslice 1 .val [(.t 9), (.t 14), (.t 19)]), none⟩, ⟨(some 21), (.qcall 122 [(.t 20)]), none⟩, ⟨(some 4), (.mv (.t 21)), none⟩]) .ret))

set_option maxRecDepth 100000 in
theorem k_scmp : compileC Try.prog ann (Try.f80.body.getD .skip) = some c_scmp := by kernel_rfl

theorem s_scmp {args : List AV} {σ : St} {K : AV → St → Prop} (h : WF σ → T Try.prog ann c_scmp (Fin σ [(.t 4)] K) (args ++ List.replicate (22 - args.length) (.tup [])) σ) : ACalls Try.prog n_scmp args σ K :=
  calls_ok Try.func80 (by kernel_rfl) (by kernel_rfl) k_scmp (by kernel_rfl) (by kernel_rfl) h

abbrev n_one : Nat := 107

def c_one : C := (.seq (.reg [⟨(some 1), (.box (.t 0)), none⟩, ⟨(some 2), (.mv (.c (.bool false))), none⟩]) (.seq (.reg [⟨(some 6), .mkMap, none⟩, ⟨(some 3), (.mv (.t 6)), none⟩]) (.seq (.seq (.reg [⟨(some 7), (.faddr 1 (.t 1)), none⟩, ⟨(some 8), (.load none (.t 7)), none⟩, ⟨(some 9), (.len (.t 8)), none⟩, ⟨(some 10), (.mv (.c (.int .i64 0))), none⟩]) (.block 0 (.loop (.seq (.reg [⟨(some 11), (.bin .lss .i64 (.t 10) (.t 9)), none⟩]) (.seq (.cond (.t 11) .skip (.exit 0)) (.seq (.block 1 (.seq (.reg [⟨(some 12), (.mv (.t 10)), none⟩, ⟨(some 13), (.iaddr 5 (.t 8) (.t 10)), none⟩, ⟨(some 14), (.load (some 5) (.t 13)), none⟩, ⟨(some 5), (.alloc [(.int .u64 0), (.int .u64 0), (.int .i64 0), (.int .i64 0), (.sl [] .nil)]), none⟩, ⟨(some 4), (.mv (.t 12)), none⟩, ⟨none, (.store 5 (.t 5) (.t 14)), none⟩]) (.seq (.seq (.reg [⟨(some 15), (.faddr 0 (.t 5)), none⟩, ⟨(some 16), (.load none (.t 15)), none⟩, ⟨(some 17), (.faddr 0 (.t 1)), none⟩, ⟨(some 18), (.load none (.t 17)), none⟩, ⟨(some 19), (.bin .neq .u64 (.t 16) (.t 18)), none⟩, ⟨(some 20), (.mv (.t 19)), none⟩, ⟨(some 21), (.load (some 5) (.t 5)), (some (20, false))⟩, ⟨(some 22), (.qcall 118 [(.t 21)]), (some (20, false))⟩, ⟨(some 23), (.not (.t 22)), (some (20, false))⟩, ⟨(some 24), (.pick (.t 20) (.c (.bool true)) (.t 23)), none⟩, ⟨(some 25), (.mv (.t 24)), none⟩, ⟨(some 26), (.mv (.t 3)), (some (25, false))⟩, ⟨(some 27), (.faddr 1 (.t 5)), (some (25, false))⟩, ⟨(some 28), (.load none (.t 27)), (some (25, false))⟩, ⟨(some 29), (.look 0 (.bool false) false (.t 26) (.t 28)), (some (25, false))⟩, ⟨(some 30), (.pick (.t 25) (.c (.bool true)) (.t 29)), none⟩, ⟨(some 31), (.mv (.t 30)), none⟩, ⟨(some 32), (.mv (.t 4)), (some (31, false))⟩, ⟨(some 33), (.bin .gtr .i64 (.t 32) (.c (.int .i64 0))), (some (31, false))⟩, ⟨(some 34), (.mv (.t 33)), (some (31, false))⟩, ⟨(some 35), (.faddr 1 (.t 1)), (some (34, true))⟩, ⟨(some 36), (.load none (.t 35)), (some (34, true))⟩, ⟨(some 37), (.mv (.t 4)), (some (34, true))⟩, ⟨(some 38), (.bin .sub .i64 (.t 37) (.c (.int .i64 1))), (some (34, true))⟩, ⟨(some 39), (.iaddr 5 (.t 36) (.t 38)), (some (34, true))⟩, ⟨(some 40), (.load (some 5) (.t 39)), (some (34, true))⟩, ⟨(some 41), (.load (some 5) (.t 5)), (some (34, true))⟩, ⟨(some 42), (.qcall 80 [(.t 40), (.t 41)]), (some (34, true))⟩, ⟨(some 43), (.bin .geq .i64 (.t 42) (.c (.int .i64 0))), (some (34, true))⟩, ⟨(some 44), (.pick (.t 34) (.t 43) (.c (.bool false))), (some (31, false))⟩, ⟨(some 45), (.pick (.t 31) (.c (.bool true)) (.t 44)), none⟩]) (.cond (.t 45) (.seq (.reg [⟨(some 2), (.mv (.c (.bool false))), none⟩]) .ret) .skip)) (.reg [⟨(some 46), (.mv (.t 3)), none⟩, ⟨(some 47), (.faddr 1 (.t 5)), none⟩, ⟨(some 48), (.load none (.t 47)), none⟩, ⟨none, (.mapUp 0 (.t 46) (.t 48) (.c (.bool true))), none⟩])))) (.reg [⟨(some 49), (.bin .add .i64 (.t 10) (.c (.int .i64 1))), none⟩, ⟨(some 10), (.mv (.t 49)), none⟩]))))))) (.seq (.reg [⟨(some 50), (.faddr 1 (.t 1)), none⟩, ⟨(some 51), (.load none (.t 50)), none⟩, ⟨(some 52), (.len (.t 51)), none⟩, ⟨(some 53), (.bin .geq .i64 (.t 52) (.c (.int .i64 1))), none⟩, ⟨(some 54), (.mv (.t 53)), none⟩, ⟨(some 55), (.faddr 1 (.t 1)), (some (54, true))⟩, ⟨(some 56), (.load none (.t 55)), (some (54, true))⟩, ⟨(some 57), (.len (.t 56)), (some (54, true))⟩, ⟨(some 58), (.bin .leq .i64 (.t 57) (.c (.int .i64 100))), (some (54, true))⟩, ⟨(some 59), (.pick (.t 54) (.t 58) (.c (.bool false))), none⟩, ⟨(some 2), (.mv (.t 59)), none⟩]) .ret))))

set_option maxRecDepth 100000 in
theorem k_one : compileC Try.prog ann (Try.f107.body.getD .skip) = some c_one := by kernel_rfl

theorem s_one {args : List AV} {σ : St} {K : AV → St → Prop} (h : WF σ → T Try.prog ann c_one (Fin σ [(.t 2)] K) (args ++ List.replicate (60 - args.length) (.tup [])) σ) : ACalls Try.prog n_one args σ K :=
  calls_ok Try.func107 (by kernel_rfl) (by kernel_rfl) k_one (by kernel_rfl) (by kernel_rfl) h

abbrev n_is : Nat := 61

def c_is : C := (.seq (.reg [⟨(some 2), (.mv (.c (.bool false))), none⟩]) (.seq (.seq (.reg [⟨(some 5), (.mv (.t 0)), none⟩, ⟨(some 6), (.len (.t 5)), none⟩, ⟨(some 7), (.mv (.c (.int .i64 0))), none⟩]) (.block 0 (.loop (.seq (.reg [⟨(some 8), (.bin .lss .i64 (.t 7) (.t 6)), none⟩]) (.seq (.cond (.t 8) .skip (.exit 0)) (.seq (.block 1 (.seq (.reg [⟨(some 9), (.mv (.t 7)), none⟩, ⟨(some 10), (.iaddr 2 (.t 5) (.t 7)), none⟩, ⟨(some 11), (.load (some 2) (.t 10)), none⟩, ⟨(some 4), (.alloc [(.int .u64 0), (.sl [] .nil)]), none⟩, ⟨(some 3), (.mv (.t 9)), none⟩, ⟨none, (.store 2 (.t 4) (.t 11)), none⟩]) (.seq (.reg [⟨(some 12), (.load (some 2) (.t 4)), none⟩, ⟨(some 13), (.qcall 107 [(.t 12)]), none⟩, ⟨(some 14), (.not (.t 13)), none⟩, ⟨(some 15), (.mv (.t 14)), none⟩, ⟨(some 16), (.mv (.t 3)), (some (15, false))⟩, ⟨(some 17), (.bin .gtr .i64 (.t 16) (.c (.int .i64 0))), (some (15, false))⟩, ⟨(some 18), (.mv (.t 17)), (some (15, false))⟩, ⟨(some 19), (.mv (.t 0)), (some (18, true))⟩, ⟨(some 20), (.mv (.t 3)), (some (18, true))⟩, ⟨(some 21), (.bin .sub .i64 (.t 20) (.c (.int .i64 1))), (some (18, true))⟩, ⟨(some 22), (.iaddr 2 (.t 19) (.t 21)), (some (18, true))⟩, ⟨(some 23), (.faddr 0 (.t 22)), (some (18, true))⟩, ⟨(some 24), (.load none (.t 23)), (some (18, true))⟩, ⟨(some 25), (.faddr 0 (.t 4)), (some (18, true))⟩, ⟨(some 26), (.load none (.t 25)), (some (18, true))⟩, ⟨(some 27), (.bin .geq .u64 (.t 24) (.t 26)), (some (18, true))⟩, ⟨(some 28), (.pick (.t 18) (.t 27) (.c (.bool false))), (some (15, false))⟩, ⟨(some 29), (.pick (.t 15) (.c (.bool true)) (.t 28)), none⟩]) (.cond (.t 29) (.seq (.reg [⟨(some 2), (.mv (.c (.bool false))), none⟩]) .ret) .skip)))) (.reg [⟨(some 30), (.bin .add .i64 (.t 7) (.c (.int .i64 1))), none⟩, ⟨(some 7), (.mv (.t 30)), none⟩]))))))) (.seq (.reg [⟨(some 2), (.mv (.c (.bool true))), none⟩]) .ret)))

set_option maxRecDepth 100000 in
theorem k_is : compileC Try.prog ann (Try.f61.body.getD .skip) = some c_is := by kernel_rfl

theorem s_is {args : List AV} {σ : St} {K : AV → St → Prop} (h : WF σ → T Try.prog ann c_is (Fin σ [(.t 2)] K) (args ++ List.replicate (31 - args.length) (.tup [])) σ) : ACalls Try.prog n_is args σ K :=
  calls_ok Try.func61 (by kernel_rfl) (by kernel_rfl) k_is (by kernel_rfl) (by kernel_rfl) h

abbrev n_rsame : Nat := 83

def c_rsame : C := (.seq (.reg [⟨(some 2), (.box (.t 0)), none⟩, ⟨(some 3), (.box (.t 1)), none⟩, ⟨(some 4), (.mv (.c (.bool false))), none⟩]) (.seq (.reg [⟨(some 5), (.faddr 0 (.t 2)), none⟩, ⟨(some 6), (.load none (.t 5)), none⟩, ⟨(some 7), (.faddr 0 (.t 3)), none⟩, ⟨(some 8), (.load none (.t 7)), none⟩, ⟨(some 9), (.bin .eql .u64 (.t 6) (.t 8)), none⟩, ⟨(some 10), (.mv (.t 9)), none⟩, ⟨(some 11), (.faddr 1 (.t 2)), (some (10, true))⟩, ⟨(some 12), (.load none (.t 11)), (some (10, true))⟩, ⟨(some 13), (.faddr 1 (.t 3)), (some (10, true))⟩, ⟨(some 14), (.load none (.t 13)), (some (10, true))⟩, ⟨(some 15), (.bin .eql .u64 (.t 12) (.t 14)), (some (10, true))⟩, ⟨(some 16), (.pick (.t 10) (.t 15) (.c (.bool false))), none⟩, ⟨(some 17), (.mv (.t 16)), none⟩, ⟨(some 18), (.faddr 2 (.t 2)), (some (17, true))⟩, ⟨(some 19), (.load none (.t 18)), (some (17, true))⟩, ⟨(some 20), (.faddr 2 (.t 3)), (some (17, true))⟩, ⟨(some 21), (.load none (.t 20)), (some (17, true))⟩, ⟨(some 22), (.bin .eql .i64 (.t 19) (.t 21)), (some (17, true))⟩, ⟨(some 23), (.pick (.t 17) (.t 22) (.c (.bool false))), none⟩, ⟨(some 24), (.mv (.t 23)), none⟩, ⟨(some 25), (.faddr 3 (.t 2)), (some (24, true))⟩, ⟨(some 26), (.load none (.t 25)), (some (24, true))⟩, ⟨(some 27), (.faddr 3 (.t 3)), (some (24, true))⟩, ⟨(some 28), (.load none (.t 27)), (some (24, true))⟩, ⟨(some 29), (.bin .eql .i64 (.t 26) (.t 28)), (some (24, true))⟩, ⟨(some 30), (.pick (.t 24) (.t 29) (.c (.bool false))), none⟩, ⟨(some 31), (.mv (.t 30)), none⟩, ⟨(some 32), (.faddr 4 (.t 2)), (some (31, true))⟩, ⟨(some 33), (.load none (.t 32)), (some (31, true))⟩, ⟨(some 34), (.convBS (.t 33)), (some (31, true))⟩, ⟨(some 35), (.faddr 4 (.t 3)), (some (31, true))⟩, ⟨(some 36), (.load none (.t 35)), (some (31, true))⟩, ⟨(some 37), (.convBS (.t 36)), (some (31, true))⟩, ⟨(some 38), (.sbin .eql (.t 34) (.t 37)), (some (31, true))⟩, ⟨(some 39), (.pick (.t 31) (.t 38) (.c (.bool false))), none⟩, ⟨(some 4), (.mv (.t 39)), none⟩]) .ret))

set_option maxRecDepth 100000 in
theorem k_rsame : compileC Try.prog ann (Try.f83.body.getD .skip) = some c_rsame := by kernel_rfl

theorem s_rsame {args : List AV} {σ : St} {K : AV → St → Prop} (h : WF σ → T Try.prog ann c_rsame (Fin σ [(.t 4)] K) (args ++ List.replicate (40 - args.length) (.tup [])) σ) : ACalls Try.prog n_rsame args σ K :=
  calls_ok Try.func83 (by kernel_rfl) (by kernel_rfl) k_rsame (by kernel_rfl) (by kernel_rfl) h

abbrev n_rless : Nat := 29

def c_rless : C := (.seq (.reg [⟨(some 2), (.box (.t 0)), none⟩, ⟨(some 3), (.box (.t 1)), none⟩, ⟨(some 4), (.mv (.c (.bool false))), none⟩]) (.seq (.seq (.reg [⟨(some 5), (.faddr 2 (.t 2)), none⟩, ⟨(some 6), (.load none (.t 5)), none⟩, ⟨(some 7), (.faddr 2 (.t 3)), none⟩, ⟨(some 8), (.load none (.t 7)), none⟩, ⟨(some 9), (.bin .neq .i64 (.t 6) (.t 8)), none⟩]) (.cond (.t 9) (.seq (.reg [⟨(some 10), (.faddr 2 (.t 2)), none⟩, ⟨(some 11), (.load none (.t 10)), none⟩, ⟨(some 12), (.faddr 2 (.t 3)), none⟩, ⟨(some 13), (.load none (.t 12)), none⟩, ⟨(some 14), (.bin .lss .i64 (.t 11) (.t 13)), none⟩, ⟨(some 4), (.mv (.t 14)), none⟩]) .ret) .skip)) (.seq (.seq (.reg [⟨(some 15), (.faddr 3 (.t 2)), none⟩, ⟨(some 16), (.load none (.t 15)), none⟩, ⟨(some 17), (.faddr 3 (.t 3)), none⟩, ⟨(some 18), (.load none (.t 17)), none⟩, ⟨(some 19), (.bin .neq .i64 (.t 16) (.t 18)), none⟩]) (.cond (.t 19) (.seq (.reg [⟨(some 20), (.faddr 3 (.t 2)), none⟩, ⟨(some 21), (.load none (.t 20)), none⟩, ⟨(some 22), (.faddr 3 (.t 3)), none⟩, ⟨(some 23), (.load none (.t 22)), none⟩, ⟨(some 24), (.bin .lss .i64 (.t 21) (.t 23)), none⟩, ⟨(some 4), (.mv (.t 24)), none⟩]) .ret) .skip)) (.seq (.reg [⟨(some 25), (.faddr 4 (.t 2)), none⟩, ⟨(some 26), (.load none (.t 25)), none⟩, ⟨(some 27), (.convBS (.t 26)), none⟩, ⟨(some 28), (.faddr 4 (.t 3)), none⟩, ⟨(some 29), (.load none (.t 28)), none⟩, ⟨(some 30), (.convBS (.t 29)), none⟩, ⟨(some 31), (.sbin .lss (.t 27) (.t 30)), none⟩, ⟨(some 4), (.mv (.t 31)), none⟩]) .ret))))

set_option maxRecDepth 100000 in
theorem k_rless : compileC Try.prog ann (Try.f29.body.getD .skip) = some c_rless := by kernel_rfl

theorem s_rless {args : List AV} {σ : St} {K : AV → St → Prop} (h : WF σ → T Try.prog ann c_rless (Fin σ [(.t 4)] K) (args ++ List.replicate (32 - args.length) (.tup [])) σ) : ACalls Try.prog n_rless args σ K :=
  calls_ok Try.func29 (by kernel_rfl) (by kernel_rfl) k_rless (by kernel_rfl) (by kernel_rfl) h

abbrev n_rspans : Nat := 30

def c_rspans : C := (.seq (.reg [⟨(some 4), (.mv (.c (.bool false))), none⟩]) (.seq (.seq (.reg [⟨(some 7), (.mv (.t 0)), none⟩, ⟨(some 8), (.len (.t 7)), none⟩, ⟨(some 9), (.mv (.t 1)), none⟩, ⟨(some 10), (.len (.t 9)), none⟩, ⟨(some 11), (.bin .neq .i64 (.t 8) (.t 10)), none⟩]) (.cond (.t 11) (.seq (.reg [⟨(some 4), (.mv (.c (.bool false))), none⟩]) .ret) .skip)) (.seq (.seq (.reg [⟨(some 5), (.mv (.c (.int .i64 0))), none⟩]) (.block 0 (.loop (.seq (.seq (.reg [⟨(some 12), (.mv (.t 5)), none⟩, ⟨(some 13), (.mv (.t 0)), none⟩, ⟨(some 14), (.len (.t 13)), none⟩, ⟨(some 15), (.bin .lss .i64 (.t 12) (.t 14)), none⟩]) (.cond (.t 15) .skip (.exit 0))) (.seq (.block 1 (.seq (.reg [⟨(some 18), (.mv (.t 0)), none⟩, ⟨(some 19), (.mv (.t 5)), none⟩, ⟨(some 20), (.iaddr 5 (.t 18) (.t 19)), none⟩, ⟨(some 21), (.load (some 5) (.t 20)), none⟩, ⟨(some 22), (.mv (.t 1)), none⟩, ⟨(some 23), (.mv (.t 5)), none⟩, ⟨(some 24), (.iaddr 5 (.t 22) (.t 23)), none⟩, ⟨(some 25), (.load (some 5) (.t 24)), none⟩, ⟨(some 26), (.qcall 83 [(.t 21), (.t 25)]), none⟩, ⟨(some 6), (.mv (.t 26)), none⟩]) (.seq (.reg [⟨(some 27), (.mv (.t 6)), none⟩, ⟨(some 28), (.not (.t 27)), none⟩]) (.cond (.t 28) (.seq (.reg [⟨(some 4), (.mv (.c (.bool false))), none⟩]) .ret) .skip)))) (.reg [⟨(some 16), (.mv (.t 5)), none⟩, ⟨(some 17), (.bin .add .i64 (.t 16) (.c (.int .i64 1))), none⟩, ⟨(some 5), (.mv (.t 17)), none⟩])))))) (.seq (.reg [⟨(some 4), (.mv (.c (.bool true))), none⟩]) .ret))))

set_option maxRecDepth 100000 in
theorem k_rspans : compileC Try.prog ann (Try.f30.body.getD .skip) = some c_rspans := by kernel_rfl

theorem s_rspans {args : List AV} {σ : St} {K : AV → St → Prop} (h : WF σ → T Try.prog ann c_rspans (Fin σ [(.t 4)] K) (args ++ List.replicate (29 - args.length) (.tup [])) σ) : ACalls Try.prog n_rspans args σ K :=
  calls_ok Try.func30 (by kernel_rfl) (by kernel_rfl) k_rspans (by kernel_rfl) (by kernel_rfl) h

end Go.VL

namespace Go.VL

open Go.Proofs

/-- a span -/
structure Sp where
  tr : Nat
  id : Nat
  st : Int
  en : Int
  da : List UInt8
  deriving DecidableEq

def Sp.av (s : Sp) : AV := .agg [.int .u64 (s.tr : Int), .int .u64 (s.id : Int), .int .i64 s.st, .int .i64 s.en, .sl (bytesAV s.da) .none]

/-- a trace -/
structure Tc where
  id : Nat
  sp : List Sp
  deriving DecidableEq

def Tc.av (t : Tc) : AV := .agg [.int .u64 (t.id : Int), .sl (t.sp.map Sp.av) .none]

def spsAV (l : List Sp) : List AV := l.map Sp.av

def tcsAV (l : List Tc) : List AV := l.map Tc.av

theorem sps_len (l : List Sp) : (spsAV l).length = l.length := by simp [spsAV]

theorem tcs_len (l : List Tc) : (tcsAV l).length = l.length := by simp [tcsAV]

theorem sps_get {l : List Sp} {i : Nat} (h : i < l.length) : (spsAV l)[i]? = some (l[i].av) := by simp [spsAV, h]

theorem tcs_get {l : List Tc} {i : Nat} (h : i < l.length) : (tcsAV l)[i]? = some (l[i].av) := by simp [tcsAV, h]

theorem spcells (s : Sp) : s.av.cells = [.int .u64 (s.tr : Int), .int .u64 (s.id : Int), .int .i64 s.st, .int .i64 s.en, .sl (bytesAV s.da) .none] := rfl

theorem tccells (t : Tc) : t.av.cells = [.int .u64 (t.id : Int), .sl (spsAV t.sp) .none] := rfl

theorem inc64 {i n : Nat} (h : i < n) (hn : n ≤ 9223372036854775807) : IntKind.i64.wrap ((i : Int) + 1) = ((i + 1 : Nat) : Int) := by
  rw [wrap64 (by omega) (by omega)]; rfl

def fewB (m : Int) (l : List Sp) : Bool := l.all (fun s => decide (s.da.length ≤ 200)) && decide ((l.length : Int) ≤ m)

theorem take_all {α : Type} {p : α → Bool} {l : List α} {i : Nat} (hi : i < l.length) (h : (l.take i).all p = true) (hp : p l[i] = true) : (l.take (i + 1)).all p = true := by
  rw [List.take_succ_eq_append_getElem hi, List.all_append, h]
  simp [hp]

theorem all_ff {α : Type} {p : α → Bool} {l : List α} {i : Nat} (hi : i < l.length) (hp : p l[i] = false) : l.all p = false := by
  rw [Bool.eq_false_iff]
  intro h
  have := List.all_eq_true.1 h l[i] (List.getElem_mem hi)
  rw [hp] at this; cases this

theorem few_ok {l : List Sp} {g : Ver} {m : Int} {σ : St} (hl : l.length ≤ 9223372036854775807) : ACalls Try.prog n_few [.sl (spsAV l) g, .int .i64 m] σ (fun v σ' => v = .bool (fewB m l) ∧ σ' = σ) := by
  refine s_few (fun wf => ?_)
  unfold c_few
  refine T.seq_k (fun K_h1 h1 => ?_)
  refine T.regi hm ?_
  simp only [↓reduceIte, namesOf, List.any, I.names, aops, aopsI, aopsT, qstep, CPt, qget, Tbl.get, astep, ev, setd, List.set, List.getD, List.getElem?_cons_zero, List.getElem?_cons_succ, List.getElem?_nil, List.cons_append, List.nil_append, List.length_cons, List.length_nil, List.replicate, then_normal, inBlock_normal, Option.getD_some, Option.getD_none, Bool.or_false, Bool.or_true, Bool.true_or, Bool.false_or, Bool.false_eq_true, if_false, if_true, up_zero, Nat.reduceAdd, Nat.reduceSub, binv, ↓opt_def, AV.isAny, AV.cells, ldc, List.map_cons, List.map_nil, St.set_next, St.set_same, St.up_next, Int.natCast_nonneg, lt_len, le_len, Int.toNat_natCast, true_and, and_true, eq_self, reduceCtorEq, decide_true, List.length_singleton, er_int, er_bool, er_str]
  refine h1 _ _ ?_
  try clear h1 K_h1
  refine T.seq_k (fun K_h1 h1 => ?_)
  refine T.seq_k (fun K_h2 h2 => ?_)
  refine T.regi hm ?_
  simp only [↓reduceIte, namesOf, List.any, I.names, aops, aopsI, aopsT, qstep, CPt, qget, Tbl.get, astep, ev, setd, List.set, List.getD, List.getElem?_cons_zero, List.getElem?_cons_succ, List.getElem?_nil, List.cons_append, List.nil_append, List.length_cons, List.length_nil, List.replicate, then_normal, inBlock_normal, Option.getD_some, Option.getD_none, Bool.or_false, Bool.or_true, Bool.true_or, Bool.false_or, Bool.false_eq_true, if_false, if_true, up_zero, Nat.reduceAdd, Nat.reduceSub, binv, ↓opt_def, AV.isAny, AV.cells, ldc, List.map_cons, List.map_nil, St.set_next, St.set_same, St.up_next, Int.natCast_nonneg, lt_len, le_len, Int.toNat_natCast, true_and, and_true, eq_self, reduceCtorEq, decide_true, List.length_singleton, er_int, er_bool, er_str]
  refine h2 _ _ ?_
  try clear h2 K_h2
  refine T.block ?_
  refine T.gh (Gh.keep [0, 1, 5]) ?_
  refine T.loopi (fun i ρ σ' => σ' = σ ∧ (l.take i).all (fun s => decide (s.da.length ≤ 200)) = true ∧ ρ = [.sl (spsAV l) g, .int .i64 m, .any, .any, .any, .int .i64 (i : Int)] ++ List.replicate 17 .any)
    l.length 0 (Nat.zero_le _) ⟨rfl, by simp, rfl⟩ ?_
  rintro i ρ σ' hi ⟨rfl, hpre, rfl⟩
  refine T.seq_k (fun K_h2 h2 => ?_)
  refine T.seq_k (fun K_h3 h3 => ?_)
  refine T.regi hm ?_
  simp only [↓reduceIte, namesOf, List.any, I.names, aops, aopsI, aopsT, qstep, CPt, qget, Tbl.get, astep, ev, setd, List.set, List.getD, List.getElem?_cons_zero, List.getElem?_cons_succ, List.getElem?_nil, List.cons_append, List.nil_append, List.length_cons, List.length_nil, List.replicate, then_normal, inBlock_normal, Option.getD_some, Option.getD_none, Bool.or_false, Bool.or_true, Bool.true_or, Bool.false_or, Bool.false_eq_true, if_false, if_true, up_zero, Nat.reduceAdd, Nat.reduceSub, binv, ↓opt_def, AV.isAny, AV.cells, ldc, List.map_cons, List.map_nil, St.set_next, St.set_same, St.up_next, Int.natCast_nonneg, lt_len, le_len, Int.toNat_natCast, true_and, and_true, eq_self, reduceCtorEq, decide_true, List.length_singleton, er_int, er_bool, er_str]
  refine h3 _ _ ?_
  try clear h3 K_h3
  refine T.cond rfl (fun hb => ?_) (fun hb => ?_)
  · refine T.skip ?_
    refine h2 _ _ ?_
    try clear h2 K_h2
    have hil : i < l.length := by simpa [sps_len] using hb
    clear hb
    refine T.seq_k (fun K_h2 h2 => ?_)
    refine T.block ?_
    refine T.seq_k (fun K_h3 h3 => ?_)
    refine T.regi hm ?_
    simp only [↓reduceIte, namesOf, List.any, I.names, aops, aopsI, aopsT, qstep, CPt, qget, Tbl.get, astep, ev, setd, List.set, List.getD, List.getElem?_cons_zero, List.getElem?_cons_succ, List.getElem?_nil, List.cons_append, List.nil_append, List.length_cons, List.length_nil, List.replicate, then_normal, inBlock_normal, Option.getD_some, Option.getD_none, Bool.or_false, Bool.or_true, Bool.true_or, Bool.false_or, Bool.false_eq_true, if_false, if_true, up_zero, Nat.reduceAdd, Nat.reduceSub, binv, ↓opt_def, AV.isAny, AV.cells, ldc, List.map_cons, List.map_nil, St.set_next, St.set_same, St.up_next, Int.natCast_nonneg, lt_len, le_len, Int.toNat_natCast, true_and, and_true, eq_self, reduceCtorEq, decide_true, List.length_singleton, er_int, er_bool, er_str, sps_len, sps_get hil, hil, spcells, bytesAV_len]
    refine h3 _ _ ?_
    try clear h3 K_h3
    refine T.cond rfl (fun hb => ?_) (fun hb => ?_)
    · refine T.seq_k (fun K_h3 h3 => ?_)
      refine T.regi hm ?_
      simp only [↓reduceIte, namesOf, List.any, I.names, aops, aopsI, aopsT, qstep, CPt, qget, Tbl.get, astep, ev, setd, List.set, List.getD, List.getElem?_cons_zero, List.getElem?_cons_succ, List.getElem?_nil, List.cons_append, List.nil_append, List.length_cons, List.length_nil, List.replicate, then_normal, inBlock_normal, Option.getD_some, Option.getD_none, Bool.or_false, Bool.or_true, Bool.true_or, Bool.false_or, Bool.false_eq_true, if_false, if_true, up_zero, Nat.reduceAdd, Nat.reduceSub, binv, ↓opt_def, AV.isAny, AV.cells, ldc, List.map_cons, List.map_nil, St.set_next, St.set_same, St.up_next, Int.natCast_nonneg, lt_len, le_len, Int.toNat_natCast, true_and, and_true, eq_self, reduceCtorEq, decide_true, List.length_singleton, er_int, er_bool, er_str]
      refine h3 _ _ ?_
      try clear h3 K_h3
      refine T.ret (Fin.ret rfl ⟨?_, rfl⟩)
      have : fewB m l = false := by
        unfold fewB
        rw [all_ff hil (by simp [bytesAV_len] at hb ⊢; omega)]; rfl
      rw [this]; rfl
    · refine T.skip ?_
      refine h2 _ _ ?_
      try clear h2 K_h2
      have hw := inc64 hil hl
      refine T.regi hm ?_
      simp only [↓reduceIte, namesOf, List.any, I.names, aops, aopsI, aopsT, qstep, CPt, qget, Tbl.get, astep, ev, setd, List.set, List.getD, List.getElem?_cons_zero, List.getElem?_cons_succ, List.getElem?_nil, List.cons_append, List.nil_append, List.length_cons, List.length_nil, List.replicate, then_normal, inBlock_normal, Option.getD_some, Option.getD_none, Bool.or_false, Bool.or_true, Bool.true_or, Bool.false_or, Bool.false_eq_true, if_false, if_true, up_zero, Nat.reduceAdd, Nat.reduceSub, binv, ↓opt_def, AV.isAny, AV.cells, ldc, List.map_cons, List.map_nil, St.set_next, St.set_same, St.up_next, Int.natCast_nonneg, lt_len, le_len, Int.toNat_natCast, true_and, and_true, eq_self, reduceCtorEq, decide_true, List.length_singleton, er_int, er_bool, er_str, hw]
      exact ⟨hil, _, _, Gh.keep [0, 1, 5], rfl, take_all hil hpre (by simp [bytesAV_len] at hb ⊢; omega), rfl⟩
  · refine T.exit ?_
    have : i = l.length := by simp [sps_len] at hb; omega
    subst this
    rw [List.take_length] at hpre
    try simp only [↓reduceIte, namesOf, List.any, I.names, aops, aopsI, aopsT, qstep, CPt, qget, Tbl.get, astep, ev, setd, List.set, List.getD, List.getElem?_cons_zero, List.getElem?_cons_succ, List.getElem?_nil, List.cons_append, List.nil_append, List.length_cons, List.length_nil, List.replicate, then_normal, inBlock_normal, Option.getD_some, Option.getD_none, Bool.or_false, Bool.or_true, Bool.true_or, Bool.false_or, Bool.false_eq_true, if_false, if_true, up_zero, Nat.reduceAdd, Nat.reduceSub, binv, ↓opt_def, AV.isAny, AV.cells, ldc, List.map_cons, List.map_nil, St.set_next, St.set_same, St.up_next, Int.natCast_nonneg, lt_len, le_len, Int.toNat_natCast, true_and, and_true, eq_self, reduceCtorEq, decide_true, List.length_singleton, er_int, er_bool, er_str, inBlock_exit, then_exit]
    refine h1 _ _ ?_
    try clear h1 K_h1
    refine T.seq_k (fun K_h1 h1 => ?_)
    refine T.regi hm ?_
    simp only [↓reduceIte, namesOf, List.any, I.names, aops, aopsI, aopsT, qstep, CPt, qget, Tbl.get, astep, ev, setd, List.set, List.getD, List.getElem?_cons_zero, List.getElem?_cons_succ, List.getElem?_nil, List.cons_append, List.nil_append, List.length_cons, List.length_nil, List.replicate, then_normal, inBlock_normal, Option.getD_some, Option.getD_none, Bool.or_false, Bool.or_true, Bool.true_or, Bool.false_or, Bool.false_eq_true, if_false, if_true, up_zero, Nat.reduceAdd, Nat.reduceSub, binv, ↓opt_def, AV.isAny, AV.cells, ldc, List.map_cons, List.map_nil, St.set_next, St.set_same, St.up_next, Int.natCast_nonneg, lt_len, le_len, Int.toNat_natCast, true_and, and_true, eq_self, reduceCtorEq, decide_true, List.length_singleton, er_int, er_bool, er_str, sps_len]
    refine h1 _ _ ?_
    try clear h1 K_h1
    refine T.ret (Fin.ret rfl ⟨?_, rfl⟩)
    unfold fewB; rw [hpre]; rfl

end Go.VL

namespace Go.VL

open Go.Proofs

/-! ### Comparing -/

def cmp3 (a b : Int) : Int := if a < b then -1 else if b < a then 1 else 0

theorem nan1_ok {a : Int} {σ : St} : ACalls Try.prog n_nan1 [.int .i64 a] σ (fun v σ' => v = .bool false ∧ σ' = σ) := by
  refine s_nan1 (fun wf => ?_)
  unfold c_nan1
  refine T.seq_k (fun K_h1 h1 => ?_)
  refine T.regi hm ?_
  simp only [↓reduceIte, namesOf, List.any, I.names, aops, aopsI, aopsT, qstep, CPt, qget, Tbl.get, astep, ev, setd, List.set, List.getD, List.getElem?_cons_zero, List.getElem?_cons_succ, List.getElem?_nil, List.cons_append, List.nil_append, List.length_cons, List.length_nil, List.replicate, then_normal, inBlock_normal, Option.getD_some, Option.getD_none, Bool.or_false, Bool.or_true, Bool.true_or, Bool.false_or, Bool.false_eq_true, if_false, if_true, up_zero, Nat.reduceAdd, Nat.reduceSub, binv, ↓opt_def, AV.isAny, AV.cells, ldc, List.map_cons, List.map_nil, St.set_next, St.set_same, St.up_next, Int.natCast_nonneg, lt_len, le_len, Int.toNat_natCast, true_and, and_true, eq_self, reduceCtorEq, decide_true, List.length_singleton, er_int, er_bool, er_str]
  refine h1 _ _ ?_
  try clear h1 K_h1
  refine T.seq_k (fun K_h1 h1 => ?_)
  refine T.regi hm ?_
  simp only [↓reduceIte, namesOf, List.any, I.names, aops, aopsI, aopsT, qstep, CPt, qget, Tbl.get, astep, ev, setd, List.set, List.getD, List.getElem?_cons_zero, List.getElem?_cons_succ, List.getElem?_nil, List.cons_append, List.nil_append, List.length_cons, List.length_nil, List.replicate, then_normal, inBlock_normal, Option.getD_some, Option.getD_none, Bool.or_false, Bool.or_true, Bool.true_or, Bool.false_or, Bool.false_eq_true, if_false, if_true, up_zero, Nat.reduceAdd, Nat.reduceSub, binv, ↓opt_def, AV.isAny, AV.cells, ldc, List.map_cons, List.map_nil, St.set_next, St.set_same, St.up_next, Int.natCast_nonneg, lt_len, le_len, Int.toNat_natCast, true_and, and_true, eq_self, reduceCtorEq, decide_true, List.length_singleton, er_int, er_bool, er_str, bne_self_eq_false]
  refine h1 _ _ ?_
  try clear h1 K_h1
  exact T.ret (Fin.ret rfl ⟨rfl, rfl⟩)

theorem nan2_ok {a : Int} {σ : St} : ACalls Try.prog n_nan2 [.int .u64 a] σ (fun v σ' => v = .bool false ∧ σ' = σ) := by
  refine s_nan2 (fun wf => ?_)
  unfold c_nan2
  refine T.seq_k (fun K_h1 h1 => ?_)
  refine T.regi hm ?_
  simp only [↓reduceIte, namesOf, List.any, I.names, aops, aopsI, aopsT, qstep, CPt, qget, Tbl.get, astep, ev, setd, List.set, List.getD, List.getElem?_cons_zero, List.getElem?_cons_succ, List.getElem?_nil, List.cons_append, List.nil_append, List.length_cons, List.length_nil, List.replicate, then_normal, inBlock_normal, Option.getD_some, Option.getD_none, Bool.or_false, Bool.or_true, Bool.true_or, Bool.false_or, Bool.false_eq_true, if_false, if_true, up_zero, Nat.reduceAdd, Nat.reduceSub, binv, ↓opt_def, AV.isAny, AV.cells, ldc, List.map_cons, List.map_nil, St.set_next, St.set_same, St.up_next, Int.natCast_nonneg, lt_len, le_len, Int.toNat_natCast, true_and, and_true, eq_self, reduceCtorEq, decide_true, List.length_singleton, er_int, er_bool, er_str]
  refine h1 _ _ ?_
  try clear h1 K_h1
  refine T.seq_k (fun K_h1 h1 => ?_)
  refine T.regi hm ?_
  simp only [↓reduceIte, namesOf, List.any, I.names, aops, aopsI, aopsT, qstep, CPt, qget, Tbl.get, astep, ev, setd, List.set, List.getD, List.getElem?_cons_zero, List.getElem?_cons_succ, List.getElem?_nil, List.cons_append, List.nil_append, List.length_cons, List.length_nil, List.replicate, then_normal, inBlock_normal, Option.getD_some, Option.getD_none, Bool.or_false, Bool.or_true, Bool.true_or, Bool.false_or, Bool.false_eq_true, if_false, if_true, up_zero, Nat.reduceAdd, Nat.reduceSub, binv, ↓opt_def, AV.isAny, AV.cells, ldc, List.map_cons, List.map_nil, St.set_next, St.set_same, St.up_next, Int.natCast_nonneg, lt_len, le_len, Int.toNat_natCast, true_and, and_true, eq_self, reduceCtorEq, decide_true, List.length_singleton, er_int, er_bool, er_str, bne_self_eq_false]
  refine h1 _ _ ?_
  try clear h1 K_h1
  exact T.ret (Fin.ret rfl ⟨rfl, rfl⟩)

theorem cmpi_ok {a b : Int} {σ : St} : ACalls Try.prog n_cmpi [.int .i64 a, .int .i64 b] σ (fun v σ' => v = .int .i64 (cmp3 a b) ∧ σ' = σ) := by
  refine s_cmpi (fun wf => ?_)
  unfold c_cmpi
  refine T.seq_k (fun K_h1 h1 => ?_)
  refine T.regi hm ?_
  simp only [↓reduceIte, namesOf, List.any, I.names, aops, aopsI, aopsT, qstep, CPt, qget, Tbl.get, astep, ev, setd, List.set, List.getD, List.getElem?_cons_zero, List.getElem?_cons_succ, List.getElem?_nil, List.cons_append, List.nil_append, List.length_cons, List.length_nil, List.replicate, then_normal, inBlock_normal, Option.getD_some, Option.getD_none, Bool.or_false, Bool.or_true, Bool.true_or, Bool.false_or, Bool.false_eq_true, if_false, if_true, up_zero, Nat.reduceAdd, Nat.reduceSub, binv, ↓opt_def, AV.isAny, AV.cells, ldc, List.map_cons, List.map_nil, St.set_next, St.set_same, St.up_next, Int.natCast_nonneg, lt_len, le_len, Int.toNat_natCast, true_and, and_true, eq_self, reduceCtorEq, decide_true, List.length_singleton, er_int, er_bool, er_str]
  refine h1 _ _ ?_
  try clear h1 K_h1
  refine T.seq_k (fun K_h1 h1 => ?_)
  refine T.regi hm ?_
  simp only [↓reduceIte, namesOf, List.any, I.names, aops, aopsI, aopsT, qstep, CPt, qget, Tbl.get, astep, ev, setd, List.set, List.getD, List.getElem?_cons_zero, List.getElem?_cons_succ, List.getElem?_nil, List.cons_append, List.nil_append, List.length_cons, List.length_nil, List.replicate, then_normal, inBlock_normal, Option.getD_some, Option.getD_none, Bool.or_false, Bool.or_true, Bool.true_or, Bool.false_or, Bool.false_eq_true, if_false, if_true, up_zero, Nat.reduceAdd, Nat.reduceSub, binv, ↓opt_def, AV.isAny, AV.cells, ldc, List.map_cons, List.map_nil, St.set_next, St.set_same, St.up_next, Int.natCast_nonneg, lt_len, le_len, Int.toNat_natCast, true_and, and_true, eq_self, reduceCtorEq, decide_true, List.length_singleton, er_int, er_bool, er_str]
  refine nan1_ok.mono ?_
  rintro v σ1 ⟨rfl, rfl⟩
  try simp only [↓reduceIte, namesOf, List.any, I.names, aops, aopsI, aopsT, qstep, CPt, qget, Tbl.get, astep, ev, setd, List.set, List.getD, List.getElem?_cons_zero, List.getElem?_cons_succ, List.getElem?_nil, List.cons_append, List.nil_append, List.length_cons, List.length_nil, List.replicate, then_normal, inBlock_normal, Option.getD_some, Option.getD_none, Bool.or_false, Bool.or_true, Bool.true_or, Bool.false_or, Bool.false_eq_true, if_false, if_true, up_zero, Nat.reduceAdd, Nat.reduceSub, binv, ↓opt_def, AV.isAny, AV.cells, ldc, List.map_cons, List.map_nil, St.set_next, St.set_same, St.up_next, Int.natCast_nonneg, lt_len, le_len, Int.toNat_natCast, true_and, and_true, eq_self, reduceCtorEq, decide_true, List.length_singleton, er_int, er_bool, er_str, up_zero]
  refine h1 _ _ ?_
  try clear h1 K_h1
  refine T.seq_k (fun K_h1 h1 => ?_)
  refine T.regi hm ?_
  simp only [↓reduceIte, namesOf, List.any, I.names, aops, aopsI, aopsT, qstep, CPt, qget, Tbl.get, astep, ev, setd, List.set, List.getD, List.getElem?_cons_zero, List.getElem?_cons_succ, List.getElem?_nil, List.cons_append, List.nil_append, List.length_cons, List.length_nil, List.replicate, then_normal, inBlock_normal, Option.getD_some, Option.getD_none, Bool.or_false, Bool.or_true, Bool.true_or, Bool.false_or, Bool.false_eq_true, if_false, if_true, up_zero, Nat.reduceAdd, Nat.reduceSub, binv, ↓opt_def, AV.isAny, AV.cells, ldc, List.map_cons, List.map_nil, St.set_next, St.set_same, St.up_next, Int.natCast_nonneg, lt_len, le_len, Int.toNat_natCast, true_and, and_true, eq_self, reduceCtorEq, decide_true, List.length_singleton, er_int, er_bool, er_str]
  refine nan1_ok.mono ?_
  rintro v σ1 ⟨rfl, rfl⟩
  try simp only [↓reduceIte, namesOf, List.any, I.names, aops, aopsI, aopsT, qstep, CPt, qget, Tbl.get, astep, ev, setd, List.set, List.getD, List.getElem?_cons_zero, List.getElem?_cons_succ, List.getElem?_nil, List.cons_append, List.nil_append, List.length_cons, List.length_nil, List.replicate, then_normal, inBlock_normal, Option.getD_some, Option.getD_none, Bool.or_false, Bool.or_true, Bool.true_or, Bool.false_or, Bool.false_eq_true, if_false, if_true, up_zero, Nat.reduceAdd, Nat.reduceSub, binv, ↓opt_def, AV.isAny, AV.cells, ldc, List.map_cons, List.map_nil, St.set_next, St.set_same, St.up_next, Int.natCast_nonneg, lt_len, le_len, Int.toNat_natCast, true_and, and_true, eq_self, reduceCtorEq, decide_true, List.length_singleton, er_int, er_bool, er_str, up_zero]
  refine h1 _ _ ?_
  try clear h1 K_h1
  refine T.seq_k (fun K_h1 h1 => ?_)
  refine T.seq_k (fun K_h2 h2 => ?_)
  refine T.regi hm ?_
  simp only [↓reduceIte, namesOf, List.any, I.names, aops, aopsI, aopsT, qstep, CPt, qget, Tbl.get, astep, ev, setd, List.set, List.getD, List.getElem?_cons_zero, List.getElem?_cons_succ, List.getElem?_nil, List.cons_append, List.nil_append, List.length_cons, List.length_nil, List.replicate, then_normal, inBlock_normal, Option.getD_some, Option.getD_none, Bool.or_false, Bool.or_true, Bool.true_or, Bool.false_or, Bool.false_eq_true, if_false, if_true, up_zero, Nat.reduceAdd, Nat.reduceSub, binv, ↓opt_def, AV.isAny, AV.cells, ldc, List.map_cons, List.map_nil, St.set_next, St.set_same, St.up_next, Int.natCast_nonneg, lt_len, le_len, Int.toNat_natCast, true_and, and_true, eq_self, reduceCtorEq, decide_true, List.length_singleton, er_int, er_bool, er_str]
  refine h2 _ _ ?_
  try clear h2 K_h2
  refine T.cond rfl (fun hb => by cases hb) (fun _ => T.skip ?_)
  refine h1 _ _ ?_
  try clear h1 K_h1
  refine T.seq_k (fun K_h1 h1 => ?_)
  refine T.seq_k (fun K_h2 h2 => ?_)
  refine T.regi hm ?_
  simp only [↓reduceIte, namesOf, List.any, I.names, aops, aopsI, aopsT, qstep, CPt, qget, Tbl.get, astep, ev, setd, List.set, List.getD, List.getElem?_cons_zero, List.getElem?_cons_succ, List.getElem?_nil, List.cons_append, List.nil_append, List.length_cons, List.length_nil, List.replicate, then_normal, inBlock_normal, Option.getD_some, Option.getD_none, Bool.or_false, Bool.or_true, Bool.true_or, Bool.false_or, Bool.false_eq_true, if_false, if_true, up_zero, Nat.reduceAdd, Nat.reduceSub, binv, ↓opt_def, AV.isAny, AV.cells, ldc, List.map_cons, List.map_nil, St.set_next, St.set_same, St.up_next, Int.natCast_nonneg, lt_len, le_len, Int.toNat_natCast, true_and, and_true, eq_self, reduceCtorEq, decide_true, List.length_singleton, er_int, er_bool, er_str]
  refine h2 _ _ ?_
  try clear h2 K_h2
  refine T.cond rfl (fun hb => by cases hb) (fun _ => T.skip ?_)
  refine h1 _ _ ?_
  try clear h1 K_h1
  refine T.seq_k (fun K_h1 h1 => ?_)
  refine T.seq_k (fun K_h2 h2 => ?_)
  refine T.regi hm ?_
  simp only [↓reduceIte, namesOf, List.any, I.names, aops, aopsI, aopsT, qstep, CPt, qget, Tbl.get, astep, ev, setd, List.set, List.getD, List.getElem?_cons_zero, List.getElem?_cons_succ, List.getElem?_nil, List.cons_append, List.nil_append, List.length_cons, List.length_nil, List.replicate, then_normal, inBlock_normal, Option.getD_some, Option.getD_none, Bool.or_false, Bool.or_true, Bool.true_or, Bool.false_or, Bool.false_eq_true, if_false, if_true, up_zero, Nat.reduceAdd, Nat.reduceSub, binv, ↓opt_def, AV.isAny, AV.cells, ldc, List.map_cons, List.map_nil, St.set_next, St.set_same, St.up_next, Int.natCast_nonneg, lt_len, le_len, Int.toNat_natCast, true_and, and_true, eq_self, reduceCtorEq, decide_true, List.length_singleton, er_int, er_bool, er_str]
  refine h2 _ _ ?_
  try clear h2 K_h2
  refine T.cond rfl (fun hb => ?_) (fun hb => ?_)
  · refine T.seq_k (fun K_h2 h2 => ?_)
    refine T.regi hm ?_
    simp only [↓reduceIte, namesOf, List.any, I.names, aops, aopsI, aopsT, qstep, CPt, qget, Tbl.get, astep, ev, setd, List.set, List.getD, List.getElem?_cons_zero, List.getElem?_cons_succ, List.getElem?_nil, List.cons_append, List.nil_append, List.length_cons, List.length_nil, List.replicate, then_normal, inBlock_normal, Option.getD_some, Option.getD_none, Bool.or_false, Bool.or_true, Bool.true_or, Bool.false_or, Bool.false_eq_true, if_false, if_true, up_zero, Nat.reduceAdd, Nat.reduceSub, binv, ↓opt_def, AV.isAny, AV.cells, ldc, List.map_cons, List.map_nil, St.set_next, St.set_same, St.up_next, Int.natCast_nonneg, lt_len, le_len, Int.toNat_natCast, true_and, and_true, eq_self, reduceCtorEq, decide_true, List.length_singleton, er_int, er_bool, er_str]
    refine h2 _ _ ?_
    try clear h2 K_h2
    have : a < b := by simpa using hb
    exact T.ret (Fin.ret rfl ⟨by simp [pack, cmp3, this], rfl⟩)
  · refine T.skip ?_
    refine h1 _ _ ?_
    try clear h1 K_h1
    have hn : ¬ a < b := by simpa using hb
    refine T.seq_k (fun K_h1 h1 => ?_)
    refine T.seq_k (fun K_h2 h2 => ?_)
    refine T.regi hm ?_
    simp only [↓reduceIte, namesOf, List.any, I.names, aops, aopsI, aopsT, qstep, CPt, qget, Tbl.get, astep, ev, setd, List.set, List.getD, List.getElem?_cons_zero, List.getElem?_cons_succ, List.getElem?_nil, List.cons_append, List.nil_append, List.length_cons, List.length_nil, List.replicate, then_normal, inBlock_normal, Option.getD_some, Option.getD_none, Bool.or_false, Bool.or_true, Bool.true_or, Bool.false_or, Bool.false_eq_true, if_false, if_true, up_zero, Nat.reduceAdd, Nat.reduceSub, binv, ↓opt_def, AV.isAny, AV.cells, ldc, List.map_cons, List.map_nil, St.set_next, St.set_same, St.up_next, Int.natCast_nonneg, lt_len, le_len, Int.toNat_natCast, true_and, and_true, eq_self, reduceCtorEq, decide_true, List.length_singleton, er_int, er_bool, er_str]
    refine h2 _ _ ?_
    try clear h2 K_h2
    refine T.cond rfl (fun hb => ?_) (fun hb => ?_)
    · refine T.seq_k (fun K_h2 h2 => ?_)
      refine T.regi hm ?_
      simp only [↓reduceIte, namesOf, List.any, I.names, aops, aopsI, aopsT, qstep, CPt, qget, Tbl.get, astep, ev, setd, List.set, List.getD, List.getElem?_cons_zero, List.getElem?_cons_succ, List.getElem?_nil, List.cons_append, List.nil_append, List.length_cons, List.length_nil, List.replicate, then_normal, inBlock_normal, Option.getD_some, Option.getD_none, Bool.or_false, Bool.or_true, Bool.true_or, Bool.false_or, Bool.false_eq_true, if_false, if_true, up_zero, Nat.reduceAdd, Nat.reduceSub, binv, ↓opt_def, AV.isAny, AV.cells, ldc, List.map_cons, List.map_nil, St.set_next, St.set_same, St.up_next, Int.natCast_nonneg, lt_len, le_len, Int.toNat_natCast, true_and, and_true, eq_self, reduceCtorEq, decide_true, List.length_singleton, er_int, er_bool, er_str]
      refine h2 _ _ ?_
      try clear h2 K_h2
      have : b < a := by simpa using hb
      exact T.ret (Fin.ret rfl ⟨by simp [pack, cmp3, this, hn], rfl⟩)
    · refine T.skip ?_
      refine h1 _ _ ?_
      try clear h1 K_h1
      have hn2 : ¬ b < a := by simpa using hb
      refine T.seq_k (fun K_h1 h1 => ?_)
      refine T.regi hm ?_
      simp only [↓reduceIte, namesOf, List.any, I.names, aops, aopsI, aopsT, qstep, CPt, qget, Tbl.get, astep, ev, setd, List.set, List.getD, List.getElem?_cons_zero, List.getElem?_cons_succ, List.getElem?_nil, List.cons_append, List.nil_append, List.length_cons, List.length_nil, List.replicate, then_normal, inBlock_normal, Option.getD_some, Option.getD_none, Bool.or_false, Bool.or_true, Bool.true_or, Bool.false_or, Bool.false_eq_true, if_false, if_true, up_zero, Nat.reduceAdd, Nat.reduceSub, binv, ↓opt_def, AV.isAny, AV.cells, ldc, List.map_cons, List.map_nil, St.set_next, St.set_same, St.up_next, Int.natCast_nonneg, lt_len, le_len, Int.toNat_natCast, true_and, and_true, eq_self, reduceCtorEq, decide_true, List.length_singleton, er_int, er_bool, er_str]
      refine h1 _ _ ?_
      try clear h1 K_h1
      exact T.ret (Fin.ret rfl ⟨by simp [pack, cmp3, hn, hn2], rfl⟩)

theorem cmpu_ok {a b : Int} {σ : St} : ACalls Try.prog n_cmpu [.int .u64 a, .int .u64 b] σ (fun v σ' => v = .int .i64 (cmp3 a b) ∧ σ' = σ) := by
  refine s_cmpu (fun wf => ?_)
  unfold c_cmpu
  refine T.seq_k (fun K_h1 h1 => ?_)
  refine T.regi hm ?_
  simp only [↓reduceIte, namesOf, List.any, I.names, aops, aopsI, aopsT, qstep, CPt, qget, Tbl.get, astep, ev, setd, List.set, List.getD, List.getElem?_cons_zero, List.getElem?_cons_succ, List.getElem?_nil, List.cons_append, List.nil_append, List.length_cons, List.length_nil, List.replicate, then_normal, inBlock_normal, Option.getD_some, Option.getD_none, Bool.or_false, Bool.or_true, Bool.true_or, Bool.false_or, Bool.false_eq_true, if_false, if_true, up_zero, Nat.reduceAdd, Nat.reduceSub, binv, ↓opt_def, AV.isAny, AV.cells, ldc, List.map_cons, List.map_nil, St.set_next, St.set_same, St.up_next, Int.natCast_nonneg, lt_len, le_len, Int.toNat_natCast, true_and, and_true, eq_self, reduceCtorEq, decide_true, List.length_singleton, er_int, er_bool, er_str]
  refine h1 _ _ ?_
  try clear h1 K_h1
  refine T.seq_k (fun K_h1 h1 => ?_)
  refine T.regi hm ?_
  simp only [↓reduceIte, namesOf, List.any, I.names, aops, aopsI, aopsT, qstep, CPt, qget, Tbl.get, astep, ev, setd, List.set, List.getD, List.getElem?_cons_zero, List.getElem?_cons_succ, List.getElem?_nil, List.cons_append, List.nil_append, List.length_cons, List.length_nil, List.replicate, then_normal, inBlock_normal, Option.getD_some, Option.getD_none, Bool.or_false, Bool.or_true, Bool.true_or, Bool.false_or, Bool.false_eq_true, if_false, if_true, up_zero, Nat.reduceAdd, Nat.reduceSub, binv, ↓opt_def, AV.isAny, AV.cells, ldc, List.map_cons, List.map_nil, St.set_next, St.set_same, St.up_next, Int.natCast_nonneg, lt_len, le_len, Int.toNat_natCast, true_and, and_true, eq_self, reduceCtorEq, decide_true, List.length_singleton, er_int, er_bool, er_str]
  refine nan2_ok.mono ?_
  rintro v σ1 ⟨rfl, rfl⟩
  try simp only [↓reduceIte, namesOf, List.any, I.names, aops, aopsI, aopsT, qstep, CPt, qget, Tbl.get, astep, ev, setd, List.set, List.getD, List.getElem?_cons_zero, List.getElem?_cons_succ, List.getElem?_nil, List.cons_append, List.nil_append, List.length_cons, List.length_nil, List.replicate, then_normal, inBlock_normal, Option.getD_some, Option.getD_none, Bool.or_false, Bool.or_true, Bool.true_or, Bool.false_or, Bool.false_eq_true, if_false, if_true, up_zero, Nat.reduceAdd, Nat.reduceSub, binv, ↓opt_def, AV.isAny, AV.cells, ldc, List.map_cons, List.map_nil, St.set_next, St.set_same, St.up_next, Int.natCast_nonneg, lt_len, le_len, Int.toNat_natCast, true_and, and_true, eq_self, reduceCtorEq, decide_true, List.length_singleton, er_int, er_bool, er_str, up_zero]
  refine h1 _ _ ?_
  try clear h1 K_h1
  refine T.seq_k (fun K_h1 h1 => ?_)
  refine T.regi hm ?_
  simp only [↓reduceIte, namesOf, List.any, I.names, aops, aopsI, aopsT, qstep, CPt, qget, Tbl.get, astep, ev, setd, List.set, List.getD, List.getElem?_cons_zero, List.getElem?_cons_succ, List.getElem?_nil, List.cons_append, List.nil_append, List.length_cons, List.length_nil, List.replicate, then_normal, inBlock_normal, Option.getD_some, Option.getD_none, Bool.or_false, Bool.or_true, Bool.true_or, Bool.false_or, Bool.false_eq_true, if_false, if_true, up_zero, Nat.reduceAdd, Nat.reduceSub, binv, ↓opt_def, AV.isAny, AV.cells, ldc, List.map_cons, List.map_nil, St.set_next, St.set_same, St.up_next, Int.natCast_nonneg, lt_len, le_len, Int.toNat_natCast, true_and, and_true, eq_self, reduceCtorEq, decide_true, List.length_singleton, er_int, er_bool, er_str]
  refine nan2_ok.mono ?_
  rintro v σ1 ⟨rfl, rfl⟩
  try simp only [↓reduceIte, namesOf, List.any, I.names, aops, aopsI, aopsT, qstep, CPt, qget, Tbl.get, astep, ev, setd, List.set, List.getD, List.getElem?_cons_zero, List.getElem?_cons_succ, List.getElem?_nil, List.cons_append, List.nil_append, List.length_cons, List.length_nil, List.replicate, then_normal, inBlock_normal, Option.getD_some, Option.getD_none, Bool.or_false, Bool.or_true, Bool.true_or, Bool.false_or, Bool.false_eq_true, if_false, if_true, up_zero, Nat.reduceAdd, Nat.reduceSub, binv, ↓opt_def, AV.isAny, AV.cells, ldc, List.map_cons, List.map_nil, St.set_next, St.set_same, St.up_next, Int.natCast_nonneg, lt_len, le_len, Int.toNat_natCast, true_and, and_true, eq_self, reduceCtorEq, decide_true, List.length_singleton, er_int, er_bool, er_str, up_zero]
  refine h1 _ _ ?_
  try clear h1 K_h1
  refine T.seq_k (fun K_h1 h1 => ?_)
  refine T.seq_k (fun K_h2 h2 => ?_)
  refine T.regi hm ?_
  simp only [↓reduceIte, namesOf, List.any, I.names, aops, aopsI, aopsT, qstep, CPt, qget, Tbl.get, astep, ev, setd, List.set, List.getD, List.getElem?_cons_zero, List.getElem?_cons_succ, List.getElem?_nil, List.cons_append, List.nil_append, List.length_cons, List.length_nil, List.replicate, then_normal, inBlock_normal, Option.getD_some, Option.getD_none, Bool.or_false, Bool.or_true, Bool.true_or, Bool.false_or, Bool.false_eq_true, if_false, if_true, up_zero, Nat.reduceAdd, Nat.reduceSub, binv, ↓opt_def, AV.isAny, AV.cells, ldc, List.map_cons, List.map_nil, St.set_next, St.set_same, St.up_next, Int.natCast_nonneg, lt_len, le_len, Int.toNat_natCast, true_and, and_true, eq_self, reduceCtorEq, decide_true, List.length_singleton, er_int, er_bool, er_str]
  refine h2 _ _ ?_
  try clear h2 K_h2
  refine T.cond rfl (fun hb => by cases hb) (fun _ => T.skip ?_)
  refine h1 _ _ ?_
  try clear h1 K_h1
  refine T.seq_k (fun K_h1 h1 => ?_)
  refine T.seq_k (fun K_h2 h2 => ?_)
  refine T.regi hm ?_
  simp only [↓reduceIte, namesOf, List.any, I.names, aops, aopsI, aopsT, qstep, CPt, qget, Tbl.get, astep, ev, setd, List.set, List.getD, List.getElem?_cons_zero, List.getElem?_cons_succ, List.getElem?_nil, List.cons_append, List.nil_append, List.length_cons, List.length_nil, List.replicate, then_normal, inBlock_normal, Option.getD_some, Option.getD_none, Bool.or_false, Bool.or_true, Bool.true_or, Bool.false_or, Bool.false_eq_true, if_false, if_true, up_zero, Nat.reduceAdd, Nat.reduceSub, binv, ↓opt_def, AV.isAny, AV.cells, ldc, List.map_cons, List.map_nil, St.set_next, St.set_same, St.up_next, Int.natCast_nonneg, lt_len, le_len, Int.toNat_natCast, true_and, and_true, eq_self, reduceCtorEq, decide_true, List.length_singleton, er_int, er_bool, er_str]
  refine h2 _ _ ?_
  try clear h2 K_h2
  refine T.cond rfl (fun hb => by cases hb) (fun _ => T.skip ?_)
  refine h1 _ _ ?_
  try clear h1 K_h1
  refine T.seq_k (fun K_h1 h1 => ?_)
  refine T.seq_k (fun K_h2 h2 => ?_)
  refine T.regi hm ?_
  simp only [↓reduceIte, namesOf, List.any, I.names, aops, aopsI, aopsT, qstep, CPt, qget, Tbl.get, astep, ev, setd, List.set, List.getD, List.getElem?_cons_zero, List.getElem?_cons_succ, List.getElem?_nil, List.cons_append, List.nil_append, List.length_cons, List.length_nil, List.replicate, then_normal, inBlock_normal, Option.getD_some, Option.getD_none, Bool.or_false, Bool.or_true, Bool.true_or, Bool.false_or, Bool.false_eq_true, if_false, if_true, up_zero, Nat.reduceAdd, Nat.reduceSub, binv, ↓opt_def, AV.isAny, AV.cells, ldc, List.map_cons, List.map_nil, St.set_next, St.set_same, St.up_next, Int.natCast_nonneg, lt_len, le_len, Int.toNat_natCast, true_and, and_true, eq_self, reduceCtorEq, decide_true, List.length_singleton, er_int, er_bool, er_str]
  refine h2 _ _ ?_
  try clear h2 K_h2
  refine T.cond rfl (fun hb => ?_) (fun hb => ?_)
  · refine T.seq_k (fun K_h2 h2 => ?_)
    refine T.regi hm ?_
    simp only [↓reduceIte, namesOf, List.any, I.names, aops, aopsI, aopsT, qstep, CPt, qget, Tbl.get, astep, ev, setd, List.set, List.getD, List.getElem?_cons_zero, List.getElem?_cons_succ, List.getElem?_nil, List.cons_append, List.nil_append, List.length_cons, List.length_nil, List.replicate, then_normal, inBlock_normal, Option.getD_some, Option.getD_none, Bool.or_false, Bool.or_true, Bool.true_or, Bool.false_or, Bool.false_eq_true, if_false, if_true, up_zero, Nat.reduceAdd, Nat.reduceSub, binv, ↓opt_def, AV.isAny, AV.cells, ldc, List.map_cons, List.map_nil, St.set_next, St.set_same, St.up_next, Int.natCast_nonneg, lt_len, le_len, Int.toNat_natCast, true_and, and_true, eq_self, reduceCtorEq, decide_true, List.length_singleton, er_int, er_bool, er_str]
    refine h2 _ _ ?_
    try clear h2 K_h2
    have : a < b := by simpa using hb
    exact T.ret (Fin.ret rfl ⟨by simp [pack, cmp3, this], rfl⟩)
  · refine T.skip ?_
    refine h1 _ _ ?_
    try clear h1 K_h1
    have hn : ¬ a < b := by simpa using hb
    refine T.seq_k (fun K_h1 h1 => ?_)
    refine T.seq_k (fun K_h2 h2 => ?_)
    refine T.regi hm ?_
    simp only [↓reduceIte, namesOf, List.any, I.names, aops, aopsI, aopsT, qstep, CPt, qget, Tbl.get, astep, ev, setd, List.set, List.getD, List.getElem?_cons_zero, List.getElem?_cons_succ, List.getElem?_nil, List.cons_append, List.nil_append, List.length_cons, List.length_nil, List.replicate, then_normal, inBlock_normal, Option.getD_some, Option.getD_none, Bool.or_false, Bool.or_true, Bool.true_or, Bool.false_or, Bool.false_eq_true, if_false, if_true, up_zero, Nat.reduceAdd, Nat.reduceSub, binv, ↓opt_def, AV.isAny, AV.cells, ldc, List.map_cons, List.map_nil, St.set_next, St.set_same, St.up_next, Int.natCast_nonneg, lt_len, le_len, Int.toNat_natCast, true_and, and_true, eq_self, reduceCtorEq, decide_true, List.length_singleton, er_int, er_bool, er_str]
    refine h2 _ _ ?_
    try clear h2 K_h2
    refine T.cond rfl (fun hb => ?_) (fun hb => ?_)
    · refine T.seq_k (fun K_h2 h2 => ?_)
      refine T.regi hm ?_
      simp only [↓reduceIte, namesOf, List.any, I.names, aops, aopsI, aopsT, qstep, CPt, qget, Tbl.get, astep, ev, setd, List.set, List.getD, List.getElem?_cons_zero, List.getElem?_cons_succ, List.getElem?_nil, List.cons_append, List.nil_append, List.length_cons, List.length_nil, List.replicate, then_normal, inBlock_normal, Option.getD_some, Option.getD_none, Bool.or_false, Bool.or_true, Bool.true_or, Bool.false_or, Bool.false_eq_true, if_false, if_true, up_zero, Nat.reduceAdd, Nat.reduceSub, binv, ↓opt_def, AV.isAny, AV.cells, ldc, List.map_cons, List.map_nil, St.set_next, St.set_same, St.up_next, Int.natCast_nonneg, lt_len, le_len, Int.toNat_natCast, true_and, and_true, eq_self, reduceCtorEq, decide_true, List.length_singleton, er_int, er_bool, er_str]
      refine h2 _ _ ?_
      try clear h2 K_h2
      have : b < a := by simpa using hb
      exact T.ret (Fin.ret rfl ⟨by simp [pack, cmp3, this, hn], rfl⟩)
    · refine T.skip ?_
      refine h1 _ _ ?_
      try clear h1 K_h1
      have hn2 : ¬ b < a := by simpa using hb
      refine T.seq_k (fun K_h1 h1 => ?_)
      refine T.regi hm ?_
      simp only [↓reduceIte, namesOf, List.any, I.names, aops, aopsI, aopsT, qstep, CPt, qget, Tbl.get, astep, ev, setd, List.set, List.getD, List.getElem?_cons_zero, List.getElem?_cons_succ, List.getElem?_nil, List.cons_append, List.nil_append, List.length_cons, List.length_nil, List.replicate, then_normal, inBlock_normal, Option.getD_some, Option.getD_none, Bool.or_false, Bool.or_true, Bool.true_or, Bool.false_or, Bool.false_eq_true, if_false, if_true, up_zero, Nat.reduceAdd, Nat.reduceSub, binv, ↓opt_def, AV.isAny, AV.cells, ldc, List.map_cons, List.map_nil, St.set_next, St.set_same, St.up_next, Int.natCast_nonneg, lt_len, le_len, Int.toNat_natCast, true_and, and_true, eq_self, reduceCtorEq, decide_true, List.length_singleton, er_int, er_bool, er_str]
      refine h1 _ _ ?_
      try clear h1 K_h1
      exact T.ret (Fin.ret rfl ⟨by simp [pack, cmp3, hn, hn2], rfl⟩)

/-- the first that is not 0 -/
def orI : List Int → Int
  | [] => 0
  | n :: r => if n = 0 then orI r else n

theorem orI_take {l : List Int} {i : Nat} (hi : i < l.length) (h : ∀ j (hj : j < l.length), j < i → l[j] = 0) : orI l = orI (l.drop i) := by
  induction i with
  | zero => rfl
  | succ i ih =>
    rw [ih (by omega) (fun j hj hji => h j hj (by omega)), List.drop_eq_getElem_cons (by omega)]
    unfold orI
    rw [if_pos (h i (by omega) (by omega))]
    cases hd : l.drop (i + 1) with
    | nil => rfl
    | cons a r => rfl

theorem orI_zero : ∀ {l : List Int}, (∀ j (hj : j < l.length), j < l.length → l[j] = 0) → orI l = 0
  | [], _ => rfl
  | a :: r, h => by
    have h0 := h 0 (by simp) (by simp)
    simp only [List.getElem_cons_zero] at h0
    subst h0
    unfold orI
    rw [if_pos rfl]
    exact orI_zero (fun j hj _ => by have := h (j + 1) (by simpa using hj) (by simpa using hj); simpa using this)

theorem cor_ok {l : List Int} {g : Ver} {σ : St} (hl : l.length ≤ 9223372036854775807) : ACalls Try.prog n_cor [.sl (nums .i64 l) g] σ (fun v σ' => v = .int .i64 (orI l) ∧ σ' = σ) := by
  refine s_cor (fun wf => ?_)
  unfold c_cor
  refine T.seq_k (fun K_h1 h1 => ?_)
  refine T.regi hm ?_
  simp only [↓reduceIte, namesOf, List.any, I.names, aops, aopsI, aopsT, qstep, CPt, qget, Tbl.get, astep, ev, setd, List.set, List.getD, List.getElem?_cons_zero, List.getElem?_cons_succ, List.getElem?_nil, List.cons_append, List.nil_append, List.length_cons, List.length_nil, List.replicate, then_normal, inBlock_normal, Option.getD_some, Option.getD_none, Bool.or_false, Bool.or_true, Bool.true_or, Bool.false_or, Bool.false_eq_true, if_false, if_true, up_zero, Nat.reduceAdd, Nat.reduceSub, binv, ↓opt_def, AV.isAny, AV.cells, ldc, List.map_cons, List.map_nil, St.set_next, St.set_same, St.up_next, Int.natCast_nonneg, lt_len, le_len, Int.toNat_natCast, true_and, and_true, eq_self, reduceCtorEq, decide_true, List.length_singleton, er_int, er_bool, er_str]
  refine h1 _ _ ?_
  try clear h1 K_h1
  refine T.seq_k (fun K_h1 h1 => ?_)
  refine T.regi hm ?_
  simp only [↓reduceIte, namesOf, List.any, I.names, aops, aopsI, aopsT, qstep, CPt, qget, Tbl.get, astep, ev, setd, List.set, List.getD, List.getElem?_cons_zero, List.getElem?_cons_succ, List.getElem?_nil, List.cons_append, List.nil_append, List.length_cons, List.length_nil, List.replicate, then_normal, inBlock_normal, Option.getD_some, Option.getD_none, Bool.or_false, Bool.or_true, Bool.true_or, Bool.false_or, Bool.false_eq_true, if_false, if_true, up_zero, Nat.reduceAdd, Nat.reduceSub, binv, ↓opt_def, AV.isAny, AV.cells, ldc, List.map_cons, List.map_nil, St.set_next, St.set_same, St.up_next, Int.natCast_nonneg, lt_len, le_len, Int.toNat_natCast, true_and, and_true, eq_self, reduceCtorEq, decide_true, List.length_singleton, er_int, er_bool, er_str]
  refine h1 _ _ ?_
  try clear h1 K_h1
  refine T.seq_k (fun K_h1 h1 => ?_)
  refine T.seq_k (fun K_h2 h2 => ?_)
  refine T.regi hm ?_
  simp only [↓reduceIte, namesOf, List.any, I.names, aops, aopsI, aopsT, qstep, CPt, qget, Tbl.get, astep, ev, setd, List.set, List.getD, List.getElem?_cons_zero, List.getElem?_cons_succ, List.getElem?_nil, List.cons_append, List.nil_append, List.length_cons, List.length_nil, List.replicate, then_normal, inBlock_normal, Option.getD_some, Option.getD_none, Bool.or_false, Bool.or_true, Bool.true_or, Bool.false_or, Bool.false_eq_true, if_false, if_true, up_zero, Nat.reduceAdd, Nat.reduceSub, binv, ↓opt_def, AV.isAny, AV.cells, ldc, List.map_cons, List.map_nil, St.set_next, St.set_same, St.up_next, Int.natCast_nonneg, lt_len, le_len, Int.toNat_natCast, true_and, and_true, eq_self, reduceCtorEq, decide_true, List.length_singleton, er_int, er_bool, er_str, nums_len]
  refine h2 _ _ ?_
  try clear h2 K_h2
  refine T.block ?_
  refine T.gh (Gh.keep [3, 6, 7, 8]) ?_
  refine T.loopi (fun i ρ σ' => σ' = σ ∧ (∀ j (hj : j < l.length), j < i → l[j] = 0) ∧ ρ = [.any, .any, .any, .int .i64 0, .any, .any, .sl (nums .i64 l) g, .int .i64 (l.length : Int), .int .i64 (i : Int)] ++ List.replicate 9 .any)
    l.length 0 (Nat.zero_le _) ⟨rfl, fun j _ h => by omega, rfl⟩ ?_
  rintro i ρ σ' hi ⟨rfl, hpre, rfl⟩
  refine T.seq_k (fun K_h2 h2 => ?_)
  refine T.regi hm ?_
  simp only [↓reduceIte, namesOf, List.any, I.names, aops, aopsI, aopsT, qstep, CPt, qget, Tbl.get, astep, ev, setd, List.set, List.getD, List.getElem?_cons_zero, List.getElem?_cons_succ, List.getElem?_nil, List.cons_append, List.nil_append, List.length_cons, List.length_nil, List.replicate, then_normal, inBlock_normal, Option.getD_some, Option.getD_none, Bool.or_false, Bool.or_true, Bool.true_or, Bool.false_or, Bool.false_eq_true, if_false, if_true, up_zero, Nat.reduceAdd, Nat.reduceSub, binv, ↓opt_def, AV.isAny, AV.cells, ldc, List.map_cons, List.map_nil, St.set_next, St.set_same, St.up_next, Int.natCast_nonneg, lt_len, le_len, Int.toNat_natCast, true_and, and_true, eq_self, reduceCtorEq, decide_true, List.length_singleton, er_int, er_bool, er_str]
  refine h2 _ _ ?_
  try clear h2 K_h2
  refine T.seq_k (fun K_h2 h2 => ?_)
  refine T.cond rfl (fun hb => ?_) (fun hb => ?_)
  · refine T.skip ?_
    refine h2 _ _ ?_
    try clear h2 K_h2
    have hil : i < l.length := by simpa using hb
    clear hb
    refine T.seq_k (fun K_h2 h2 => ?_)
    refine T.block ?_
    refine T.seq_k (fun K_h3 h3 => ?_)
    refine T.regi hm ?_
    simp only [↓reduceIte, namesOf, List.any, I.names, aops, aopsI, aopsT, qstep, CPt, qget, Tbl.get, astep, ev, setd, List.set, List.getD, List.getElem?_cons_zero, List.getElem?_cons_succ, List.getElem?_nil, List.cons_append, List.nil_append, List.length_cons, List.length_nil, List.replicate, then_normal, inBlock_normal, Option.getD_some, Option.getD_none, Bool.or_false, Bool.or_true, Bool.true_or, Bool.false_or, Bool.false_eq_true, if_false, if_true, up_zero, Nat.reduceAdd, Nat.reduceSub, binv, ↓opt_def, AV.isAny, AV.cells, ldc, List.map_cons, List.map_nil, St.set_next, St.set_same, St.up_next, Int.natCast_nonneg, lt_len, le_len, Int.toNat_natCast, true_and, and_true, eq_self, reduceCtorEq, decide_true, List.length_singleton, er_int, er_bool, er_str, nums_len, nums_get .i64 hil, hil]
    refine h3 _ _ ?_
    try clear h3 K_h3
    refine T.seq_k (fun K_h3 h3 => ?_)
    refine T.regi hm ?_
    simp only [↓reduceIte, namesOf, List.any, I.names, aops, aopsI, aopsT, qstep, CPt, qget, Tbl.get, astep, ev, setd, List.set, List.getD, List.getElem?_cons_zero, List.getElem?_cons_succ, List.getElem?_nil, List.cons_append, List.nil_append, List.length_cons, List.length_nil, List.replicate, then_normal, inBlock_normal, Option.getD_some, Option.getD_none, Bool.or_false, Bool.or_true, Bool.true_or, Bool.false_or, Bool.false_eq_true, if_false, if_true, up_zero, Nat.reduceAdd, Nat.reduceSub, binv, ↓opt_def, AV.isAny, AV.cells, ldc, List.map_cons, List.map_nil, St.set_next, St.set_same, St.up_next, Int.natCast_nonneg, lt_len, le_len, Int.toNat_natCast, true_and, and_true, eq_self, reduceCtorEq, decide_true, List.length_singleton, er_int, er_bool, er_str]
    refine h3 _ _ ?_
    try clear h3 K_h3
    refine T.cond rfl (fun hb => ?_) (fun hb => ?_)
    · refine T.seq_k (fun K_h3 h3 => ?_)
      refine T.regi hm ?_
      simp only [↓reduceIte, namesOf, List.any, I.names, aops, aopsI, aopsT, qstep, CPt, qget, Tbl.get, astep, ev, setd, List.set, List.getD, List.getElem?_cons_zero, List.getElem?_cons_succ, List.getElem?_nil, List.cons_append, List.nil_append, List.length_cons, List.length_nil, List.replicate, then_normal, inBlock_normal, Option.getD_some, Option.getD_none, Bool.or_false, Bool.or_true, Bool.true_or, Bool.false_or, Bool.false_eq_true, if_false, if_true, up_zero, Nat.reduceAdd, Nat.reduceSub, binv, ↓opt_def, AV.isAny, AV.cells, ldc, List.map_cons, List.map_nil, St.set_next, St.set_same, St.up_next, Int.natCast_nonneg, lt_len, le_len, Int.toNat_natCast, true_and, and_true, eq_self, reduceCtorEq, decide_true, List.length_singleton, er_int, er_bool, er_str]
      refine h3 _ _ ?_
      try clear h3 K_h3
      have hne : l[i] ≠ 0 := by simpa using hb
      refine T.ret (Fin.ret rfl ⟨?_, rfl⟩)
      rw [orI_take hil hpre, List.drop_eq_getElem_cons hil]
      simp [pack, orI, hne]
    · refine T.skip ?_
      refine h2 _ _ ?_
      try clear h2 K_h2
      have he : l[i] = 0 := by simpa using hb
      have hw := inc64 hil hl
      refine T.regi hm ?_
      simp only [↓reduceIte, namesOf, List.any, I.names, aops, aopsI, aopsT, qstep, CPt, qget, Tbl.get, astep, ev, setd, List.set, List.getD, List.getElem?_cons_zero, List.getElem?_cons_succ, List.getElem?_nil, List.cons_append, List.nil_append, List.length_cons, List.length_nil, List.replicate, then_normal, inBlock_normal, Option.getD_some, Option.getD_none, Bool.or_false, Bool.or_true, Bool.true_or, Bool.false_or, Bool.false_eq_true, if_false, if_true, up_zero, Nat.reduceAdd, Nat.reduceSub, binv, ↓opt_def, AV.isAny, AV.cells, ldc, List.map_cons, List.map_nil, St.set_next, St.set_same, St.up_next, Int.natCast_nonneg, lt_len, le_len, Int.toNat_natCast, true_and, and_true, eq_self, reduceCtorEq, decide_true, List.length_singleton, er_int, er_bool, er_str, hw]
      refine ⟨hil, _, _, Gh.keep [3, 6, 7, 8], rfl, fun j hj hji => ?_, rfl⟩
      by_cases hx : j = i
      · subst hx; exact he
      · exact hpre j hj (by omega)
  · refine T.exit ?_
    have : i = l.length := by simp at hb; omega
    subst this
    try simp only [↓reduceIte, namesOf, List.any, I.names, aops, aopsI, aopsT, qstep, CPt, qget, Tbl.get, astep, ev, setd, List.set, List.getD, List.getElem?_cons_zero, List.getElem?_cons_succ, List.getElem?_nil, List.cons_append, List.nil_append, List.length_cons, List.length_nil, List.replicate, then_normal, inBlock_normal, Option.getD_some, Option.getD_none, Bool.or_false, Bool.or_true, Bool.true_or, Bool.false_or, Bool.false_eq_true, if_false, if_true, up_zero, Nat.reduceAdd, Nat.reduceSub, binv, ↓opt_def, AV.isAny, AV.cells, ldc, List.map_cons, List.map_nil, St.set_next, St.set_same, St.up_next, Int.natCast_nonneg, lt_len, le_len, Int.toNat_natCast, true_and, and_true, eq_self, reduceCtorEq, decide_true, List.length_singleton, er_int, er_bool, er_str, inBlock_exit, then_exit]
    refine h1 _ _ ?_
    try clear h1 K_h1
    refine T.seq_k (fun K_h1 h1 => ?_)
    refine T.regi hm ?_
    simp only [↓reduceIte, namesOf, List.any, I.names, aops, aopsI, aopsT, qstep, CPt, qget, Tbl.get, astep, ev, setd, List.set, List.getD, List.getElem?_cons_zero, List.getElem?_cons_succ, List.getElem?_nil, List.cons_append, List.nil_append, List.length_cons, List.length_nil, List.replicate, then_normal, inBlock_normal, Option.getD_some, Option.getD_none, Bool.or_false, Bool.or_true, Bool.true_or, Bool.false_or, Bool.false_eq_true, if_false, if_true, up_zero, Nat.reduceAdd, Nat.reduceSub, binv, ↓opt_def, AV.isAny, AV.cells, ldc, List.map_cons, List.map_nil, St.set_next, St.set_same, St.up_next, Int.natCast_nonneg, lt_len, le_len, Int.toNat_natCast, true_and, and_true, eq_self, reduceCtorEq, decide_true, List.length_singleton, er_int, er_bool, er_str]
    refine h1 _ _ ?_
    try clear h1 K_h1
    refine T.ret (Fin.ret rfl ⟨?_, rfl⟩)
    have : orI l = 0 := orI_zero hpre
    rw [this]; rfl

def g_cmpi : List AV → Option AV
  | [.int .i64 a, .int .i64 b] => some (.int .i64 (cmp3 a b))
  | _ => none

theorem cmpi_pure : PureC Try.prog n_cmpi g_cmpi := by
  intro args σ v h
  unfold g_cmpi at h
  split at h
  · simp only [Option.some.injEq] at h; subst h; exact cmpi_ok
  · cases h

def g_cmpu : List AV → Option AV
  | [.int .u64 a, .int .u64 b] => some (.int .i64 (cmp3 a b))
  | _ => none

theorem cmpu_pure : PureC Try.prog n_cmpu g_cmpu := by
  intro args σ v h
  unfold g_cmpu at h
  split at h
  · simp only [Option.some.injEq] at h; subst h; exact cmpu_ok
  · cases h

def g_or3 : List AV → Option AV
  | [.sl [.int .i64 a, .int .i64 b, .int .i64 c] _] => some (.int .i64 (orI [a, b, c]))
  | _ => none

theorem or3_pure : PureC Try.prog n_cor g_or3 := by
  intro args σ v h
  unfold g_or3 at h
  split at h
  · rename_i a b c g
    simp only [Option.some.injEq] at h; subst h
    exact cor_ok (l := [a, b, c]) (by simp)
  · cases h

def tC : Tbl := [(n_cmpi, g_cmpi), (n_cmpu, g_cmpu), (n_cor, g_or3)]

theorem tC_ok : tC.ok Try.prog := Tbl.ok_cons cmpi_pure (Tbl.ok_cons cmpu_pure (Tbl.ok_cons or3_pure Tbl.ok_nil))

/-- how two spans stand, by (Start, Id, Trace) -/
def cmpS (s i t s' i' t' : Int) : Int := orI [cmp3 s s', cmp3 i i', cmp3 t t']

theorem set2_quiet {σ : St} (wf : WF σ) {k : Nat} (r r' : Res) {a b : Nat} (ha : σ.next ≤ a) (hb : σ.next ≤ b) : ∀ n x, σ.res n = some x → (((σ.up k).set a r).set b r').res n = some x := by
  intro n x hr
  have hn : n < σ.next := by
    rcases Nat.lt_or_ge n σ.next with h | h
    · exact h
    · rw [wf n h] at hr; cases hr
  rw [St.set_other _ _ (by omega), St.set_other _ _ (by omega)]; exact hr

theorem set1_quiet {σ : St} (wf : WF σ) {k : Nat} (r : Res) {a : Nat} (ha : σ.next ≤ a) : ∀ n x, σ.res n = some x → ((σ.up k).set a r).res n = some x := by
  intro n x hr
  have hn : n < σ.next := by
    rcases Nat.lt_or_ge n σ.next with h | h
    · exact h
    · rw [wf n h] at hr; cases hr
  rw [St.set_other _ _ (by omega)]; exact hr

theorem scmp_ok {t i s t' i' s' : Int} {x y x' y' : AV} {σ : St} : ACalls Try.prog n_scmp [.agg [.int .u64 t, .int .u64 i, .int .i64 s, x, y], .agg [.int .u64 t', .int .u64 i', .int .i64 s', x', y']] σ
    (fun v σ' => v = .int .i64 (cmpS s i t s' i' t') ∧ σ' = σ) := by
  refine s_scmp (fun wf => ?_)
  unfold c_scmp
  refine T.seq_k (fun K_h1 h1 => ?_)
  refine T.regi hm ?_
  simp only [↓reduceIte, namesOf, List.any, I.names, aops, aopsI, aopsT, qstep, CPt, qget, Tbl.get, astep, ev, setd, List.set, List.getD, List.getElem?_cons_zero, List.getElem?_cons_succ, List.getElem?_nil, List.cons_append, List.nil_append, List.length_cons, List.length_nil, List.replicate, then_normal, inBlock_normal, Option.getD_some, Option.getD_none, Bool.or_false, Bool.or_true, Bool.true_or, Bool.false_or, Bool.false_eq_true, if_false, if_true, up_zero, Nat.reduceAdd, Nat.reduceSub, binv, ↓opt_def, AV.isAny, AV.cells, ldc, List.map_cons, List.map_nil, St.set_next, St.set_same, St.up_next, Int.natCast_nonneg, lt_len, le_len, Int.toNat_natCast, true_and, and_true, eq_self, reduceCtorEq, decide_true, List.length_singleton, er_int, er_bool, er_str]
  have h0 : (((σ.up 3).set (σ.next + 0) (.obj [.int .u64 t, .int .u64 i, .int .i64 s, x, y])).set (σ.next + 1) (.obj [.int .u64 t', .int .u64 i', .int .i64 s', x', y'])).res (σ.next + 0) = some (.obj [.int .u64 t, .int .u64 i, .int .i64 s, x, y]) := by
    rw [St.set_other _ _ (by omega)]; simp
  have h0' : (((σ.up 3).set (σ.next + 0) (.obj [.int .u64 t, .int .u64 i, .int .i64 s, x, y])).set (σ.next + 1) (.obj [.int .u64 t', .int .u64 i', .int .i64 s', x', y'])).res (σ.next + 1) = some (.obj [.int .u64 t', .int .u64 i', .int .i64 s', x', y']) := by simp
  have hq := set2_quiet wf (k := 3) (.obj [.int .u64 t, .int .u64 i, .int .i64 s, x, y]) (.obj [.int .u64 t', .int .u64 i', .int .i64 s', x', y']) (a := σ.next + 0) (b := σ.next + 1) (by omega) (by omega)
  generalize (((σ.up 3).set (σ.next + 0) (.obj [.int .u64 t, .int .u64 i, .int .i64 s, x, y])).set (σ.next + 1) (.obj [.int .u64 t', .int .u64 i', .int .i64 s', x', y'])) = σ1 at h0 h0' hq ⊢
  refine h1 _ _ ?_
  try clear h1 K_h1
  refine T.seq_k (fun K_h1 h1 => ?_)
  refine T.regt hm tC_ok ?_
  simp only [↓reduceIte, namesOf, List.any, I.names, aops, aopsI, aopsT, qstep, CPt, qget, Tbl.get, astep, ev, setd, List.set, List.getD, List.getElem?_cons_zero, List.getElem?_cons_succ, List.getElem?_nil, List.cons_append, List.nil_append, List.length_cons, List.length_nil, List.replicate, then_normal, inBlock_normal, Option.getD_some, Option.getD_none, Bool.or_false, Bool.or_true, Bool.true_or, Bool.false_or, Bool.false_eq_true, if_false, if_true, up_zero, Nat.reduceAdd, Nat.reduceSub, binv, ↓opt_def, AV.isAny, AV.cells, ldc, List.map_cons, List.map_nil, St.set_next, St.set_same, St.up_next, Int.natCast_nonneg, lt_len, le_len, Int.toNat_natCast, true_and, and_true, eq_self, reduceCtorEq, decide_true, List.length_singleton, er_int, er_bool, er_str, Nat.reduceEqDiff, tC, h0, h0', g_cmpi, g_cmpu, g_or3, Nat.zero_add, Nat.reduceEqDiff, List.all_cons, List.all_nil, AV.fits, AV.one, Bool.not_false, Bool.and_self, beq_self_eq_true, held]
  refine h1 _ _ ?_
  try clear h1 K_h1
  exact T.ret (Fin.quiet rfl trivial hq ⟨rfl, rfl⟩)

def mayI (s e n : Int) : Bool := decide (0 ≤ s ∧ s ≤ e ∧ e ≤ 1099511627776 ∧ n ≤ 64)

theorem may_ok {t i : AV} {s e : Int} {xs : List AV} {g : Ver} {σ : St} : ACalls Try.prog n_may [.agg [t, i, .int .i64 s, .int .i64 e, .sl xs g]] σ (fun v σ' => v = .bool (mayI s e xs.length) ∧ σ' = σ) := by
  refine s_may (fun wf => ?_)
  unfold c_may
  refine T.seq_k (fun K_h1 h1 => ?_)
  refine T.regi hm ?_
  simp only [↓reduceIte, namesOf, List.any, I.names, aops, aopsI, aopsT, qstep, CPt, qget, Tbl.get, astep, ev, setd, List.set, List.getD, List.getElem?_cons_zero, List.getElem?_cons_succ, List.getElem?_nil, List.cons_append, List.nil_append, List.length_cons, List.length_nil, List.replicate, then_normal, inBlock_normal, Option.getD_some, Option.getD_none, Bool.or_false, Bool.or_true, Bool.true_or, Bool.false_or, Bool.false_eq_true, if_false, if_true, up_zero, Nat.reduceAdd, Nat.reduceSub, binv, ↓opt_def, AV.isAny, AV.cells, ldc, List.map_cons, List.map_nil, St.set_next, St.set_same, St.up_next, Int.natCast_nonneg, lt_len, le_len, Int.toNat_natCast, true_and, and_true, eq_self, reduceCtorEq, decide_true, List.length_singleton, er_int, er_bool, er_str]
  have h0 : ((σ.up 2).set (σ.next + 0) (.obj [t, i, .int .i64 s, .int .i64 e, .sl xs g])).res (σ.next + 0) = some (.obj [t, i, .int .i64 s, .int .i64 e, .sl xs g]) := by simp
  have hq := set1_quiet wf (k := 2) (.obj [t, i, .int .i64 s, .int .i64 e, .sl xs g]) (a := σ.next + 0) (by omega)
  generalize ((σ.up 2).set (σ.next + 0) (.obj [t, i, .int .i64 s, .int .i64 e, .sl xs g])) = σ1 at h0 hq ⊢
  refine h1 _ _ ?_
  try clear h1 K_h1
  refine T.seq_k (fun K_h1 h1 => ?_)
  by_cases c1 : 0 ≤ s
  case neg =>
    have e1 : decide (s ≥ 0) = false := decide_eq_false (by omega)
    refine T.regi hm ?_
    simp only [↓reduceIte, namesOf, List.any, I.names, aops, aopsI, aopsT, qstep, CPt, qget, Tbl.get, astep, ev, setd, List.set, List.getD, List.getElem?_cons_zero, List.getElem?_cons_succ, List.getElem?_nil, List.cons_append, List.nil_append, List.length_cons, List.length_nil, List.replicate, then_normal, inBlock_normal, Option.getD_some, Option.getD_none, Bool.or_false, Bool.or_true, Bool.true_or, Bool.false_or, Bool.false_eq_true, if_false, if_true, up_zero, Nat.reduceAdd, Nat.reduceSub, binv, ↓opt_def, AV.isAny, AV.cells, ldc, List.map_cons, List.map_nil, St.set_next, St.set_same, St.up_next, Int.natCast_nonneg, lt_len, le_len, Int.toNat_natCast, true_and, and_true, eq_self, reduceCtorEq, decide_true, List.length_singleton, er_int, er_bool, er_str, h0, e1, reduceCtorEq]
    refine h1 _ _ ?_
    try clear h1 K_h1
    exact T.ret (Fin.quiet rfl trivial hq ⟨by simp [pack, mayI, c1], rfl⟩)
  have e1 : decide (s ≥ 0) = true := decide_eq_true c1
  by_cases c2 : s ≤ e
  case neg =>
    have e2 : decide (s ≤ e) = false := decide_eq_false c2
    refine T.regi hm ?_
    simp only [↓reduceIte, namesOf, List.any, I.names, aops, aopsI, aopsT, qstep, CPt, qget, Tbl.get, astep, ev, setd, List.set, List.getD, List.getElem?_cons_zero, List.getElem?_cons_succ, List.getElem?_nil, List.cons_append, List.nil_append, List.length_cons, List.length_nil, List.replicate, then_normal, inBlock_normal, Option.getD_some, Option.getD_none, Bool.or_false, Bool.or_true, Bool.true_or, Bool.false_or, Bool.false_eq_true, if_false, if_true, up_zero, Nat.reduceAdd, Nat.reduceSub, binv, ↓opt_def, AV.isAny, AV.cells, ldc, List.map_cons, List.map_nil, St.set_next, St.set_same, St.up_next, Int.natCast_nonneg, lt_len, le_len, Int.toNat_natCast, true_and, and_true, eq_self, reduceCtorEq, decide_true, List.length_singleton, er_int, er_bool, er_str, h0, e1, e2, reduceCtorEq]
    refine h1 _ _ ?_
    try clear h1 K_h1
    exact T.ret (Fin.quiet rfl trivial hq ⟨by simp [pack, mayI, c2], rfl⟩)
  have e2 : decide (s ≤ e) = true := decide_eq_true c2
  by_cases c3 : e ≤ 1099511627776
  case neg =>
    have e3 : decide (e ≤ 1099511627776) = false := decide_eq_false c3
    refine T.regi hm ?_
    simp only [↓reduceIte, namesOf, List.any, I.names, aops, aopsI, aopsT, qstep, CPt, qget, Tbl.get, astep, ev, setd, List.set, List.getD, List.getElem?_cons_zero, List.getElem?_cons_succ, List.getElem?_nil, List.cons_append, List.nil_append, List.length_cons, List.length_nil, List.replicate, then_normal, inBlock_normal, Option.getD_some, Option.getD_none, Bool.or_false, Bool.or_true, Bool.true_or, Bool.false_or, Bool.false_eq_true, if_false, if_true, up_zero, Nat.reduceAdd, Nat.reduceSub, binv, ↓opt_def, AV.isAny, AV.cells, ldc, List.map_cons, List.map_nil, St.set_next, St.set_same, St.up_next, Int.natCast_nonneg, lt_len, le_len, Int.toNat_natCast, true_and, and_true, eq_self, reduceCtorEq, decide_true, List.length_singleton, er_int, er_bool, er_str, h0, e1, e2, e3, reduceCtorEq]
    refine h1 _ _ ?_
    try clear h1 K_h1
    exact T.ret (Fin.quiet rfl trivial hq ⟨by simp [pack, mayI, c3], rfl⟩)
  have e3 : decide (e ≤ 1099511627776) = true := decide_eq_true c3
  refine T.regi hm ?_
  simp only [↓reduceIte, namesOf, List.any, I.names, aops, aopsI, aopsT, qstep, CPt, qget, Tbl.get, astep, ev, setd, List.set, List.getD, List.getElem?_cons_zero, List.getElem?_cons_succ, List.getElem?_nil, List.cons_append, List.nil_append, List.length_cons, List.length_nil, List.replicate, then_normal, inBlock_normal, Option.getD_some, Option.getD_none, Bool.or_false, Bool.or_true, Bool.true_or, Bool.false_or, Bool.false_eq_true, if_false, if_true, up_zero, Nat.reduceAdd, Nat.reduceSub, binv, ↓opt_def, AV.isAny, AV.cells, ldc, List.map_cons, List.map_nil, St.set_next, St.set_same, St.up_next, Int.natCast_nonneg, lt_len, le_len, Int.toNat_natCast, true_and, and_true, eq_self, reduceCtorEq, decide_true, List.length_singleton, er_int, er_bool, er_str, h0, e1, e2, e3, reduceCtorEq]
  refine h1 _ _ ?_
  try clear h1 K_h1
  exact T.ret (Fin.quiet rfl trivial hq ⟨by simp [pack, mayI, c1, c2, c3], rfl⟩)

def g_scmp : List AV → Option AV
  | [.agg [.int .u64 t, .int .u64 i, .int .i64 s, _, _], .agg [.int .u64 t', .int .u64 i', .int .i64 s', _, _]] => some (.int .i64 (cmpS s i t s' i' t'))
  | _ => none

theorem scmp_pure : PureC Try.prog n_scmp g_scmp := by
  intro args σ v h
  unfold g_scmp at h
  split at h
  · simp only [Option.some.injEq] at h; subst h; exact scmp_ok
  · cases h

def g_may : List AV → Option AV
  | [.agg [_, _, .int .i64 s, .int .i64 e, .sl xs _]] => some (.bool (mayI s e xs.length))
  | _ => none

theorem may_pure : PureC Try.prog n_may g_may := by
  intro args σ v h
  unfold g_may at h
  split at h
  · simp only [Option.some.injEq] at h; subst h; exact may_ok
  · cases h

def tS : Tbl := [(n_scmp, g_scmp), (n_may, g_may)]

theorem tS_ok : tS.ok Try.prog := Tbl.ok_cons scmp_pure (Tbl.ok_cons may_pure Tbl.ok_nil)

end Go.VL

namespace Go.VL

open Go.Proofs

theorem spav (s : Sp) : s.av = .agg [.int .u64 (s.tr : Int), .int .u64 (s.id : Int), .int .i64 s.st, .int .i64 s.en, .sl (bytesAV s.da) .none] := rfl

def mayS (s : Sp) : Bool := mayI s.st s.en s.da.length

def cmpSp (a b : Sp) : Int := cmpS a.st a.id a.tr b.st b.id b.tr

def okAt (t : Tc) (i : Nat) : Bool := match t.sp[i]? with
  | some s => decide (s.tr = t.id) && mayS s && !((t.sp.take i).map Sp.id).contains s.id && (i == 0 || (match t.sp[i - 1]? with | some p => decide (cmpSp p s < 0) | none => false))
  | none => false

def oneB (t : Tc) : Bool := (List.range t.sp.length).all (okAt t) && decide (1 ≤ t.sp.length) && decide (t.sp.length ≤ 100)

def metAV (l : List Nat) : List (AV × AV) := l.map fun n : Nat => (.int .u64 (n : Int), .bool true)

theorem met_find (l : List Nat) (n : Nat) : mfind (.int .u64 (n : Int)) (metAV l) = some (if l.contains n then some (.bool true) else none) := by
  induction l with
  | nil => rfl
  | cons a r ih =>
    unfold metAV at ih ⊢
    by_cases h : n = a
    · subst h
      simp [mfind, keq]
    · have h1 : ((n : Int) == (a : Int)) = false := by simp; omega
      have h2 : (n == a) = false := by simpa using h
      have h3 : (a == n) = false := by simpa using fun e => h e.symm
      simp only [List.map_cons, mfind, keq, if_true, h1, ih, List.contains_cons, h2, Bool.false_or]

theorem met_put (l : List Nat) (n : Nat) (h : l.contains n = false) : mput (.int .u64 (n : Int)) (.bool true) (metAV l) = metAV (l ++ [n]) := by
  induction l with
  | nil => rfl
  | cons a r ih =>
    unfold metAV at ih ⊢
    simp only [List.contains_cons, Bool.or_eq_false_iff] at h
    have h1 : ((n : Int) == (a : Int)) = false := by have := h.1; simp at this ⊢; omega
    simp only [List.map_cons, mput, keq, if_true, h1, ih h.2, List.cons_append]

structure OneSt (σ σ' : St) (a m : Nat) (t : Tc) (l : List Nat) : Prop where
  a0 : σ.next ≤ a
  m0 : σ.next ≤ m
  a1 : a < σ'.next
  m1 : m < σ'.next
  obj : σ'.res a = some (.obj t.av.cells)
  map : σ'.res m = some (.map (metAV l) (List.range l.length) l.length)
  old : ∀ n r, σ.res n = some r → σ'.res n = some r

theorem OneSt.other {σ σ' : St} {a m : Nat} {t : Tc} {l : List Nat} (wf : WF σ) (h : OneSt σ σ' a m t l) {k b : Nat} (r : Res) (hb : σ'.next ≤ b) : OneSt σ ((σ'.up k).set b r) a m t l where
  a0 := h.a0
  m0 := h.m0
  a1 := Nat.lt_of_lt_of_le h.a1 (Nat.le_add_right _ _)
  m1 := Nat.lt_of_lt_of_le h.m1 (Nat.le_add_right _ _)
  obj := by rw [St.set_other _ _ (by have := h.a1; omega)]; exact h.obj
  map := by rw [St.set_other _ _ (by have := h.m1; omega)]; exact h.map
  old := fun n r' hr => by
    have hn : n < σ.next := by
      rcases Nat.lt_or_ge n σ.next with h' | h'
      · exact h'
      · rw [wf n h'] at hr; cases hr
    rw [St.set_other _ _ (by have := h.a0; have := h.a1; omega)]; exact h.old n r' hr

theorem OneSt.put {σ σ' : St} {a m : Nat} {t : Tc} {l : List Nat} {n : Nat} (wf : WF σ) (ham : a ≠ m) (h : OneSt σ σ' a m t l) (hn : l.contains n = false) : OneSt σ (σ'.set m (.map (mput (.int .u64 (n : Int)) (.bool true) (metAV l)) (List.range l.length ++ [l.length]) (l.length + 1))) a m t (l ++ [n]) where
  a0 := h.a0
  m0 := h.m0
  a1 := h.a1
  m1 := h.m1
  obj := by rw [St.set_other _ _ ham]; exact h.obj
  map := by rw [St.set_same, met_put l n hn, List.length_append, List.length_singleton, List.range_succ]
  old := fun n r' hr => by
    have hn : n < σ.next := by
      rcases Nat.lt_or_ge n σ.next with h' | h'
      · exact h'
      · rw [wf n h'] at hr; cases hr
    rw [St.set_other _ _ (by have := h.m0; omega)]; exact h.old n r' hr

theorem one_false {t : Tc} {i : Nat} (hi : i < t.sp.length) (h : okAt t i = false) : oneB t = false := by
  unfold oneB
  have : (List.range t.sp.length).all (okAt t) = false := by
    rw [Bool.eq_false_iff]
    intro hh
    have := List.all_eq_true.1 hh i (by simpa using hi)
    rw [h] at this; cases this
  rw [this]; rfl

set_option maxRecDepth 10000 in
set_option maxHeartbeats 4000000 in
theorem tone_ok {t : Tc} {σ : St} (hl : t.sp.length ≤ 9223372036854775807) : ACalls Try.prog n_one [.agg [.int .u64 (t.id : Int), .sl (spsAV t.sp) .none]] σ (fun v σ' => v = .bool (oneB t) ∧ σ' = σ) := by
  refine s_one (fun wf => ?_)
  unfold c_one
  refine T.seq_k (fun K_h1 h1 => ?_)
  refine T.regi hm ?_
  simp only [↓reduceIte, namesOf, List.any, I.names, aops, aopsI, aopsT, qstep, CPt, qget, Tbl.get, astep, ev, setd, List.set, List.getD, List.getElem?_cons_zero, List.getElem?_cons_succ, List.getElem?_nil, List.cons_append, List.nil_append, List.length_cons, List.length_nil, List.replicate, then_normal, inBlock_normal, Option.getD_some, Option.getD_none, Bool.or_false, Bool.or_true, Bool.true_or, Bool.false_or, Bool.false_eq_true, if_false, if_true, up_zero, Nat.reduceAdd, Nat.reduceSub, binv, ↓opt_def, AV.isAny, AV.cells, ldc, List.map_cons, List.map_nil, St.set_next, St.set_same, St.up_next, Int.natCast_nonneg, lt_len, le_len, Int.toNat_natCast, true_and, and_true, eq_self, reduceCtorEq, decide_true, List.length_singleton, er_int, er_bool, er_str]
  refine h1 _ _ ?_
  try clear h1 K_h1
  refine T.seq_k (fun K_h1 h1 => ?_)
  refine T.regi hm ?_
  simp only [↓reduceIte, namesOf, List.any, I.names, aops, aopsI, aopsT, qstep, CPt, qget, Tbl.get, astep, ev, setd, List.set, List.getD, List.getElem?_cons_zero, List.getElem?_cons_succ, List.getElem?_nil, List.cons_append, List.nil_append, List.length_cons, List.length_nil, List.replicate, then_normal, inBlock_normal, Option.getD_some, Option.getD_none, Bool.or_false, Bool.or_true, Bool.true_or, Bool.false_or, Bool.false_eq_true, if_false, if_true, up_zero, Nat.reduceAdd, Nat.reduceSub, binv, ↓opt_def, AV.isAny, AV.cells, ldc, List.map_cons, List.map_nil, St.set_next, St.set_same, St.up_next, Int.natCast_nonneg, lt_len, le_len, Int.toNat_natCast, true_and, and_true, eq_self, reduceCtorEq, decide_true, List.length_singleton, er_int, er_bool, er_str]
  have o0 : OneSt σ ((((σ.up 2).set (σ.next + 0) (.obj [.int .u64 (t.id : Int), .sl (spsAV t.sp) .none])).up 2).set (σ.next + 2 + 0) (.map [] [] 0)) (σ.next + 0) (σ.next + 2 + 0) t [] := by
    refine ⟨by omega, by omega, by simp; omega, by simp, ?_, by simp [metAV], fun n r hr => ?_⟩
    · rw [St.set_other _ _ (by omega)]; simp [tccells]
    · have hn : n < σ.next := by
        rcases Nat.lt_or_ge n σ.next with h' | h'
        · exact h'
        · rw [wf n h'] at hr; cases hr
      rw [St.set_other _ _ (by omega), St.up_res, St.set_other _ _ (by omega)]; exact hr
  have ham : σ.next + 0 ≠ σ.next + 2 + 0 := by omega
  generalize ((((σ.up 2).set (σ.next + 0) (.obj [.int .u64 (t.id : Int), .sl (spsAV t.sp) .none])).up 2).set (σ.next + 2 + 0) (.map [] [] 0)) = σ1 at o0 ⊢
  generalize σ.next + 0 = a at o0 ham ⊢
  generalize σ.next + 2 + 0 = m at o0 ham ⊢
  refine h1 _ _ ?_
  try clear h1 K_h1
  refine T.seq_k (fun K_h1 h1 => ?_)
  refine T.seq_k (fun K_h2 h2 => ?_)
  have ha := o0.obj
  rw [tccells] at ha
  refine T.regi hm ?_
  simp only [↓reduceIte, namesOf, List.any, I.names, aops, aopsI, aopsT, qstep, CPt, qget, Tbl.get, astep, ev, setd, List.set, List.getD, List.getElem?_cons_zero, List.getElem?_cons_succ, List.getElem?_nil, List.cons_append, List.nil_append, List.length_cons, List.length_nil, List.replicate, then_normal, inBlock_normal, Option.getD_some, Option.getD_none, Bool.or_false, Bool.or_true, Bool.true_or, Bool.false_or, Bool.false_eq_true, if_false, if_true, up_zero, Nat.reduceAdd, Nat.reduceSub, binv, ↓opt_def, AV.isAny, AV.cells, ldc, List.map_cons, List.map_nil, St.set_next, St.set_same, St.up_next, Int.natCast_nonneg, lt_len, le_len, Int.toNat_natCast, true_and, and_true, eq_self, reduceCtorEq, decide_true, List.length_singleton, er_int, er_bool, er_str, ha, sps_len]
  refine h2 _ _ ?_
  try clear h2 K_h2
  clear ha
  refine T.block ?_
  refine T.gh (Gh.keep [1, 3, 8, 9, 10]) ?_
  refine T.loopi (fun i ρ σ' => OneSt σ σ' a m t ((t.sp.take i).map Sp.id) ∧ (List.range i).all (okAt t) = true ∧ ρ = [.any, .ptr a 0, .any, .map m, .any, .any, .any, .any, .sl (spsAV t.sp) .none, .int .i64 (t.sp.length : Int), .int .i64 (i : Int)] ++ List.replicate 49 .any)
    t.sp.length 0 (Nat.zero_le _) ⟨o0, rfl, rfl⟩ ?_
  clear o0 σ1
  rintro i ρ σ' hi ⟨o1, hpre, rfl⟩
  refine T.seq_k (fun K_h2 h2 => ?_)
  refine T.regi hm ?_
  simp only [↓reduceIte, namesOf, List.any, I.names, aops, aopsI, aopsT, qstep, CPt, qget, Tbl.get, astep, ev, setd, List.set, List.getD, List.getElem?_cons_zero, List.getElem?_cons_succ, List.getElem?_nil, List.cons_append, List.nil_append, List.length_cons, List.length_nil, List.replicate, then_normal, inBlock_normal, Option.getD_some, Option.getD_none, Bool.or_false, Bool.or_true, Bool.true_or, Bool.false_or, Bool.false_eq_true, if_false, if_true, up_zero, Nat.reduceAdd, Nat.reduceSub, binv, ↓opt_def, AV.isAny, AV.cells, ldc, List.map_cons, List.map_nil, St.set_next, St.set_same, St.up_next, Int.natCast_nonneg, lt_len, le_len, Int.toNat_natCast, true_and, and_true, eq_self, reduceCtorEq, decide_true, List.length_singleton, er_int, er_bool, er_str]
  refine h2 _ _ ?_
  try clear h2 K_h2
  refine T.seq_k (fun K_h2 h2 => ?_)
  refine T.cond rfl (fun hb => ?_) (fun hb => ?_)
  · refine T.skip ?_
    refine h2 _ _ ?_
    try clear h2 K_h2
    have hil : i < t.sp.length := by simpa using hb
    clear hb
    generalize hs : t.sp[i] = s
    have hsi : t.sp[i]? = some s := by rw [← hs]; simp [hil]
    refine T.seq_k (fun K_h2 h2 => ?_)
    refine T.block ?_
    refine T.seq_k (fun K_h3 h3 => ?_)
    refine T.regi hm ?_
    simp only [↓reduceIte, namesOf, List.any, I.names, aops, aopsI, aopsT, qstep, CPt, qget, Tbl.get, astep, ev, setd, List.set, List.getD, List.getElem?_cons_zero, List.getElem?_cons_succ, List.getElem?_nil, List.cons_append, List.nil_append, List.length_cons, List.length_nil, List.replicate, then_normal, inBlock_normal, Option.getD_some, Option.getD_none, Bool.or_false, Bool.or_true, Bool.true_or, Bool.false_or, Bool.false_eq_true, if_false, if_true, up_zero, Nat.reduceAdd, Nat.reduceSub, binv, ↓opt_def, AV.isAny, AV.cells, ldc, List.map_cons, List.map_nil, St.set_next, St.set_same, St.up_next, Int.natCast_nonneg, lt_len, le_len, Int.toNat_natCast, true_and, and_true, eq_self, reduceCtorEq, decide_true, List.length_singleton, er_int, er_bool, er_str, sps_len, sps_get hil, hil, hs, spav, AV.fits, AV.one, List.all_cons, List.all_nil, Nat.reduceBEq, Bool.and_true, Bool.not_false, Bool.and_self, Nat.zero_add, splice, List.take, List.drop, Nat.reduceLeDiff, St.set_set]
    have o2 := o1.other wf (k := 6) (.obj [.int .u64 (s.tr : Int), .int .u64 (s.id : Int), .int .i64 s.st, .int .i64 s.en, .sl (bytesAV s.da) .none]) (b := σ'.next + 3) (by omega)
    have hb5 : ((σ'.up 6).set (σ'.next + 3) (.obj [.int .u64 (s.tr : Int), .int .u64 (s.id : Int), .int .i64 s.st, .int .i64 s.en, .sl (bytesAV s.da) .none])).res (σ'.next + 3) = some (.obj [.int .u64 (s.tr : Int), .int .u64 (s.id : Int), .int .i64 s.st, .int .i64 s.en, .sl (bytesAV s.da) .none]) := by simp
    have hbn : σ'.next + 3 < ((σ'.up 6).set (σ'.next + 3) (.obj [.int .u64 (s.tr : Int), .int .u64 (s.id : Int), .int .i64 s.st, .int .i64 s.en, .sl (bytesAV s.da) .none])).next := by simp
    have hbm : σ'.next + 3 ≠ m := by have := o1.m1; omega
    clear o1
    generalize ((σ'.up 6).set (σ'.next + 3) (.obj [.int .u64 (s.tr : Int), .int .u64 (s.id : Int), .int .i64 s.st, .int .i64 s.en, .sl (bytesAV s.da) .none])) = σ2 at o2 hb5 hbn ⊢
    generalize σ'.next + 3 = b at hb5 hbn hbm ⊢
    refine h3 _ _ ?_
    try clear h3 K_h3
    have ha := o2.obj
    rw [tccells] at ha
    have hm2 := o2.map
    refine T.seq_k (fun K_h3 h3 => ?_)
    refine T.seq_k (fun K_h4 h4 => ?_)
    -- the four parts
    have fin : okAt t i = false → ∀ ρ' : List AV, ρ'.getD 2 .any = .bool false → Fin σ [.t 2] (fun v σ' => v = .bool (oneB t) ∧ σ' = σ) .ret ρ' σ2 := by
      intro hf ρ' hρ
      refine Fin.quiet (xs := [ρ'.getD 2 .any]) rfl (by rw [hρ]; trivial) o2.old ⟨?_, rfl⟩
      rw [one_false hil hf, hρ]; rfl
    by_cases c1 : s.tr = t.id
    case neg =>
      have e1 : ((s.tr : Int) != (t.id : Int)) = true := by simp; omega
      refine T.regt hm tS_ok ?_
      simp only [↓reduceIte, namesOf, List.any, I.names, aops, aopsI, aopsT, qstep, CPt, qget, Tbl.get, astep, ev, setd, List.set, List.getD, List.getElem?_cons_zero, List.getElem?_cons_succ, List.getElem?_nil, List.cons_append, List.nil_append, List.length_cons, List.length_nil, List.replicate, then_normal, inBlock_normal, Option.getD_some, Option.getD_none, Bool.or_false, Bool.or_true, Bool.true_or, Bool.false_or, Bool.false_eq_true, if_false, if_true, up_zero, Nat.reduceAdd, Nat.reduceSub, binv, ↓opt_def, AV.isAny, AV.cells, ldc, List.map_cons, List.map_nil, St.set_next, St.set_same, St.up_next, Int.natCast_nonneg, lt_len, le_len, Int.toNat_natCast, true_and, and_true, eq_self, reduceCtorEq, decide_true, List.length_singleton, er_int, er_bool, er_str, Nat.reduceEqDiff, tS, n_scmp, n_may, hb5, ha, e1, reduceCtorEq]
      refine h4 _ _ ?_
      try clear h4 K_h4
      refine T.cond rfl (fun _ => ?_) (fun h => by cases h)
      refine T.seq_k (fun K_h4 h4 => ?_)
      refine T.regi hm ?_
      simp only [↓reduceIte, namesOf, List.any, I.names, aops, aopsI, aopsT, qstep, CPt, qget, Tbl.get, astep, ev, setd, List.set, List.getD, List.getElem?_cons_zero, List.getElem?_cons_succ, List.getElem?_nil, List.cons_append, List.nil_append, List.length_cons, List.length_nil, List.replicate, then_normal, inBlock_normal, Option.getD_some, Option.getD_none, Bool.or_false, Bool.or_true, Bool.true_or, Bool.false_or, Bool.false_eq_true, if_false, if_true, up_zero, Nat.reduceAdd, Nat.reduceSub, binv, ↓opt_def, AV.isAny, AV.cells, ldc, List.map_cons, List.map_nil, St.set_next, St.set_same, St.up_next, Int.natCast_nonneg, lt_len, le_len, Int.toNat_natCast, true_and, and_true, eq_self, reduceCtorEq, decide_true, List.length_singleton, er_int, er_bool, er_str]
      refine h4 _ _ ?_
      try clear h4 K_h4
      exact T.ret (fin (by unfold okAt; simp [hsi, c1]) _ rfl)
    have e1 : ((s.tr : Int) != (t.id : Int)) = false := by simp; omega
    cases c2 : mayS s with
    | false =>
      have e2 : mayI s.st s.en (bytesAV s.da).length = false := by rw [bytesAV_len]; exact c2
      refine T.regt hm tS_ok ?_
      simp only [↓reduceIte, namesOf, List.any, I.names, aops, aopsI, aopsT, qstep, CPt, qget, Tbl.get, astep, ev, setd, List.set, List.getD, List.getElem?_cons_zero, List.getElem?_cons_succ, List.getElem?_nil, List.cons_append, List.nil_append, List.length_cons, List.length_nil, List.replicate, then_normal, inBlock_normal, Option.getD_some, Option.getD_none, Bool.or_false, Bool.or_true, Bool.true_or, Bool.false_or, Bool.false_eq_true, if_false, if_true, up_zero, Nat.reduceAdd, Nat.reduceSub, binv, ↓opt_def, AV.isAny, AV.cells, ldc, List.map_cons, List.map_nil, St.set_next, St.set_same, St.up_next, Int.natCast_nonneg, lt_len, le_len, Int.toNat_natCast, true_and, and_true, eq_self, reduceCtorEq, decide_true, List.length_singleton, er_int, er_bool, er_str, Nat.reduceEqDiff, tS, n_scmp, n_may, hb5, ha, e1, g_may, e2, AV.fits, AV.one, List.all_cons, List.all_nil, Nat.reduceBEq, Bool.and_true, Bool.not_false, Bool.and_self, Nat.zero_add, splice, List.take, List.drop, Nat.reduceLeDiff, Bool.not_false, reduceCtorEq]
      refine h4 _ _ ?_
      try clear h4 K_h4
      refine T.cond rfl (fun _ => ?_) (fun h => by cases h)
      refine T.seq_k (fun K_h4 h4 => ?_)
      refine T.regi hm ?_
      simp only [↓reduceIte, namesOf, List.any, I.names, aops, aopsI, aopsT, qstep, CPt, qget, Tbl.get, astep, ev, setd, List.set, List.getD, List.getElem?_cons_zero, List.getElem?_cons_succ, List.getElem?_nil, List.cons_append, List.nil_append, List.length_cons, List.length_nil, List.replicate, then_normal, inBlock_normal, Option.getD_some, Option.getD_none, Bool.or_false, Bool.or_true, Bool.true_or, Bool.false_or, Bool.false_eq_true, if_false, if_true, up_zero, Nat.reduceAdd, Nat.reduceSub, binv, ↓opt_def, AV.isAny, AV.cells, ldc, List.map_cons, List.map_nil, St.set_next, St.set_same, St.up_next, Int.natCast_nonneg, lt_len, le_len, Int.toNat_natCast, true_and, and_true, eq_self, reduceCtorEq, decide_true, List.length_singleton, er_int, er_bool, er_str]
      refine h4 _ _ ?_
      try clear h4 K_h4
      exact T.ret (fin (by unfold okAt; simp [hsi, c2]) _ rfl)
    | true =>
    have e2 : mayI s.st s.en (bytesAV s.da).length = true := by rw [bytesAV_len]; exact c2
    cases c3 : ((t.sp.take i).map Sp.id).contains s.id with
    | true =>
      have e3 : mfind (.int .u64 (s.id : Int)) (metAV ((t.sp.take i).map Sp.id)) = some (some (.bool true)) := by rw [met_find, c3]; rfl
      refine T.regt hm tS_ok ?_
      simp only [↓reduceIte, namesOf, List.any, I.names, aops, aopsI, aopsT, qstep, CPt, qget, Tbl.get, astep, ev, setd, List.set, List.getD, List.getElem?_cons_zero, List.getElem?_cons_succ, List.getElem?_nil, List.cons_append, List.nil_append, List.length_cons, List.length_nil, List.replicate, then_normal, inBlock_normal, Option.getD_some, Option.getD_none, Bool.or_false, Bool.or_true, Bool.true_or, Bool.false_or, Bool.false_eq_true, if_false, if_true, up_zero, Nat.reduceAdd, Nat.reduceSub, binv, ↓opt_def, AV.isAny, AV.cells, ldc, List.map_cons, List.map_nil, St.set_next, St.set_same, St.up_next, Int.natCast_nonneg, lt_len, le_len, Int.toNat_natCast, true_and, and_true, eq_self, reduceCtorEq, decide_true, List.length_singleton, er_int, er_bool, er_str, Nat.reduceEqDiff, tS, n_scmp, n_may, hb5, ha, e1, g_may, e2, hm2, e3, kshape, AV.fits, AV.one, List.all_cons, List.all_nil, Nat.reduceBEq, Bool.and_true, Bool.not_false, Bool.and_self, Nat.zero_add, splice, List.take, List.drop, Nat.reduceLeDiff, Bool.not_true, reduceCtorEq]
      refine h4 _ _ ?_
      try clear h4 K_h4
      refine T.cond rfl (fun _ => ?_) (fun h => by cases h)
      refine T.seq_k (fun K_h4 h4 => ?_)
      refine T.regi hm ?_
      simp only [↓reduceIte, namesOf, List.any, I.names, aops, aopsI, aopsT, qstep, CPt, qget, Tbl.get, astep, ev, setd, List.set, List.getD, List.getElem?_cons_zero, List.getElem?_cons_succ, List.getElem?_nil, List.cons_append, List.nil_append, List.length_cons, List.length_nil, List.replicate, then_normal, inBlock_normal, Option.getD_some, Option.getD_none, Bool.or_false, Bool.or_true, Bool.true_or, Bool.false_or, Bool.false_eq_true, if_false, if_true, up_zero, Nat.reduceAdd, Nat.reduceSub, binv, ↓opt_def, AV.isAny, AV.cells, ldc, List.map_cons, List.map_nil, St.set_next, St.set_same, St.up_next, Int.natCast_nonneg, lt_len, le_len, Int.toNat_natCast, true_and, and_true, eq_self, reduceCtorEq, decide_true, List.length_singleton, er_int, er_bool, er_str]
      refine h4 _ _ ?_
      try clear h4 K_h4
      exact T.ret (fin (by unfold okAt; simp only [hsi, c3, Bool.not_true, Bool.and_false, Bool.false_and]) _ rfl)
    | false =>
    have e3 : mfind (.int .u64 (s.id : Int)) (metAV ((t.sp.take i).map Sp.id)) = some none := by rw [met_find, c3]; rfl
    -- what comes behind a good one
    have cont : okAt t i = true → OneSt σ (σ2.set m (.map (mput (.int .u64 (s.id : Int)) (.bool true) (metAV ((t.sp.take i).map Sp.id))) (List.range ((t.sp.take i).map Sp.id).length ++ [((t.sp.take i).map Sp.id).length]) (((t.sp.take i).map Sp.id).length + 1))) a m t ((t.sp.take (i + 1)).map Sp.id) ∧ (List.range (i + 1)).all (okAt t) = true := by
      intro hk
      refine ⟨?_, ?_⟩
      · rw [List.take_succ_eq_append_getElem hil, List.map_append, hs]
        exact o2.put wf ham c3
      · rw [List.range_succ, List.all_append, hpre]; simp [hk]
    have hw := inc64 hil hl
    cases i with
    | zero =>
      have hok : okAt t 0 = true := by unfold okAt; rw [hsi]; simp [c1, c2]
      have hz : decide (((0 : Nat) : Int) > 0) = false := rfl
      refine T.regt hm tS_ok ?_
      simp only [↓reduceIte, namesOf, List.any, I.names, aops, aopsI, aopsT, qstep, CPt, qget, Tbl.get, astep, ev, setd, List.set, List.getD, List.getElem?_cons_zero, List.getElem?_cons_succ, List.getElem?_nil, List.cons_append, List.nil_append, List.length_cons, List.length_nil, List.replicate, then_normal, inBlock_normal, Option.getD_some, Option.getD_none, Bool.or_false, Bool.or_true, Bool.true_or, Bool.false_or, Bool.false_eq_true, if_false, if_true, up_zero, Nat.reduceAdd, Nat.reduceSub, binv, ↓opt_def, AV.isAny, AV.cells, ldc, List.map_cons, List.map_nil, St.set_next, St.set_same, St.up_next, Int.natCast_nonneg, lt_len, le_len, Int.toNat_natCast, true_and, and_true, eq_self, reduceCtorEq, decide_true, List.length_singleton, er_int, er_bool, er_str, Nat.reduceEqDiff, tS, n_scmp, n_may, hb5, ha, e1, g_may, e2, hm2, e3, kshape, AV.fits, AV.one, List.all_cons, List.all_nil, Nat.reduceBEq, Bool.and_true, Bool.not_false, Bool.and_self, Nat.zero_add, splice, List.take, List.drop, Nat.reduceLeDiff, Bool.not_true, reduceCtorEq, hz]
      refine h4 _ _ ?_
      try clear h4 K_h4
      refine T.cond rfl (fun h => by cases h) (fun _ => ?_)
      refine T.skip ?_
      refine h3 _ _ ?_
      try clear h3 K_h3
      refine T.regi hm ?_
      simp only [↓reduceIte, namesOf, List.any, I.names, aops, aopsI, aopsT, qstep, CPt, qget, Tbl.get, astep, ev, setd, List.set, List.getD, List.getElem?_cons_zero, List.getElem?_cons_succ, List.getElem?_nil, List.cons_append, List.nil_append, List.length_cons, List.length_nil, List.replicate, then_normal, inBlock_normal, Option.getD_some, Option.getD_none, Bool.or_false, Bool.or_true, Bool.true_or, Bool.false_or, Bool.false_eq_true, if_false, if_true, up_zero, Nat.reduceAdd, Nat.reduceSub, binv, ↓opt_def, AV.isAny, AV.cells, ldc, List.map_cons, List.map_nil, St.set_next, St.set_same, St.up_next, Int.natCast_nonneg, lt_len, le_len, Int.toNat_natCast, true_and, and_true, eq_self, reduceCtorEq, decide_true, List.length_singleton, er_int, er_bool, er_str, hb5, hm2, e3, kshape]
      refine h2 _ _ ?_
      try clear h2 K_h2
      obtain ⟨k1, k2⟩ := cont hok
      refine T.regi hm ?_
      simp only [↓reduceIte, namesOf, List.any, I.names, aops, aopsI, aopsT, qstep, CPt, qget, Tbl.get, astep, ev, setd, List.set, List.getD, List.getElem?_cons_zero, List.getElem?_cons_succ, List.getElem?_nil, List.cons_append, List.nil_append, List.length_cons, List.length_nil, List.replicate, then_normal, inBlock_normal, Option.getD_some, Option.getD_none, Bool.or_false, Bool.or_true, Bool.true_or, Bool.false_or, Bool.false_eq_true, if_false, if_true, up_zero, Nat.reduceAdd, Nat.reduceSub, binv, ↓opt_def, AV.isAny, AV.cells, ldc, List.map_cons, List.map_nil, St.set_next, St.set_same, St.up_next, Int.natCast_nonneg, lt_len, le_len, Int.toNat_natCast, true_and, and_true, eq_self, reduceCtorEq, decide_true, List.length_singleton, er_int, er_bool, er_str, hw]
      exact ⟨hil, _, _, Gh.keep [1, 3, 8, 9, 10], k1, k2, rfl⟩
    | succ j =>
      have hjl : j < t.sp.length := by omega
      generalize hp : t.sp[j] = p
      have hpj : t.sp[j]? = some p := by rw [← hp]; simp [hjl]
      have hz : decide (((j + 1 : Nat) : Int) > 0) = true := decide_eq_true (by omega)
      have hd : IntKind.i64.wrap (((j + 1 : Nat) : Int) - 1) = (j : Int) := by rw [wrap64 (by omega) (by omega)]; omega
      by_cases c4 : cmpSp p s < 0
      · have hok : okAt t (j + 1) = true := by unfold okAt; rw [hsi]; simp [c1, c2, hpj, c4]; simpa using c3
        have e4 : decide (cmpS p.st p.id p.tr s.st s.id s.tr ≥ 0) = false := decide_eq_false (by have : cmpS p.st p.id p.tr s.st s.id s.tr < 0 := c4; omega)
        refine T.regt hm tS_ok ?_
        simp only [↓reduceIte, namesOf, List.any, I.names, aops, aopsI, aopsT, qstep, CPt, qget, Tbl.get, astep, ev, setd, List.set, List.getD, List.getElem?_cons_zero, List.getElem?_cons_succ, List.getElem?_nil, List.cons_append, List.nil_append, List.length_cons, List.length_nil, List.replicate, then_normal, inBlock_normal, Option.getD_some, Option.getD_none, Bool.or_false, Bool.or_true, Bool.true_or, Bool.false_or, Bool.false_eq_true, if_false, if_true, up_zero, Nat.reduceAdd, Nat.reduceSub, binv, ↓opt_def, AV.isAny, AV.cells, ldc, List.map_cons, List.map_nil, St.set_next, St.set_same, St.up_next, Int.natCast_nonneg, lt_len, le_len, Int.toNat_natCast, true_and, and_true, eq_self, reduceCtorEq, decide_true, List.length_singleton, er_int, er_bool, er_str, Nat.reduceEqDiff, tS, n_scmp, n_may, hb5, ha, e1, g_may, g_scmp, e2, hm2, e3, kshape, AV.fits, AV.one, List.all_cons, List.all_nil, Nat.reduceBEq, Bool.and_true, Bool.not_false, Bool.and_self, Nat.zero_add, splice, List.take, List.drop, Nat.reduceLeDiff, Bool.not_true, reduceCtorEq, hz, hd, sps_len, sps_get hjl, hjl, hp, spav, e4]
        refine h4 _ _ ?_
        try clear h4 K_h4
        refine T.cond rfl (fun h => by cases h) (fun _ => ?_)
        refine T.skip ?_
        refine h3 _ _ ?_
        try clear h3 K_h3
        refine T.regi hm ?_
        simp only [↓reduceIte, namesOf, List.any, I.names, aops, aopsI, aopsT, qstep, CPt, qget, Tbl.get, astep, ev, setd, List.set, List.getD, List.getElem?_cons_zero, List.getElem?_cons_succ, List.getElem?_nil, List.cons_append, List.nil_append, List.length_cons, List.length_nil, List.replicate, then_normal, inBlock_normal, Option.getD_some, Option.getD_none, Bool.or_false, Bool.or_true, Bool.true_or, Bool.false_or, Bool.false_eq_true, if_false, if_true, up_zero, Nat.reduceAdd, Nat.reduceSub, binv, ↓opt_def, AV.isAny, AV.cells, ldc, List.map_cons, List.map_nil, St.set_next, St.set_same, St.up_next, Int.natCast_nonneg, lt_len, le_len, Int.toNat_natCast, true_and, and_true, eq_self, reduceCtorEq, decide_true, List.length_singleton, er_int, er_bool, er_str, hb5, hm2, e3, kshape]
        refine h2 _ _ ?_
        try clear h2 K_h2
        obtain ⟨k1, k2⟩ := cont hok
        refine T.regi hm ?_
        simp only [↓reduceIte, namesOf, List.any, I.names, aops, aopsI, aopsT, qstep, CPt, qget, Tbl.get, astep, ev, setd, List.set, List.getD, List.getElem?_cons_zero, List.getElem?_cons_succ, List.getElem?_nil, List.cons_append, List.nil_append, List.length_cons, List.length_nil, List.replicate, then_normal, inBlock_normal, Option.getD_some, Option.getD_none, Bool.or_false, Bool.or_true, Bool.true_or, Bool.false_or, Bool.false_eq_true, if_false, if_true, up_zero, Nat.reduceAdd, Nat.reduceSub, binv, ↓opt_def, AV.isAny, AV.cells, ldc, List.map_cons, List.map_nil, St.set_next, St.set_same, St.up_next, Int.natCast_nonneg, lt_len, le_len, Int.toNat_natCast, true_and, and_true, eq_self, reduceCtorEq, decide_true, List.length_singleton, er_int, er_bool, er_str, hw]
        exact ⟨hil, _, _, Gh.keep [1, 3, 8, 9, 10], k1, k2, rfl⟩
      · have e4 : decide (cmpS p.st p.id p.tr s.st s.id s.tr ≥ 0) = true := decide_eq_true (by have : ¬ cmpS p.st p.id p.tr s.st s.id s.tr < 0 := c4; omega)
        refine T.regt hm tS_ok ?_
        simp only [↓reduceIte, namesOf, List.any, I.names, aops, aopsI, aopsT, qstep, CPt, qget, Tbl.get, astep, ev, setd, List.set, List.getD, List.getElem?_cons_zero, List.getElem?_cons_succ, List.getElem?_nil, List.cons_append, List.nil_append, List.length_cons, List.length_nil, List.replicate, then_normal, inBlock_normal, Option.getD_some, Option.getD_none, Bool.or_false, Bool.or_true, Bool.true_or, Bool.false_or, Bool.false_eq_true, if_false, if_true, up_zero, Nat.reduceAdd, Nat.reduceSub, binv, ↓opt_def, AV.isAny, AV.cells, ldc, List.map_cons, List.map_nil, St.set_next, St.set_same, St.up_next, Int.natCast_nonneg, lt_len, le_len, Int.toNat_natCast, true_and, and_true, eq_self, reduceCtorEq, decide_true, List.length_singleton, er_int, er_bool, er_str, Nat.reduceEqDiff, tS, n_scmp, n_may, hb5, ha, e1, g_may, g_scmp, e2, hm2, e3, kshape, AV.fits, AV.one, List.all_cons, List.all_nil, Nat.reduceBEq, Bool.and_true, Bool.not_false, Bool.and_self, Nat.zero_add, splice, List.take, List.drop, Nat.reduceLeDiff, Bool.not_true, reduceCtorEq, hz, hd, sps_len, sps_get hjl, hjl, hp, spav, e4]
        refine h4 _ _ ?_
        try clear h4 K_h4
        refine T.cond rfl (fun _ => ?_) (fun h => by cases h)
        refine T.seq_k (fun K_h4 h4 => ?_)
        refine T.regi hm ?_
        simp only [↓reduceIte, namesOf, List.any, I.names, aops, aopsI, aopsT, qstep, CPt, qget, Tbl.get, astep, ev, setd, List.set, List.getD, List.getElem?_cons_zero, List.getElem?_cons_succ, List.getElem?_nil, List.cons_append, List.nil_append, List.length_cons, List.length_nil, List.replicate, then_normal, inBlock_normal, Option.getD_some, Option.getD_none, Bool.or_false, Bool.or_true, Bool.true_or, Bool.false_or, Bool.false_eq_true, if_false, if_true, up_zero, Nat.reduceAdd, Nat.reduceSub, binv, ↓opt_def, AV.isAny, AV.cells, ldc, List.map_cons, List.map_nil, St.set_next, St.set_same, St.up_next, Int.natCast_nonneg, lt_len, le_len, Int.toNat_natCast, true_and, and_true, eq_self, reduceCtorEq, decide_true, List.length_singleton, er_int, er_bool, er_str]
        refine h4 _ _ ?_
        try clear h4 K_h4
        exact T.ret (fin (by unfold okAt; rw [hsi]; simp [hpj, c4]) _ rfl)
  · refine T.exit ?_
    have : i = t.sp.length := by simp at hb; omega
    subst this
    try simp only [↓reduceIte, namesOf, List.any, I.names, aops, aopsI, aopsT, qstep, CPt, qget, Tbl.get, astep, ev, setd, List.set, List.getD, List.getElem?_cons_zero, List.getElem?_cons_succ, List.getElem?_nil, List.cons_append, List.nil_append, List.length_cons, List.length_nil, List.replicate, then_normal, inBlock_normal, Option.getD_some, Option.getD_none, Bool.or_false, Bool.or_true, Bool.true_or, Bool.false_or, Bool.false_eq_true, if_false, if_true, up_zero, Nat.reduceAdd, Nat.reduceSub, binv, ↓opt_def, AV.isAny, AV.cells, ldc, List.map_cons, List.map_nil, St.set_next, St.set_same, St.up_next, Int.natCast_nonneg, lt_len, le_len, Int.toNat_natCast, true_and, and_true, eq_self, reduceCtorEq, decide_true, List.length_singleton, er_int, er_bool, er_str, inBlock_exit, then_exit]
    refine h1 _ _ ?_
    try clear h1 K_h1
    have ha := o1.obj
    rw [tccells] at ha
    refine T.seq_k (fun K_h1 h1 => ?_)
    have fin : ∀ (x : Bool) (ρ' : List AV), oneB t = x → ρ'.getD 2 .any = .bool x → Fin σ [.t 2] (fun v σ' => v = .bool (oneB t) ∧ σ' = σ) .ret ρ' σ' := by
      intro x ρ' hx hρ
      refine Fin.quiet (xs := [ρ'.getD 2 .any]) rfl (by rw [hρ]; trivial) o1.old ⟨?_, rfl⟩
      rw [hx, hρ]; rfl
    by_cases c1 : 1 ≤ t.sp.length
    · have e1 : decide ((t.sp.length : Int) ≥ 1) = true := decide_eq_true (by omega)
      refine T.regi hm ?_
      simp only [↓reduceIte, namesOf, List.any, I.names, aops, aopsI, aopsT, qstep, CPt, qget, Tbl.get, astep, ev, setd, List.set, List.getD, List.getElem?_cons_zero, List.getElem?_cons_succ, List.getElem?_nil, List.cons_append, List.nil_append, List.length_cons, List.length_nil, List.replicate, then_normal, inBlock_normal, Option.getD_some, Option.getD_none, Bool.or_false, Bool.or_true, Bool.true_or, Bool.false_or, Bool.false_eq_true, if_false, if_true, up_zero, Nat.reduceAdd, Nat.reduceSub, binv, ↓opt_def, AV.isAny, AV.cells, ldc, List.map_cons, List.map_nil, St.set_next, St.set_same, St.up_next, Int.natCast_nonneg, lt_len, le_len, Int.toNat_natCast, true_and, and_true, eq_self, reduceCtorEq, decide_true, List.length_singleton, er_int, er_bool, er_str, ha, sps_len, e1]
      refine h1 _ _ ?_
      try clear h1 K_h1
      refine T.ret (fin _ _ ?_ rfl)
      unfold oneB
      rw [hpre, decide_eq_true c1]
      have : decide ((t.sp.length : Int) ≤ 100) = decide (t.sp.length ≤ 100) := by rw [decide_eq_decide]; omega
      rw [this]; rfl
    · have e1 : decide ((t.sp.length : Int) ≥ 1) = false := decide_eq_false (by omega)
      refine T.regi hm ?_
      simp only [↓reduceIte, namesOf, List.any, I.names, aops, aopsI, aopsT, qstep, CPt, qget, Tbl.get, astep, ev, setd, List.set, List.getD, List.getElem?_cons_zero, List.getElem?_cons_succ, List.getElem?_nil, List.cons_append, List.nil_append, List.length_cons, List.length_nil, List.replicate, then_normal, inBlock_normal, Option.getD_some, Option.getD_none, Bool.or_false, Bool.or_true, Bool.true_or, Bool.false_or, Bool.false_eq_true, if_false, if_true, up_zero, Nat.reduceAdd, Nat.reduceSub, binv, ↓opt_def, AV.isAny, AV.cells, ldc, List.map_cons, List.map_nil, St.set_next, St.set_same, St.up_next, Int.natCast_nonneg, lt_len, le_len, Int.toNat_natCast, true_and, and_true, eq_self, reduceCtorEq, decide_true, List.length_singleton, er_int, er_bool, er_str, ha, sps_len, e1]
      refine h1 _ _ ?_
      try clear h1 K_h1
      refine T.ret (fin _ _ ?_ rfl)
      unfold oneB
      rw [hpre, decide_eq_false c1]; rfl

end Go.VL

namespace Go.VL

open Go.Proofs

theorem bytesAV_inj {a b : List UInt8} (h : bytesAV a = bytesAV b) : a = b := by
  have := congrArg toBytes h
  rw [toBytes_bytes, toBytes_bytes] at this
  exact Option.some.inj this

theorem spav_inj {a b : Sp} (h : a.av = b.av) : a = b := by
  obtain ⟨a1, a2, a3, a4, a5⟩ := a
  obtain ⟨b1, b2, b3, b4, b5⟩ := b
  simp only [Sp.av, AV.agg.injEq, List.cons.injEq, AV.int.injEq, true_and, AV.sl.injEq, and_true] at h
  obtain ⟨h1, h2, h3, h4, h5⟩ := h
  simp only [Sp.mk.injEq]
  exact ⟨by omega, by omega, h3, h4, bytesAV_inj h5⟩

theorem spsAV_inj : ∀ {a b : List Sp}, spsAV a = spsAV b → a = b
  | [], [], _ => rfl
  | [], _ :: _, h => by cases h
  | _ :: _, [], h => by cases h
  | x :: a, y :: b, h => by
    simp only [spsAV, List.map_cons, List.cons.injEq] at h
    rw [spav_inj h.1, spsAV_inj (a := a) (b := b) h.2]

open Classical in
noncomputable def g_one (args : List AV) : Option AV :=
  if h : ∃ t : Tc, args = [.agg [.int .u64 (t.id : Int), .sl (spsAV t.sp) .none]] ∧ t.sp.length ≤ 9223372036854775807 then some (.bool (oneB h.choose)) else none

theorem one_inj {t c : Tc} (h : [AV.agg [.int .u64 (t.id : Int), .sl (spsAV t.sp) .none]] = [.agg [.int .u64 (c.id : Int), .sl (spsAV c.sp) .none]]) : c = t := by
  simp only [List.cons.injEq, and_true, AV.agg.injEq, AV.int.injEq, true_and, AV.sl.injEq] at h
  obtain ⟨i, sp⟩ := t
  obtain ⟨j, sq⟩ := c
  simp only at h
  have e1 : i = j := Int.ofNat.inj h.1
  have e2 := spsAV_inj h.2
  rw [e1, e2]

theorem g_one_eq {t : Tc} (hl : t.sp.length ≤ 9223372036854775807) : g_one [.agg [.int .u64 (t.id : Int), .sl (spsAV t.sp) .none]] = some (.bool (oneB t)) := by
  unfold g_one
  have hex : ∃ t' : Tc, [AV.agg [.int .u64 (t.id : Int), .sl (spsAV t.sp) .none]] = [.agg [.int .u64 (t'.id : Int), .sl (spsAV t'.sp) .none]] ∧ t'.sp.length ≤ 9223372036854775807 := ⟨t, rfl, hl⟩
  rw [dif_pos hex]
  have this : hex.choose = t := one_inj hex.choose_spec.1
  rw [this]

theorem one_pure : PureC Try.prog n_one g_one := by
  intro args σ v h
  unfold g_one at h
  split at h
  · rename_i hex
    simp only [Option.some.injEq] at h; subst h
    have hc := hex.choose_spec
    generalize hex.choose = c at hc
    obtain ⟨rfl, hl⟩ := hc
    exact tone_ok hl
  · cases h

noncomputable def tO : Tbl := [(n_one, g_one)]

theorem tO_ok : tO.ok Try.prog := Tbl.ok_cons one_pure Tbl.ok_nil

def isAt (l : List Tc) (i : Nat) : Bool := match l[i]? with
  | some t => oneB t && (i == 0 || (match l[i - 1]? with | some p => decide (p.id < t.id) | none => false))
  | none => false

def isB (l : List Tc) : Bool := (List.range l.length).all (isAt l)

theorem is_false {l : List Tc} {i : Nat} (hi : i < l.length) (h : isAt l i = false) : isB l = false := by
  unfold isB
  rw [Bool.eq_false_iff]
  intro hh
  have := List.all_eq_true.1 hh i (by simpa using hi)
  rw [h] at this; cases this

theorem tcav' (t : Tc) : t.av = .agg [.int .u64 (t.id : Int), .sl (spsAV t.sp) .none] := rfl

set_option maxRecDepth 10000 in
theorem is_ok {l : List Tc} {g : Ver} {σ : St} (hl : l.length ≤ 9223372036854775807) (hs : ∀ t ∈ l, t.sp.length ≤ 9223372036854775807) : ACalls Try.prog n_is [.sl (tcsAV l) g] σ (fun v σ' => v = .bool (isB l) ∧ σ' = σ) := by
  refine s_is (fun wf => ?_)
  unfold c_is
  refine T.seq_k (fun K_h1 h1 => ?_)
  refine T.regi hm ?_
  simp only [↓reduceIte, namesOf, List.any, I.names, aops, aopsI, aopsT, qstep, CPt, qget, Tbl.get, astep, ev, setd, List.set, List.getD, List.getElem?_cons_zero, List.getElem?_cons_succ, List.getElem?_nil, List.cons_append, List.nil_append, List.length_cons, List.length_nil, List.replicate, then_normal, inBlock_normal, Option.getD_some, Option.getD_none, Bool.or_false, Bool.or_true, Bool.true_or, Bool.false_or, Bool.false_eq_true, if_false, if_true, up_zero, Nat.reduceAdd, Nat.reduceSub, binv, ↓opt_def, AV.isAny, AV.cells, ldc, List.map_cons, List.map_nil, St.set_next, St.set_same, St.up_next, Int.natCast_nonneg, lt_len, le_len, Int.toNat_natCast, true_and, and_true, eq_self, reduceCtorEq, decide_true, List.length_singleton, er_int, er_bool, er_str]
  refine h1 _ _ ?_
  try clear h1 K_h1
  refine T.seq_k (fun K_h1 h1 => ?_)
  refine T.seq_k (fun K_h2 h2 => ?_)
  refine T.regi hm ?_
  simp only [↓reduceIte, namesOf, List.any, I.names, aops, aopsI, aopsT, qstep, CPt, qget, Tbl.get, astep, ev, setd, List.set, List.getD, List.getElem?_cons_zero, List.getElem?_cons_succ, List.getElem?_nil, List.cons_append, List.nil_append, List.length_cons, List.length_nil, List.replicate, then_normal, inBlock_normal, Option.getD_some, Option.getD_none, Bool.or_false, Bool.or_true, Bool.true_or, Bool.false_or, Bool.false_eq_true, if_false, if_true, up_zero, Nat.reduceAdd, Nat.reduceSub, binv, ↓opt_def, AV.isAny, AV.cells, ldc, List.map_cons, List.map_nil, St.set_next, St.set_same, St.up_next, Int.natCast_nonneg, lt_len, le_len, Int.toNat_natCast, true_and, and_true, eq_self, reduceCtorEq, decide_true, List.length_singleton, er_int, er_bool, er_str, tcs_len]
  refine h2 _ _ ?_
  try clear h2 K_h2
  refine T.block ?_
  refine T.gh (Gh.keep [0, 5, 6, 7]) ?_
  refine T.loopi (fun i ρ σ' => σ.next ≤ σ'.next ∧ (∀ n x, σ.res n = some x → σ'.res n = some x) ∧ (List.range i).all (isAt l) = true ∧ ρ = [.sl (tcsAV l) g, .any, .any, .any, .any, .sl (tcsAV l) g, .int .i64 (l.length : Int), .int .i64 (i : Int)] ++ List.replicate 23 .any)
    l.length 0 (Nat.zero_le _) ⟨Nat.le_refl _, fun _ _ h => h, rfl, rfl⟩ ?_
  rintro i ρ σ' hi ⟨hn, ho, hpre, rfl⟩
  refine T.seq_k (fun K_h2 h2 => ?_)
  refine T.regi hm ?_
  simp only [↓reduceIte, namesOf, List.any, I.names, aops, aopsI, aopsT, qstep, CPt, qget, Tbl.get, astep, ev, setd, List.set, List.getD, List.getElem?_cons_zero, List.getElem?_cons_succ, List.getElem?_nil, List.cons_append, List.nil_append, List.length_cons, List.length_nil, List.replicate, then_normal, inBlock_normal, Option.getD_some, Option.getD_none, Bool.or_false, Bool.or_true, Bool.true_or, Bool.false_or, Bool.false_eq_true, if_false, if_true, up_zero, Nat.reduceAdd, Nat.reduceSub, binv, ↓opt_def, AV.isAny, AV.cells, ldc, List.map_cons, List.map_nil, St.set_next, St.set_same, St.up_next, Int.natCast_nonneg, lt_len, le_len, Int.toNat_natCast, true_and, and_true, eq_self, reduceCtorEq, decide_true, List.length_singleton, er_int, er_bool, er_str]
  refine h2 _ _ ?_
  try clear h2 K_h2
  refine T.seq_k (fun K_h2 h2 => ?_)
  refine T.cond rfl (fun hb => ?_) (fun hb => ?_)
  · refine T.skip ?_
    refine h2 _ _ ?_
    try clear h2 K_h2
    have hil : i < l.length := by simpa using hb
    clear hb
    generalize ht : l[i] = t
    have hti : l[i]? = some t := by rw [← ht]; simp [hil]
    have htl : t.sp.length ≤ 9223372036854775807 := by rw [← ht]; exact hs _ (List.getElem_mem hil)
    refine T.seq_k (fun K_h2 h2 => ?_)
    refine T.block ?_
    refine T.seq_k (fun K_h3 h3 => ?_)
    refine T.regi hm ?_
    simp only [↓reduceIte, namesOf, List.any, I.names, aops, aopsI, aopsT, qstep, CPt, qget, Tbl.get, astep, ev, setd, List.set, List.getD, List.getElem?_cons_zero, List.getElem?_cons_succ, List.getElem?_nil, List.cons_append, List.nil_append, List.length_cons, List.length_nil, List.replicate, then_normal, inBlock_normal, Option.getD_some, Option.getD_none, Bool.or_false, Bool.or_true, Bool.true_or, Bool.false_or, Bool.false_eq_true, if_false, if_true, up_zero, Nat.reduceAdd, Nat.reduceSub, binv, ↓opt_def, AV.isAny, AV.cells, ldc, List.map_cons, List.map_nil, St.set_next, St.set_same, St.up_next, Int.natCast_nonneg, lt_len, le_len, Int.toNat_natCast, true_and, and_true, eq_self, reduceCtorEq, decide_true, List.length_singleton, er_int, er_bool, er_str, tcs_len, tcs_get hil, hil, ht, tcav', AV.fits, AV.one, List.all_cons, List.all_nil, Nat.reduceBEq, Bool.and_true, Bool.not_false, Bool.and_self, Nat.zero_add, splice, List.take, List.drop, Nat.reduceLeDiff, St.set_set]
    have ho2 := set_quiet wf hn ho (k := 6) (.obj [.int .u64 (t.id : Int), .sl (spsAV t.sp) .none]) (a := σ'.next + 3) (by omega)
    have hb5 : ((σ'.up 6).set (σ'.next + 3) (.obj [.int .u64 (t.id : Int), .sl (spsAV t.sp) .none])).res (σ'.next + 3) = some (.obj [.int .u64 (t.id : Int), .sl (spsAV t.sp) .none]) := by simp
    have hn2 : σ.next ≤ ((σ'.up 6).set (σ'.next + 3) (.obj [.int .u64 (t.id : Int), .sl (spsAV t.sp) .none])).next := by simp; omega
    generalize ((σ'.up 6).set (σ'.next + 3) (.obj [.int .u64 (t.id : Int), .sl (spsAV t.sp) .none])) = σ2 at ho2 hb5 hn2 ⊢
    generalize σ'.next + 3 = b at hb5 ⊢
    refine h3 _ _ ?_
    try clear h3 K_h3
    have fin : isAt l i = false → ∀ ρ' : List AV, ρ'.getD 2 .any = .bool false → Fin σ [.t 2] (fun v σ' => v = .bool (isB l) ∧ σ' = σ) .ret ρ' σ2 := by
      intro hf ρ' hρ
      refine Fin.quiet (xs := [ρ'.getD 2 .any]) rfl (by rw [hρ]; trivial) ho2 ⟨?_, rfl⟩
      rw [is_false hil hf, hρ]; rfl
    have hge := g_one_eq (t := t) htl
    have hw := inc64 hil hl
    refine T.seq_k (fun K_h3 h3 => ?_)
    cases c1 : oneB t with
    | false =>
      refine T.regt hm tO_ok ?_
      simp only [↓reduceIte, namesOf, List.any, I.names, aops, aopsI, aopsT, qstep, CPt, qget, Tbl.get, astep, ev, setd, List.set, List.getD, List.getElem?_cons_zero, List.getElem?_cons_succ, List.getElem?_nil, List.cons_append, List.nil_append, List.length_cons, List.length_nil, List.replicate, then_normal, inBlock_normal, Option.getD_some, Option.getD_none, Bool.or_false, Bool.or_true, Bool.true_or, Bool.false_or, Bool.false_eq_true, if_false, if_true, up_zero, Nat.reduceAdd, Nat.reduceSub, binv, ↓opt_def, AV.isAny, AV.cells, ldc, List.map_cons, List.map_nil, St.set_next, St.set_same, St.up_next, Int.natCast_nonneg, lt_len, le_len, Int.toNat_natCast, true_and, and_true, eq_self, reduceCtorEq, decide_true, List.length_singleton, er_int, er_bool, er_str, Nat.reduceEqDiff, tO, hb5, hge, c1, AV.fits, AV.one, List.all_cons, List.all_nil, Nat.reduceBEq, Bool.and_true, Bool.not_false, Bool.and_self, Nat.zero_add, splice, List.take, List.drop, Nat.reduceLeDiff, Bool.not_false, reduceCtorEq]
      refine h3 _ _ ?_
      try clear h3 K_h3
      refine T.cond rfl (fun _ => ?_) (fun h => by cases h)
      refine T.seq_k (fun K_h3 h3 => ?_)
      refine T.regi hm ?_
      simp only [↓reduceIte, namesOf, List.any, I.names, aops, aopsI, aopsT, qstep, CPt, qget, Tbl.get, astep, ev, setd, List.set, List.getD, List.getElem?_cons_zero, List.getElem?_cons_succ, List.getElem?_nil, List.cons_append, List.nil_append, List.length_cons, List.length_nil, List.replicate, then_normal, inBlock_normal, Option.getD_some, Option.getD_none, Bool.or_false, Bool.or_true, Bool.true_or, Bool.false_or, Bool.false_eq_true, if_false, if_true, up_zero, Nat.reduceAdd, Nat.reduceSub, binv, ↓opt_def, AV.isAny, AV.cells, ldc, List.map_cons, List.map_nil, St.set_next, St.set_same, St.up_next, Int.natCast_nonneg, lt_len, le_len, Int.toNat_natCast, true_and, and_true, eq_self, reduceCtorEq, decide_true, List.length_singleton, er_int, er_bool, er_str]
      refine h3 _ _ ?_
      try clear h3 K_h3
      exact T.ret (fin (by unfold isAt; simp only [hti, c1, Bool.false_and]) _ rfl)
    | true =>
    cases i with
    | zero =>
      have hz : decide (((0 : Nat) : Int) > 0) = false := rfl
      refine T.regt hm tO_ok ?_
      simp only [↓reduceIte, namesOf, List.any, I.names, aops, aopsI, aopsT, qstep, CPt, qget, Tbl.get, astep, ev, setd, List.set, List.getD, List.getElem?_cons_zero, List.getElem?_cons_succ, List.getElem?_nil, List.cons_append, List.nil_append, List.length_cons, List.length_nil, List.replicate, then_normal, inBlock_normal, Option.getD_some, Option.getD_none, Bool.or_false, Bool.or_true, Bool.true_or, Bool.false_or, Bool.false_eq_true, if_false, if_true, up_zero, Nat.reduceAdd, Nat.reduceSub, binv, ↓opt_def, AV.isAny, AV.cells, ldc, List.map_cons, List.map_nil, St.set_next, St.set_same, St.up_next, Int.natCast_nonneg, lt_len, le_len, Int.toNat_natCast, true_and, and_true, eq_self, reduceCtorEq, decide_true, List.length_singleton, er_int, er_bool, er_str, Nat.reduceEqDiff, tO, hb5, hge, c1, AV.fits, AV.one, List.all_cons, List.all_nil, Nat.reduceBEq, Bool.and_true, Bool.not_false, Bool.and_self, Nat.zero_add, splice, List.take, List.drop, Nat.reduceLeDiff, Bool.not_true, reduceCtorEq, hz]
      refine h3 _ _ ?_
      try clear h3 K_h3
      refine T.cond rfl (fun h => by cases h) (fun _ => ?_)
      refine T.skip ?_
      refine h2 _ _ ?_
      try clear h2 K_h2
      refine T.regi hm ?_
      simp only [↓reduceIte, namesOf, List.any, I.names, aops, aopsI, aopsT, qstep, CPt, qget, Tbl.get, astep, ev, setd, List.set, List.getD, List.getElem?_cons_zero, List.getElem?_cons_succ, List.getElem?_nil, List.cons_append, List.nil_append, List.length_cons, List.length_nil, List.replicate, then_normal, inBlock_normal, Option.getD_some, Option.getD_none, Bool.or_false, Bool.or_true, Bool.true_or, Bool.false_or, Bool.false_eq_true, if_false, if_true, up_zero, Nat.reduceAdd, Nat.reduceSub, binv, ↓opt_def, AV.isAny, AV.cells, ldc, List.map_cons, List.map_nil, St.set_next, St.set_same, St.up_next, Int.natCast_nonneg, lt_len, le_len, Int.toNat_natCast, true_and, and_true, eq_self, reduceCtorEq, decide_true, List.length_singleton, er_int, er_bool, er_str, hw]
      exact ⟨hil, _, _, Gh.keep [0, 5, 6, 7], hn2, ho2, by simp [isAt, hti, c1], rfl⟩
    | succ j =>
      have hjl : j < l.length := by omega
      generalize hp : l[j] = p
      have hpj : l[j]? = some p := by rw [← hp]; simp [hjl]
      have hz : decide (((j + 1 : Nat) : Int) > 0) = true := decide_eq_true (by omega)
      have hd : IntKind.i64.wrap (((j + 1 : Nat) : Int) - 1) = (j : Int) := by rw [wrap64 (by omega) (by omega)]; omega
      by_cases c4 : p.id < t.id
      · have e4 : decide ((p.id : Int) ≥ (t.id : Int)) = false := decide_eq_false (by omega)
        refine T.regt hm tO_ok ?_
        simp only [↓reduceIte, namesOf, List.any, I.names, aops, aopsI, aopsT, qstep, CPt, qget, Tbl.get, astep, ev, setd, List.set, List.getD, List.getElem?_cons_zero, List.getElem?_cons_succ, List.getElem?_nil, List.cons_append, List.nil_append, List.length_cons, List.length_nil, List.replicate, then_normal, inBlock_normal, Option.getD_some, Option.getD_none, Bool.or_false, Bool.or_true, Bool.true_or, Bool.false_or, Bool.false_eq_true, if_false, if_true, up_zero, Nat.reduceAdd, Nat.reduceSub, binv, ↓opt_def, AV.isAny, AV.cells, ldc, List.map_cons, List.map_nil, St.set_next, St.set_same, St.up_next, Int.natCast_nonneg, lt_len, le_len, Int.toNat_natCast, true_and, and_true, eq_self, reduceCtorEq, decide_true, List.length_singleton, er_int, er_bool, er_str, Nat.reduceEqDiff, tO, hb5, hge, c1, AV.fits, AV.one, List.all_cons, List.all_nil, Nat.reduceBEq, Bool.and_true, Bool.not_false, Bool.and_self, Nat.zero_add, splice, List.take, List.drop, Nat.reduceLeDiff, Bool.not_true, reduceCtorEq, hz, hd, tcs_len, tcs_get hjl, hjl, hp, tcav', e4]
        refine h3 _ _ ?_
        try clear h3 K_h3
        refine T.cond rfl (fun h => by cases h) (fun _ => ?_)
        refine T.skip ?_
        refine h2 _ _ ?_
        try clear h2 K_h2
        refine T.regi hm ?_
        simp only [↓reduceIte, namesOf, List.any, I.names, aops, aopsI, aopsT, qstep, CPt, qget, Tbl.get, astep, ev, setd, List.set, List.getD, List.getElem?_cons_zero, List.getElem?_cons_succ, List.getElem?_nil, List.cons_append, List.nil_append, List.length_cons, List.length_nil, List.replicate, then_normal, inBlock_normal, Option.getD_some, Option.getD_none, Bool.or_false, Bool.or_true, Bool.true_or, Bool.false_or, Bool.false_eq_true, if_false, if_true, up_zero, Nat.reduceAdd, Nat.reduceSub, binv, ↓opt_def, AV.isAny, AV.cells, ldc, List.map_cons, List.map_nil, St.set_next, St.set_same, St.up_next, Int.natCast_nonneg, lt_len, le_len, Int.toNat_natCast, true_and, and_true, eq_self, reduceCtorEq, decide_true, List.length_singleton, er_int, er_bool, er_str, hw]
        refine ⟨hil, _, _, Gh.keep [0, 5, 6, 7], hn2, ho2, ?_, rfl⟩
        rw [List.range_succ, List.all_append, hpre]; simp [isAt, hti, c1, hpj, c4]
      · have e4 : decide ((p.id : Int) ≥ (t.id : Int)) = true := decide_eq_true (by omega)
        refine T.regt hm tO_ok ?_
        simp only [↓reduceIte, namesOf, List.any, I.names, aops, aopsI, aopsT, qstep, CPt, qget, Tbl.get, astep, ev, setd, List.set, List.getD, List.getElem?_cons_zero, List.getElem?_cons_succ, List.getElem?_nil, List.cons_append, List.nil_append, List.length_cons, List.length_nil, List.replicate, then_normal, inBlock_normal, Option.getD_some, Option.getD_none, Bool.or_false, Bool.or_true, Bool.true_or, Bool.false_or, Bool.false_eq_true, if_false, if_true, up_zero, Nat.reduceAdd, Nat.reduceSub, binv, ↓opt_def, AV.isAny, AV.cells, ldc, List.map_cons, List.map_nil, St.set_next, St.set_same, St.up_next, Int.natCast_nonneg, lt_len, le_len, Int.toNat_natCast, true_and, and_true, eq_self, reduceCtorEq, decide_true, List.length_singleton, er_int, er_bool, er_str, Nat.reduceEqDiff, tO, hb5, hge, c1, AV.fits, AV.one, List.all_cons, List.all_nil, Nat.reduceBEq, Bool.and_true, Bool.not_false, Bool.and_self, Nat.zero_add, splice, List.take, List.drop, Nat.reduceLeDiff, Bool.not_true, reduceCtorEq, hz, hd, tcs_len, tcs_get hjl, hjl, hp, tcav', e4]
        refine h3 _ _ ?_
        try clear h3 K_h3
        refine T.cond rfl (fun _ => ?_) (fun h => by cases h)
        refine T.seq_k (fun K_h3 h3 => ?_)
        refine T.regi hm ?_
        simp only [↓reduceIte, namesOf, List.any, I.names, aops, aopsI, aopsT, qstep, CPt, qget, Tbl.get, astep, ev, setd, List.set, List.getD, List.getElem?_cons_zero, List.getElem?_cons_succ, List.getElem?_nil, List.cons_append, List.nil_append, List.length_cons, List.length_nil, List.replicate, then_normal, inBlock_normal, Option.getD_some, Option.getD_none, Bool.or_false, Bool.or_true, Bool.true_or, Bool.false_or, Bool.false_eq_true, if_false, if_true, up_zero, Nat.reduceAdd, Nat.reduceSub, binv, ↓opt_def, AV.isAny, AV.cells, ldc, List.map_cons, List.map_nil, St.set_next, St.set_same, St.up_next, Int.natCast_nonneg, lt_len, le_len, Int.toNat_natCast, true_and, and_true, eq_self, reduceCtorEq, decide_true, List.length_singleton, er_int, er_bool, er_str]
        refine h3 _ _ ?_
        try clear h3 K_h3
        exact T.ret (fin (by unfold isAt; simp [hti, hpj, c4]) _ rfl)
  · refine T.exit ?_
    have : i = l.length := by simp at hb; omega
    subst this
    try simp only [↓reduceIte, namesOf, List.any, I.names, aops, aopsI, aopsT, qstep, CPt, qget, Tbl.get, astep, ev, setd, List.set, List.getD, List.getElem?_cons_zero, List.getElem?_cons_succ, List.getElem?_nil, List.cons_append, List.nil_append, List.length_cons, List.length_nil, List.replicate, then_normal, inBlock_normal, Option.getD_some, Option.getD_none, Bool.or_false, Bool.or_true, Bool.true_or, Bool.false_or, Bool.false_eq_true, if_false, if_true, up_zero, Nat.reduceAdd, Nat.reduceSub, binv, ↓opt_def, AV.isAny, AV.cells, ldc, List.map_cons, List.map_nil, St.set_next, St.set_same, St.up_next, Int.natCast_nonneg, lt_len, le_len, Int.toNat_natCast, true_and, and_true, eq_self, reduceCtorEq, decide_true, List.length_singleton, er_int, er_bool, er_str, inBlock_exit, then_exit]
    refine h1 _ _ ?_
    try clear h1 K_h1
    refine T.seq_k (fun K_h1 h1 => ?_)
    refine T.regi hm ?_
    simp only [↓reduceIte, namesOf, List.any, I.names, aops, aopsI, aopsT, qstep, CPt, qget, Tbl.get, astep, ev, setd, List.set, List.getD, List.getElem?_cons_zero, List.getElem?_cons_succ, List.getElem?_nil, List.cons_append, List.nil_append, List.length_cons, List.length_nil, List.replicate, then_normal, inBlock_normal, Option.getD_some, Option.getD_none, Bool.or_false, Bool.or_true, Bool.true_or, Bool.false_or, Bool.false_eq_true, if_false, if_true, up_zero, Nat.reduceAdd, Nat.reduceSub, binv, ↓opt_def, AV.isAny, AV.cells, ldc, List.map_cons, List.map_nil, St.set_next, St.set_same, St.up_next, Int.natCast_nonneg, lt_len, le_len, Int.toNat_natCast, true_and, and_true, eq_self, reduceCtorEq, decide_true, List.length_singleton, er_int, er_bool, er_str]
    refine h1 _ _ ?_
    try clear h1 K_h1
    exact T.ret (Fin.quiet rfl trivial ho ⟨by rw [show isB l = true from hpre]; rfl, rfl⟩)

/-! ### Rows put together -/

end Go.VL

namespace Go.VL

/-- does a span stand ahead of another one? -/
def aheadS (a b : Sp) : Bool := if a.st ≠ b.st then decide (a.st < b.st) else if a.id ≠ b.id then decide (a.id < b.id) else decide (a.tr < b.tr)

/-- of two of one Trace and one Id: is the first one the lesser one? -/
def lessS (a b : Sp) : Bool := if a.st ≠ b.st then decide (a.st < b.st) else if a.en ≠ b.en then decide (a.en < b.en) else Op.bytesLess a.da b.da

/-- does a span of l count? -/
def outAt (l : List Sp) (x : Sp) (i k : Nat) : Bool := match l[k]? with
  | some y => decide (y.tr = x.tr) && decide (y.id = x.id) && (lessS y x || (decide (y = x) && decide (k < i)))
  | none => false

def countsB (l : List Sp) (i : Nat) : Bool := match l[i]? with
  | some x => (List.range l.length).all fun k => !outAt l x i k
  | none => false

def lastAt (out : List Sp) (x : Sp) : Nat → Nat
  | 0 => 0
  | k + 1 => match out[k]? with
    | some y => if aheadS y x then k + 1 else lastAt out x k
    | none => lastAt out x k

def insS (out : List Sp) (x : Sp) : List Sp := out.take (lastAt out x out.length) ++ [x] ++ out.drop (lastAt out x out.length)

/-- what is gathered of the first n -/
def gatherN (l : List Sp) : Nat → List Sp
  | 0 => []
  | n + 1 => match l[n]? with
    | some x => if countsB l n then insS (gatherN l n) x else gatherN l n
    | none => gatherN l n

def gatherL (l : List Sp) : List Sp := gatherN l l.length

theorem ahead_irr (a : Sp) : aheadS a a = false := by unfold aheadS; simp

theorem ahead_trans {a b c : Sp} (h : aheadS a b = true) (k : aheadS b c = true) : aheadS a c = true := by
  unfold aheadS at *
  by_cases h1 : a.st = b.st
  · by_cases h2 : b.st = c.st
    · by_cases h3 : a.id = b.id
      · by_cases h4 : b.id = c.id
        · simp only [h1, h2, h3, h4, ne_eq, not_true_eq_false, if_false, decide_eq_true_eq] at h k ⊢; omega
        · simp only [h1, h2, h3, h4, ne_eq, not_true_eq_false, not_false_eq_true, if_false, if_true, decide_eq_true_eq] at h k ⊢; omega
      · by_cases h4 : b.id = c.id
        · simp only [h1, h2, ← h4, h3, ne_eq, not_true_eq_false, not_false_eq_true, if_false, if_true, decide_eq_true_eq] at h k ⊢; omega
        · have h5 : a.id ≠ c.id := by
            simp only [h1, h2, h3, h4, ne_eq, not_true_eq_false, not_false_eq_true, if_false, if_true, decide_eq_true_eq] at h k; omega
          simp only [h1, h2, h3, h4, h5, ne_eq, not_true_eq_false, not_false_eq_true, if_false, if_true, decide_eq_true_eq] at h k ⊢; omega
    · simp only [h1, h2, ne_eq, not_false_eq_true, if_true, decide_eq_true_eq] at k ⊢; exact k
  · by_cases h2 : b.st = c.st
    · simp only [← h2, h1, ne_eq, not_false_eq_true, if_true, decide_eq_true_eq] at h ⊢; exact h
    · have h3 : a.st ≠ c.st := by
        simp only [h1, h2, ne_eq, not_false_eq_true, if_true, decide_eq_true_eq] at h k; omega
      simp only [h1, h2, h3, ne_eq, not_false_eq_true, if_true, decide_eq_true_eq] at h k ⊢; omega

theorem bytes_irr : ∀ a : List UInt8, Op.bytesLess a a = false
  | [] => by simp [Op.bytesLess]
  | x :: r => by simp [Op.bytesLess, bytes_irr r]

theorem bytes_total : ∀ a b : List UInt8, Op.bytesLess a b = false → Op.bytesLess b a = false → a = b
  | [], [], _, _ => rfl
  | [], _ :: _, h, _ => by simp [Op.bytesLess] at h
  | _ :: _, [], _, h => by simp [Op.bytesLess] at h
  | x :: r, y :: s, h, k => by
    simp only [Op.bytesLess, Bool.or_eq_false_iff, Bool.and_eq_false_iff, decide_eq_false_iff_not, beq_eq_false_iff_ne] at h k
    by_cases hxy : x = y
    · subst hxy
      rw [bytes_total r s (by simpa using h.2) (by simpa using k.2)]
    · exfalso
      have h1 := h.1
      have k1 := k.1
      have : x.toNat ≠ y.toNat := fun e => hxy (UInt8.toNat_inj.1 e)
      rw [UInt8.lt_iff_toNat_lt] at h1 k1
      omega

theorem less_irr (a : Sp) : lessS a a = false := by unfold lessS; simp [bytes_irr]

theorem less_total {a b : Sp} (ht : a.tr = b.tr) (hi : a.id = b.id) (h : lessS a b = false) (k : lessS b a = false) : a = b := by
  unfold lessS at h k
  by_cases h1 : a.st = b.st
  · by_cases h2 : a.en = b.en
    · simp only [h1, h2, ne_eq, not_true_eq_false, if_false] at h k
      have h3 := bytes_total _ _ h k
      obtain ⟨a1, a2, a3, a4, a5⟩ := a
      obtain ⟨b1, b2, b3, b4, b5⟩ := b
      simp only at *
      subst ht hi h1 h2 h3; rfl
    · have h3 : b.en ≠ a.en := fun e => h2 e.symm
      simp only [h1, h2, h3, ne_eq, not_true_eq_false, not_false_eq_true, if_false, if_true, decide_eq_false_iff_not] at h k; omega
  · have h3 : b.st ≠ a.st := fun e => h1 e.symm
    simp only [h1, h3, ne_eq, not_false_eq_true, if_true, decide_eq_false_iff_not] at h k; omega

theorem lastAt_le (out : List Sp) (x : Sp) : ∀ k, lastAt out x k ≤ k
  | 0 => Nat.le_refl _
  | k + 1 => by
    have := lastAt_le out x k
    unfold lastAt
    split
    · split <;> omega
    · omega

/-- all behind the last one ahead are not ahead -/
theorem lastAt_no (out : List Sp) (x : Sp) : ∀ k j (hj : j < out.length), lastAt out x k ≤ j → j < k → aheadS out[j] x = false
  | 0, j, _, _, h => by omega
  | k + 1, j, hj, h, hjk => by
    unfold lastAt at h
    split at h
    · rename_i y hy
      split at h
      · omega
      · rename_i hy2
        by_cases hx : j = k
        · subst hx
          have : out[j] = y := by simpa [hj] using hy
          rw [this]; simpa using hy2
        · exact lastAt_no out x k j hj h (by omega)
    · rename_i hy
      have : k ≥ out.length := by simpa using hy
      exact lastAt_no out x k j hj h (by omega)

/-- the last one ahead is ahead -/
theorem lastAt_is (out : List Sp) (x : Sp) : ∀ k, k ≤ out.length → 0 < lastAt out x k → ∃ j, ∃ h : j < out.length, lastAt out x k = j + 1 ∧ aheadS out[j] x = true
  | 0, _, h => by simp [lastAt] at h
  | k + 1, hk, h => by
    unfold lastAt at h ⊢
    have hkl : k < out.length := by omega
    have e : out[k]? = some out[k] := by simp [hkl]
    rw [e] at h ⊢
    simp only at h ⊢
    split at h
    · rename_i ha; rw [if_pos ha]; exact ⟨k, hkl, rfl, ha⟩
    · rename_i ha; rw [if_neg ha]; exact lastAt_is out x k (by omega) h

abbrev SortedS (l : List Sp) : Prop := l.Pairwise (fun a b => aheadS a b = true)

theorem ins_mem {out : List Sp} {x y : Sp} : y ∈ insS out x ↔ y = x ∨ y ∈ out := by
  have : y ∈ out ↔ y ∈ out.take (lastAt out x out.length) ∨ y ∈ out.drop (lastAt out x out.length) := by
    rw [← List.mem_append, List.take_append_drop]
  unfold insS
  simp only [List.mem_append, List.mem_singleton, this]
  constructor
  · rintro ((h | h) | h)
    · exact .inr (.inl h)
    · exact .inl h
    · exact .inr (.inr h)
  · rintro (h | h | h)
    · exact .inl (.inr h)
    · exact .inl (.inl h)
    · exact .inr h

theorem ins_len (out : List Sp) (x : Sp) : (insS out x).length = out.length + 1 := by
  have := lastAt_le out x out.length
  unfold insS; simp only [List.length_append, List.length_take, List.length_drop, List.length_singleton]; omega

theorem gatherN_le (l : List Sp) : ∀ n, (gatherN l n).length ≤ n
  | 0 => Nat.le_refl _
  | n + 1 => by
    have := gatherN_le l n
    unfold gatherN
    split
    · split
      · rw [ins_len]; omega
      · omega
    · omega

end Go.VL

namespace Go.VL

open Go.Proofs Go.RowKit Go.Lib Go.Sort

variable {P : Program} {κ : Kx} {w : World}

abbrev cells5 (s : Sp) : List AV := [.int .u64 (s.tr : Int), .int .u64 (s.id : Int), .int .i64 s.st, .int .i64 s.en, .sl (bytesAV s.da) .none]

/-- a span in the memory -/
structure SpR (κ : Kx) (w : World) (x : SpV) (s : Sp) : Prop where
  a : x.a = s.tr
  b : x.b = s.id
  c : x.c = s.st
  d : x.d = s.en
  v : V κ w (.slice x.p x.n x.m) (.sl (bytesAV s.da) .none)

theorem SpR.vl {x : SpV} {s : Sp} (h : SpR κ w x s) : Vl κ w x.cs (cells5 s) := by
  obtain ⟨h1, h2, h3, h4, h5⟩ := h
  unfold SpV.cs cells5
  rw [h1, h2, h3, h4]
  exact .cons _ _ _ _ (.int _ _) (.cons _ _ _ _ (.int _ _) (.cons _ _ _ _ (.int _ _) (.cons _ _ _ _ (.int _ _) (.cons _ _ _ _ h5 .nil))))

theorem slice_of {v : Value} {xs : List AV} {g : Ver} (h : V κ w v (.sl xs g)) : ∃ p n m, v = .slice p n m := by
  rcases h.sl_inv with ⟨b, h1, _⟩ | ⟨b, i, c, k, h1, _⟩ <;> exact ⟨_, _, _, h1⟩

theorem vl_sp {us : List Value} {s : Sp} (h : Vl κ w us (cells5 s)) : ∃ x : SpV, us = x.cs ∧ SpR κ w x s := by
  cases h with
  | cons v1 _ r1 _ h1 t1 =>
  cases t1 with
  | cons v2 _ r2 _ h2 t2 =>
  cases t2 with
  | cons v3 _ r3 _ h3 t3 =>
  cases t3 with
  | cons v4 _ r4 _ h4 t4 =>
  cases t4 with
  | cons v5 _ r5 _ h5 t5 =>
  cases t5
  obtain ⟨p, n, m, rfl⟩ := slice_of h5
  obtain rfl := h1.int_inv
  obtain rfl := h2.int_inv
  obtain rfl := h3.int_inv
  obtain rfl := h4.int_inv
  exact ⟨⟨_, _, _, _, p, n, m⟩, rfl, rfl, rfl, rfl, rfl, h5⟩

theorem sp_val {v : Value} {s : Sp} (h : V κ w v s.av) : ∃ x : SpV, v = x.enc ∧ SpR κ w x s := by
  obtain ⟨u, rfl, hu⟩ := h.agg_inv
  obtain ⟨x, rfl, hx⟩ := vl_sp hu
  exact ⟨x, rfl, hx⟩

/-- spans in the memory -/
def RelS (κ : Kx) (w : World) : List SpV → List Sp → Prop
  | [], [] => True
  | x :: xs, s :: l => SpR κ w x s ∧ RelS κ w xs l
  | _, _ => False

theorem RelS.length : ∀ {xs : List SpV} {l : List Sp}, RelS κ w xs l → xs.length = l.length
  | [], [], _ => rfl
  | x :: xs, s :: l, h => by simp [RelS.length h.2]
  | [], _ :: _, h => h.elim
  | _ :: _, [], h => h.elim

theorem RelS.vl : ∀ {xs : List SpV} {l : List Sp}, RelS κ w xs l → Vl κ w (xs.flatMap SpV.cs) (l.flatMap cells5)
  | [], [], _ => .nil
  | x :: xs, s :: l, h => by simpa using h.1.vl.append (RelS.vl h.2)
  | [], _ :: _, h => h.elim
  | _ :: _, [], h => h.elim

theorem RelS.get : ∀ {xs : List SpV} {l : List Sp}, RelS κ w xs l → ∀ i (h1 : i < xs.length) (h2 : i < l.length), SpR κ w xs[i] l[i]
  | [], [], _, i, h1, _ => absurd h1 (by simp)
  | x :: xs, s :: l, h, 0, _, _ => h.1
  | x :: xs, s :: l, h, i + 1, h1, h2 => RelS.get h.2 i (by simpa using h1) (by simpa using h2)
  | [], _ :: _, h, _, _, _ => h.elim
  | _ :: _, [], h, _, _, _ => h.elim

theorem rel_of_vl : ∀ {l : List Sp} {us : List Value}, Vl κ w us (l.flatMap cells5) → ∃ xs, us = xs.flatMap SpV.cs ∧ RelS κ w xs l
  | [], us, h => by cases h; exact ⟨[], rfl, trivial⟩
  | s :: l, us, h => by
    have h1 := h.take 5
    have h2 := h.drop 5
    have e1 : ((s :: l).flatMap cells5).take 5 = cells5 s := by simp [cells5]
    have e2 : ((s :: l).flatMap cells5).drop 5 = l.flatMap cells5 := by simp [cells5]
    rw [e1] at h1; rw [e2] at h2
    obtain ⟨x, hx, hr⟩ := vl_sp h1
    obtain ⟨xs, hxs, hrs⟩ := rel_of_vl h2
    exact ⟨x :: xs, by rw [List.flatMap_cons, ← hx, ← hxs, List.take_append_drop], hr, hrs⟩

theorem rel_of_vm : ∀ {ents : List MapEntry} {es : List (AV × AV)} {l : List Sp}, Vm κ w ents es → es.map (·.2) = spsAV l → ∃ xs : List SpV, ents.map (·.val) = xs.map SpV.enc ∧ RelS κ w xs l
  | _, _, l, .nil, hl => by
    cases l with
    | nil => exact ⟨[], rfl, trivial⟩
    | cons s l => simp [spsAV] at hl
  | _, _, l, .cons e p es ps hk hv t, hl => by
    cases l with
    | nil => simp [spsAV] at hl
    | cons s l =>
      simp only [spsAV, List.map_cons, List.cons.injEq] at hl
      rw [hl.1] at hv
      obtain ⟨x, hx, hr⟩ := sp_val hv
      obtain ⟨xs, hxs, hrs⟩ := rel_of_vm t (l := l) hl.2
      exact ⟨x :: xs, by simp [hx, hxs], hr, hrs⟩

theorem rel_perm {ss xs : List SpV} (hp : ss.Perm xs) : ∀ {l : List Sp}, RelS κ w xs l → ∃ l', l'.Perm l ∧ RelS κ w ss l' := by
  induction hp with
  | nil => intro l h; exact ⟨l, .refl _, h⟩
  | cons x _ ih =>
    intro l h
    cases l with
    | nil => exact h.elim
    | cons s l =>
      obtain ⟨l', h1, h2⟩ := ih h.2
      exact ⟨s :: l', h1.cons s, h.1, h2⟩
  | swap x y xs =>
    intro l h
    match l, h with
    | s :: t :: l, h => exact ⟨t :: s :: l, .swap _ _ _, h.2.1, h.1, h.2.2⟩
    | [s], h => exact h.2.elim
    | [], h => exact h.elim
  | trans _ _ ih1 ih2 =>
    intro l h
    obtain ⟨l1, h1, h2⟩ := ih2 h
    obtain ⟨l2, h3, h4⟩ := ih1 h2
    exact ⟨l2, h3.trans h1, h4⟩

theorem R.late {B : Nat} {F : Nat → Prop} {σ : St} (hR : R B F κ w σ) {w' : World} (hb : RowKit.Below w.heap.size w w') (hd : w.drawn ≤ w'.drawn) : Ext κ w κ w' ∧ R w.heap.size (ownd κ σ) κ w' σ ∧ Fr (ownd κ σ) w w' := by
  have e : Ext κ w κ w' := ⟨fun _ _ h => h, fun _ _ => rfl, fun _ _ => rfl, fun _ _ => rfl, fun _ _ => rfl, fun _ h => h, fun b o hi => cell_same (hb.block b (hR.imm b o hi)) o⟩
  have hR1 : R B F κ w' σ := hR.step e hR.dom (fun b o hi => Nat.lt_of_lt_of_le (hR.imm b o hi) hb.size) (fun n r hr => .inl ⟨hr, hb.block _ (hR.lt hr), fun _ h => h⟩)
  exact ⟨e, ⟨hR1.dom, hR1.own, hR1.apart, hR1.imm, fun n r hr hrl => .inl ⟨n, r, hr, hrl, rfl⟩⟩, ⟨hb.os, hd⟩, hb.tape, hb.output, hb.size, fun b hlt _ => hb.block b hlt⟩

/-- a row that lies there is owned -/
theorem R.claim {B : Nat} {F : Nat → Prop} {σ : St} (hR : R B F κ w σ) {b : Nat} (hB : B ≤ b) (hfree : ∀ n r, σ.res n = some r → κ.φ n ≠ b) (hI : ∀ o, ¬ κ.I b o) {us rest : List Value} {cs : List AV} {t : TypeId} {fz : Nat × Nat} (hf : fzOk us.length fz)
    (hb : w.heap[b]? = some (.cells ⟨us ++ rest⟩ t fz)) (hv : Vl κ w us cs) : Ext κ w (κ.name σ.next b) w ∧ R B F (κ.name σ.next b) w ((σ.up 1).set σ.next (.obj cs)) := by
  have hn : ¬ κ.dom σ.next := fun h => Nat.lt_irrefl _ (hR.dom _ h)
  have e : Ext κ w (κ.name σ.next b) w := .name hn (fun _ _ _ => rfl)
  refine ⟨e, hR.step e (fun n hd => ?_) (fun b o hi => hR.imm b o hi) (fun n r hr => ?_)⟩
  · rcases hd with hd | rfl
    · exact Nat.lt_succ_of_lt (hR.dom n hd)
    · exact Nat.lt_succ_self _
  · by_cases hx : n = σ.next
    · subst hx
      simp only [St.set_same, Option.some.injEq] at hr
      subst hr
      refine .inr ⟨.inr rfl, ⟨us, rest, t, fz, by simpa [Kx.name] using hb, hf, hv.mono e, fun o ho => hI o (by simpa [Kx.name] using ho)⟩, .inr (by simpa [Kx.name] using hB), fun m s hs hm => ?_⟩
      by_cases hy : m = σ.next
      · exact hy.symm
      · rw [St.set_other _ _ hy] at hs
        exact absurd hm.symm (by simpa [Kx.name, hy] using hfree m s hs)
    · rw [St.set_other _ _ hx] at hr
      exact .inl ⟨hr, rfl, fun o ho => ho⟩

/-- THE VALUES OF A MAP OF SPANS, GATHERED: a new row that is owned -/
theorem app5_ok {tE tS tQ tM tK tY tB bytes : Nat} (L : ElemK P tE tS 5 bytes [.int .u64 0, .int .u64 0, .int .i64 0, .int .i64 0, .slice none 0 0]) (M : MapsK P tM tK tE tB) (hne : tS ≠ tE) {f g : Nat} {fn gn : Func} (hf : P.funcs[f]? = some fn) (hfb : fn.body = some (apCode tE tS tQ)) (hft : fn.ntmps = 13) (hfr : fn.results = #[.tmp 4]) (hfn : (fn.name == "runtime.NumGoroutine") = false)
    (hg : P.funcs[g]? = some gn) (hgb : gn.body = some (vaCode tE tM tY tB)) (hgt : gn.ntmps = 15) (hgr : gn.results = #[]) (hgn : (gn.name == "runtime.NumGoroutine") = false)
    {σ : St} {bx m : Nat} {es : List (AV × AV)} {ts : List Nat} {clk : Nat} {l : List Sp} (hbx : σ.res bx = some (.obj [.map m])) (hm : σ.res m = some (.map es ts clk)) (hl : es.map (·.2) = spsAV l) (h1 : l.length ≤ maxLen) (h2 : l.length * bytes ≤ 140737488355328) :
    ACalls P f [.sl [] .nil, .func g [] [.ptr bx 0]] σ (fun v σ' => ∃ l', l'.Perm l ∧ ((l' = [] ∧ v = .sl [] .nil ∧ σ' = σ) ∨ (v = .ref σ.next 0 l'.length ∧ σ' = (σ.up 1).set σ.next (.obj (l'.flatMap cells5))))) := by
  have hE : Enters P f := ⟨fn, hf, by simp [hfb], hfn⟩
  have hG : Enters P g := ⟨gn, hg, by simp [hgb], hgn⟩
  refine ⟨hE, fun κ w vs B F hR hv => ?_⟩
  cases hv with
  | cons v1 _ r1 _ k1 m1 =>
  cases m1 with
  | cons v2 _ r2 _ k2 m2 =>
  cases m2
  have hv1 : v1 = .slice none 0 0 := by
    cases k1 with
    | slnil _ _ => rfl
    | slz _ _ hx => rcases hx with h | h <;> cases h
  subst hv1
  obtain ⟨p, q, rfl, hp, hq⟩ := k2.func_inv
  cases hp
  cases hq with
  | cons u _ r _ k3 m3 =>
  cases m3
  obtain ⟨rfl, hdb⟩ := k3.ptr_inv
  obtain ⟨_, us, rest, tt, fz, b1, b2, b3, b4⟩ := hR.own bx _ hbx
  cases b3 with
  | cons u0 _ r0 _ k4 m4 =>
  cases m4
  obtain ⟨rfl, hdm⟩ := k4.map_inv
  obtain ⟨_, ents, g1, g2, g3, g4, g5, g6⟩ := hR.own m _ hm
  obtain ⟨xs, hxs, hrel⟩ := rel_of_vm g2 hl
  have hel : ents.length = l.length := by
    have := congrArg List.length hxs
    simp only [List.length_map] at this
    rw [this, hrel.length]
  have hcell : w.cell? ⟨κ.φ bx, 0, none⟩ = some (.map (some (κ.φ m))) := by rw [cell_of b1]; rfl
  have hbl := hR.lt hbx
  have hml := hR.lt hm
  have hseq : SeqD Fence.wide 1 P g #[.pointer (some ⟨κ.φ bx, 0, none⟩)] SpV.enc (fun ss => ss.Perm xs) ents.length w := fun ll J W hW hJ hY h0 =>
    va5_in tE tS tM tK tY tB bytes L M Fence.wide 1 g gn hg hgb hgt hgr trivial rfl (Nat.le_refl _) ll (κ.φ bx) (κ.φ m) clk ents xs hxs J hY W hJ ((hW.cell (p := ⟨κ.φ bx, 0, none⟩) hbl).trans hcell) ((hW.block _ hml).trans g1)
      (by rw [g4]; exact g5) (fun e he => g6 _ (by rw [← g4]; exact List.mem_map_of_mem he)) h0
  have hc := callsIn_wide.1 (ap5_in tE tS tQ bytes L hne Fence.wide 2 f fn hf hfb hft hfr trivial rfl (Nat.le_refl _) g #[.pointer (some ⟨κ.φ bx, 0, none⟩)] trivial (fun args w => run_callFunc hG args) (fun ss => ss.Perm xs) ents.length (by rw [hel]; exact h1) (by rw [hel]; exact h2) w hseq)
  refine Calls.mono hc ?_
  rintro e w' ⟨v, ss, rfl, hS, hrow, hnil, hb, hd⟩
  obtain ⟨l', hp', hrel'⟩ := rel_perm hS hrel
  obtain ⟨e0, hR', hfr'⟩ := hR.late hb hd
  rcases hrow.2 with ⟨rfl, hz⟩ | ⟨gb, cap, cur, rfl, hbase, hgb', hr1, hr2, hr3, hr4⟩
  · have hs0 : ss = [] := List.eq_nil_of_length_eq_zero hz
    subst hs0
    have hl0 : l' = [] := List.eq_nil_of_length_eq_zero (by rw [← hrel'.length]; rfl)
    exact ⟨_, .sl [] .nil, κ, σ, rfl, e0, fun n hn => .inl hn, hR', hfr', Nat.le_refl _, .slnil _ (.inl rfl), l', hp', .inl ⟨hl0, rfl, rfl⟩⟩
  · have hrl : Vl κ w' (ss.flatMap SpV.cs) (l'.flatMap cells5) := hrel'.vl.mono e0
    have hcur : cur = ⟨ss.flatMap SpV.cs ++ cur.toList.drop (ss.length * 5)⟩ := by
      apply Array.ext'
      simp only
      rw [← hr4, List.take_append_drop]
    rw [hcur] at hgb'
    have hgl : ∀ {n r}, σ.res n = some r → κ.φ n ≠ gb := fun hr h => by have := hR.lt hr; omega
    obtain ⟨e1, hR1⟩ := R.claim hR' (b := gb) hbase (fun n r hr => hgl hr) (fun o hi => by have := hR.imm _ _ hi; omega) (cs := l'.flatMap cells5) (.inl rfl) hgb' hrl
    refine ⟨_, .ref σ.next 0 l'.length, κ.name σ.next gb, (σ.up 1).set σ.next (.obj (l'.flatMap cells5)), rfl, e0.trans e1, fun n hn => (by rcases hn with hn | hn; exact .inl hn; exact .inr (by rw [hn]; exact Nat.le_refl _)), hR1, hfr', Nat.le_succ _, ?_, l', hp', .inr ⟨rfl, rfl⟩⟩
    have := V.ref (κ := κ.name σ.next gb) (w := w') σ.next 0 l'.length cap (.inr rfl) (by rw [← hrel'.length]; exact hr1)
    simpa [Kx.name, hrel'.length] using this

end Go.VL

namespace Go.VL

open Go.Proofs Go.RowKit Go.Lib Go.Sort Go.Shelf

variable {P : Program} {κ : Kx} {w : World}

theorem flat_len5 : ∀ (xs : List SpV), (xs.flatMap SpV.cs).length = xs.length * 5
  | [] => rfl
  | x :: xs => by simp only [List.flatMap_cons, List.length_append, flat_len5 xs, List.length_cons]; simp [SpV.cs]; omega

theorem flat_get5 : ∀ (xs : List SpV) (j : Nat) (hj : j < xs.length * 5), (xs.flatMap SpV.cs)[j]? = (SpV.cs (xs[j / 5]'(by omega)))[j % 5]?
  | [], j, hj => absurd hj (by simp)
  | x :: xs, j, hj => by
    simp only [List.flatMap_cons]
    have h5 : (SpV.cs x).length = 5 := rfl
    by_cases h : j < 5
    · rw [List.getElem?_append_left (by rw [h5]; exact h)]
      have e1 : j / 5 = 0 := by omega
      have e2 : j % 5 = j := by omega
      simp only [e1, e2, List.getElem_cons_zero]
    · rw [List.getElem?_append_right (by rw [h5]; omega), h5, flat_get5 xs (j - 5) (by simp at hj; omega)]
      have e1 : j / 5 = (j - 5) / 5 + 1 := by omega
      have e2 : j % 5 = (j - 5) % 5 := by omega
      simp only [e1, e2, List.getElem_cons_succ]

theorem flatK_get (xs : List SpV) (j : Nat) (hj : j < xs.length * 5) : (xs.flatMap SpV.cs)[j]? = some (flatK SpV.cs 5 xs.toArray)[j]! := by
  rw [flat_get5 xs j hj, get_flatK _ _ _ _ (by simpa using hj)]
  have h1 : j / 5 < xs.length := by omega
  have h2 : xs.toArray[j / 5]! = xs[j / 5] := by simp [h1]
  rw [h2]
  have h3 : j % 5 < (SpV.cs xs[j / 5]).length := by show j % 5 < 5; omega
  rw [List.getElem?_eq_getElem h3, getElem!_pos (SpV.cs xs[j / 5]) (j % 5) h3]

/-- the memory behind a sort -/
theorem sorted_heap {w : World} {b : Nat} {us rest : List Value} {t : TypeId} {fz : Nat × Nat} (hb : w.heap[b]? = some (.cells ⟨us ++ rest⟩ t fz)) {xs ys : List SpV} (hu : us = xs.flatMap SpV.cs) (hl : ys.length = xs.length) (n : Nat) (os : Array Obj) :
    (sortWorldK SpV.cs 5 w b 0 n ys.toArray os).heap[b]? = some (.cells ⟨ys.flatMap SpV.cs ++ rest⟩ t fz) ∧ (∀ c, c ≠ b → c < w.heap.size → (sortWorldK SpV.cs 5 w b 0 n ys.toArray os).heap[c]? = w.heap[c]?) ∧ w.heap.size ≤ (sortWorldK SpV.cs 5 w b 0 n ys.toArray os).heap.size := by
  have hlt := (Array.getElem?_eq_some_iff.1 hb).1
  have hh : (sortWorldK SpV.cs 5 w b 0 n ys.toArray os).heap = w.heap.modify b (onCells (putCells id 0 (flatK SpV.cs 5 ys.toArray))) ++ os := rfl
  refine ⟨?_, fun c hc hcl => ?_, ?_⟩
  · rw [hh, Array.getElem?_append_left (by rw [Array.size_modify]; exact hlt), Array.getElem?_modify, if_pos rfl, hb]
    simp only [Option.map_some, onCells, Option.some.injEq, Obj.cells.injEq, and_true]
    have h5 := flat_len5 ys
    have h6 := flat_len5 xs
    apply Array.ext_getElem?
    intro k
    simp only [putCells, Array.getElem?_mapIdx, size_flatK, List.size_toArray, Nat.zero_le, true_and, Nat.zero_add, Nat.sub_zero, id, List.getElem?_toArray]
    by_cases hk : k < ys.length * 5
    · have e2 : (ys.flatMap SpV.cs ++ rest)[k]? = some (flatK SpV.cs 5 ys.toArray)[k]! := by rw [List.getElem?_append_left (by rw [h5]; exact hk), flatK_get ys k hk]
      rw [e2]
      have hk2 : k < (us ++ rest).length := by rw [List.length_append, hu, h6, ← hl]; omega
      rw [List.getElem?_eq_getElem hk2]
      simp [hk]
    · have hul : us.length = xs.length * 5 := by rw [hu, h6]
      have hk' : ¬ k < xs.length * 5 := by omega
      have e1 : (us ++ rest)[k]? = rest[k - xs.length * 5]? := by rw [List.getElem?_append_right (by omega), hul]
      have e2 : (ys.flatMap SpV.cs ++ rest)[k]? = rest[k - xs.length * 5]? := by rw [List.getElem?_append_right (by omega), h5, hl]
      rw [e1, e2]
      cases rest[k - xs.length * 5]? with
      | none => rfl
      | some v => simp [hk]
  · rw [hh, Array.getElem?_append_left (by rw [Array.size_modify]; exact hcl), Array.getElem?_modify, if_neg (Ne.symm hc)]
  · rw [hh, Array.size_append, Array.size_modify]; omega

/-- A ROW OF SPANS THAT IS OWNED, SORTED -/
theorem sort5_ok {ρ : Ren} (L : SlLaysF0.n6 P ρ) (aE : ∀ w, (isAgg (ρ.t 24)).run P w = .ok true w) (zE : ∀ w, (Go.sizeOf (ρ.t 24)).run P w = .ok 5 w) {g : Nat} (hG : Enters P g) (hE : Enters P (ρ.f 6))
    (hcmp : ∀ a b c d a' b' c' d' : Int, ACalls P g [.agg [.int .u64 a, .int .u64 b, .int .i64 c, .int .i64 d, .any], .agg [.int .u64 a', .int .u64 b', .int .i64 c', .int .i64 d', .any]] σn
      (fun v σ' => v = .int .i64 (cfS ⟨a, b, c, d, none, 0, 0⟩ ⟨a', b', c', d', none, 0, 0⟩) ∧ σ' = σn)) {σ : St} {nm : Nat} {l : List Sp} (hnm : σ.res nm = some (.obj (l.flatMap cells5))) (hlen : l.length < 4611686018427387904) :
    ACalls P (ρ.f 6) [.ref nm 0 l.length, .func g [] []] σ (fun v σ' => v = .tup [] ∧ ∃ l' : List Sp, l'.Perm l ∧ l'.Pairwise (fun a b => aheadS b a = false) ∧ σ' = σ.set nm (.obj (l'.flatMap cells5))) := by
  refine ⟨hE, fun κ w vs B F hR hv => ?_⟩
  cases hv with
  | cons v1 _ r1 _ k1 m1 =>
  cases m1 with
  | cons v2 _ r2 _ k2 m2 =>
  cases m2
  obtain ⟨cap, rfl, hcap, hdn⟩ := k1.ref_inv
  obtain ⟨p, q, rfl, hp, hq⟩ := k2.func_inv
  cases hp
  cases hq
  obtain ⟨_, us, rest, tt, fz, b1, b2, b3, b4⟩ := hR.own nm _ hnm
  obtain ⟨xs, hus, hrel⟩ := rel_of_vl b3
  have hxl := hrel.length
  have hnl := hR.lt hnm
  have hul : us.length = xs.length * 5 := by rw [hus, flat_len5]
  have hH : HoldsK SpV.cs 5 w (κ.φ nm) 0 xs.toArray := by
    intro j hj
    have hj' : j < xs.length * 5 := by simpa using hj
    rw [Nat.zero_add, cell_of b1]
    refine ⟨?_, frozen_of b1 b2 (by omega)⟩
    rw [List.getElem?_append_left (by omega), hus, flatK_get xs j hj']
    rfl
  have hc := AnyQ.slices_SortFunc L 5 aE zE SpV.cs (fun _ => rfl) (fun x v hv => by simp [SpV.cs] at hv; rcases hv with rfl | rfl | rfl | rfl | rfl <;> rfl) cfS swoS g #[] (κ.φ nm) 0 cap xs.toArray w
    (fun args w => run_callFunc hG args) (cmp_lays hcmp _ _ _ _) hH hnl (by simpa [hxl] using hlen)
  have hsz : xs.toArray.size = l.length := by simpa using hxl
  rw [hsz] at hc
  refine Calls.mono hc ?_
  rintro e w' ⟨rfl, d', n, os, hp, hs, rfl⟩
  obtain ⟨hp1, _, hp3⟩ := hp
  have hd'l : d'.toList.length = l.length := by simpa using hp1.trans hsz
  have hperm : d'.toList.Perm xs := by
    have e1 : (d'.extract 0 l.length).toList = d'.toList := by
      rw [show l.length = d'.size by simpa using hd'l.symm]; simp
    have e2 : (xs.toArray.extract 0 l.length).toList = xs := by
      rw [← hxl]; simp
    rw [e1, e2] at hp3; exact hp3
  obtain ⟨l', hl', hrel'⟩ := rel_perm hperm hrel
  have hd' : d' = d'.toList.toArray := by simp
  obtain ⟨s1, s2, s3⟩ := sorted_heap (w := w) (b := κ.φ nm) b1 (xs := xs) (ys := d'.toList) hus (by rw [hd'l, hxl]) n os
  rw [← hd'] at s1 s2 s3
  generalize hw' : sortWorldK SpV.cs 5 w (κ.φ nm) 0 n d' os = w' at s1 s2 s3
  have hos : w'.os = w.os ∧ w'.tape = w.tape ∧ w'.output = w.output ∧ w.drawn ≤ w'.drawn := by
    rw [← hw']; exact ⟨rfl, rfl, rfl, Nat.le_add_right _ _⟩
  have e : Ext κ w κ w' := ⟨fun _ _ h => h, fun _ _ => rfl, fun _ _ => rfl, fun _ _ => rfl, fun _ _ => rfl, fun _ h => h, fun b o hi => cell_same (s2 b (fun hx => b4 o (hx ▸ hi)) (hR.imm b o hi)) o⟩
  have hvl : Vl κ w' (d'.toList.flatMap SpV.cs) (l'.flatMap cells5) := hrel'.vl.mono e
  have hlen' : (d'.toList.flatMap SpV.cs).length = us.length := by rw [flat_len5, hul, hd'l, hxl]
  have hR' : R B F κ w' (σ.set nm (.obj (l'.flatMap cells5))) := by
    refine hR.step e hR.dom (fun b o hi => Nat.lt_of_lt_of_le (hR.imm b o hi) s3) (fun m r hr => ?_)
    by_cases hx : m = nm
    · subst hx
      simp only [St.set_same, Option.some.injEq] at hr
      subst hr
      refine .inr ⟨hdn, ⟨_, rest, tt, fz, s1, by rw [hlen']; exact b2, hvl, b4⟩, hR.foot _ _ hnm rfl, fun j s hj hm => ?_⟩
      by_cases hy : j = m
      · exact hy.symm
      · rw [St.set_other _ _ hy] at hj
        exact hR.apart _ _ _ _ hnm hj hm
    · rw [St.set_other _ _ hx] at hr
      exact .inl ⟨hr, s2 _ (fun hy => hx (hR.apart _ _ _ _ hr hnm hy)) (hR.lt hr), fun o ho => ho⟩
  refine ⟨.tuple #[], .tup [], κ, σ.set nm (.obj (l'.flatMap cells5)), rfl, e, fun n hn => .inl hn, ⟨hR'.dom, hR'.own, hR'.apart, hR'.imm, fun m r hr hrl => ?_⟩, ⟨⟨hos.1, hos.2.2.2⟩, hos.2.1, hos.2.2.1, s3, fun b hb hF => s2 b (fun hx => hF ⟨nm, _, hnm, rfl, hx.symm⟩) hb⟩, Nat.le_refl _, .tup [] [] .nil, rfl, l', hl', ?_, rfl⟩
  · by_cases hx : m = nm
    · subst hx; exact .inl ⟨m, _, hnm, rfl, rfl⟩
    · rw [St.set_other _ _ hx] at hr; exact .inl ⟨m, r, hr, hrl, rfl⟩
  · rw [List.pairwise_iff_getElem]
    intro i j hi hj hij
    have hrl := hrel'.length
    have hi' : i < d'.toList.length := by omega
    have hj' : j < d'.toList.length := by omega
    have := hs i j (Nat.zero_le _) hij (by omega)
    rw [getElem!_pos d' i (by simpa using hi'), getElem!_pos d' j (by simpa using hj'), ltS] at this
    have ri := hrel'.get i hi' hi
    have rj := hrel'.get j hj' hj
    simp only [Array.getElem_toList] at ri rj
    rw [ri.a, ri.b, ri.c, rj.a, rj.b, rj.c] at this
    rw [decide_eq_false_iff_not] at this
    unfold aheadS
    split
    · simp only [decide_eq_false_iff_not]; omega
    · split
      · simp only [decide_eq_false_iff_not]; omega
      · simp only [decide_eq_false_iff_not]; omega

/-- nothing to sort -/
theorem sort5_nil {ρ : Ren} (L : SlLaysF0.n6 P ρ) (hE : Enters P (ρ.f 6)) {g : Nat} {σ : St} : ACalls P (ρ.f 6) [.sl [] .nil, .func g [] []] σ (fun v σ' => v = .tup [] ∧ σ' = σ) := by
  refine ⟨hE, fun κ w vs B F hR hv => ?_⟩
  cases hv with
  | cons v1 _ r1 _ k1 m1 =>
  cases m1 with
  | cons v2 _ r2 _ k2 m2 =>
  cases m2
  obtain ⟨bs, n, m, rfl⟩ := slice_of k1
  have hz : n = 0 := by
    rcases k1.sl_inv with ⟨b, h1, _⟩ | ⟨b, i, c, k, h1, _⟩
    · injection h1
    · injection h1
  subst hz
  have hc := AnyF.slices_SortFunc_none L bs m v2 w
  refine Calls.mono hc ?_
  rintro e w' ⟨rfl, rfl⟩
  exact ⟨.tuple #[], .tup [], κ, σ, rfl, .refl _ _, fun n hn => .inl hn, ⟨hR.dom, hR.own, hR.apart, hR.imm, fun n r hr hrl => .inl ⟨n, r, hr, hrl, rfl⟩⟩, .refl _ _, Nat.le_refl _, .tup [] [] .nil, rfl, rfl⟩

end Go.VL

namespace Go.VL

open Go.Proofs Go.RowKit

variable {P : Program} {κ : Kx} {w : World}

def bcCode (tS tI f : Nat) : Code := ((Code.region 0
            #[{ dst := some 4, op := Op.assign (Operand.const (Value.int IntKind.i64 0)), type := tI,
                pos := "bytes.go:28", after := #[], guard := none }]
            false).seq
        ((Code.region 1
              #[{ dst := some 5, op := Op.move (Operand.tmp 0), type := tS, pos := "bytes.go:29", after := #[],
                  guard := none },
                { dst := some 6, op := Op.move (Operand.tmp 1), type := tS, pos := "bytes.go:29", after := #[],
                  guard := none },
                { dst := some 7,
                  op :=
                    Op.call
                      { callee := Callee.value (Operand.func f), args := #[Operand.tmp 5, Operand.tmp 6],
                        argTypes := #[tS, tS] },
                  type := tI, pos := "bytes.go:29",
                  after := #[{ on := 0, ground := Ground.data }, { on := 1, ground := Ground.data }], guard := none },
                { dst := some 4, op := Op.assign (Operand.tmp 7), type := tI, pos := "bytes.go:29",
                  after :=
                    #[{ on := 2, ground := Ground.data }, { on := 2, ground := Ground.chain },
                      { on := 0, ground := Ground.phase }, { on := 1, ground := Ground.phase },
                      { on := 2, ground := Ground.phase }],
                  guard := none }]
              false).seq
          Code.ret))

theorem run_lb : ∀ (l : List UInt8) (b o : Nat) (acc : ByteArray), (∀ (j : Nat) (x : UInt8), l[j]? = some x → w.cell? ⟨b, o + j, none⟩ = some (.int .u8 (x.toNat : Int))) →
    (Extern.Bytes.loadBytes ⟨b, o, none⟩ l.length acc).run P w = .ok ⟨acc.data ++ l.toArray⟩ w
  | [], b, o, acc, _ => by simp [Extern.Bytes.loadBytes]
  | x :: l, b, o, acc, h => by
    have h0 : w.cell? ⟨b, o, none⟩ = some (.int .u8 (x.toNat : Int)) := by simpa using h 0 x rfl
    have ih := run_lb l b (o + 1) (acc.push x) (fun j y hj => by
      have := h (j + 1) y (by simpa using hj)
      rw [show o + 1 + j = o + (j + 1) by omega]; exact this)
    have ha : ((⟨b, o, none⟩ : Addr).add 1) = ⟨b, o + 1, none⟩ := by simp [Addr.add]
    have hx : ((x.toNat : Int)).toNat.toUInt8 = x := by simp
    simp only [List.length_cons, Extern.Bytes.loadBytes, Sem.run_bind, load, Sem.run, h0, Result.andThen_ok, Extern.Bytes.asByte, Sem.run_pure, hx, ha, ih]
    simp

theorem run_bytesOf {v : Value} {l : List UInt8} {g : Ver} (h : V κ w v (.sl (bytesAV l) g)) : (Extern.Bytes.bytesOf v).run P w = .ok ⟨l.toArray⟩ w := by
  rcases h.sl_inv with ⟨base, rfl, hx⟩ | ⟨b, i, c, k, rfl, _, _, hvs⟩
  · have : l = [] := by cases l <;> simp [bytesAV] at hx ⊢
    subst this
    cases base with
    | none => simp [Extern.Bytes.bytesOf]; rfl
    | some a => simp [Extern.Bytes.bytesOf, Extern.Bytes.loadBytes]; rfl
  · have hlen : (bytesAV l).length = l.length := by simp [bytesAV]
    rw [hlen]
    have := run_lb (P := P) (w := w) l b i .empty (fun j x hj => by
      have hf : ((bytesAV l).flatMap AV.cells)[j]? = some (.int .u8 (x.toNat : Int)) := by
        have : (bytesAV l).flatMap AV.cells = bytesAV l := by
          apply flat_single
          intro y hy
          obtain ⟨z, _, rfl⟩ := List.mem_map.1 hy
          rfl
        rw [this]
        simp [bytesAV, hj]
      obtain ⟨u, hu, hv⟩ := hvs.cell j _ hf
      rw [hu, hv.int_inv])
    simp only [Extern.Bytes.bytesOf]
    rw [this]
    simp

set_option maxRecDepth 100000 in
set_option maxHeartbeats 1000000 in
theorem bcmp5_ok {tS tI f fx : Nat} {fn fe : Func} (hf : P.funcs[f]? = some fn) (hfb : fn.body = some (bcCode tS tI fx)) (hft : fn.ntmps = 8) (hfr : fn.results = #[.tmp 4]) (hfn : (fn.name == "runtime.NumGoroutine") = false)
    (hx : P.funcs[fx]? = some fe) (hxn : (fe.name == "runtime.NumGoroutine") = false) (hxb : fe.body.isNone = true) (hx1 : Extern.findNext fe = none) (hx2 : Extern.find fe = some Extern.BytealgCompare.compare)
    {a b : List UInt8} {g g' : Ver} {σ : St} : ACalls P f [.sl (bytesAV a) g, .sl (bytesAV b) g'] σ (fun v σ' => v = .int .i64 (Lib.compareBytes a b) ∧ σ' = σ) := by
  refine ⟨⟨fn, hf, by simp [hfb], hfn⟩, fun κ w vs B F hR hv => ?_⟩
  cases hv with
  | cons v1 _ r1 _ k1 m1 =>
  cases m1 with
  | cons v2 _ r2 _ k2 m2 =>
  cases m2
  have h1 := run_bytesOf (P := P) k1
  have h2 := run_bytesOf (P := P) k2
  have hc : (Extern.BytealgCompare.compare #[v1, v2]).run P w = .ok (.int .i64 (Lib.compareBytes a b)) w := by
    show Sem.run P (do pure (goInt (Extern.BytealgCompare.cmp (← Extern.Bytes.bytesOf v1) (← Extern.Bytes.bytesOf v2)))) w = _
    simp only [Sem.run_bind, h1, h2, Result.andThen_ok, Sem.run_pure, goInt]
    rw [Lib.cmp_eq]
  have hcf := run_callFunc_extern hx hxn hxb hx1 hx2 #[v1, v2] w
  rw [hc] at hcf
  simp only [Result.andThen_ok] at hcf
  suffices Calls P f #[v1, v2] w fun e w' => e = .returned (.int .i64 (Lib.compareBytes a b)) ∧ w' = w by
    refine Calls.mono this ?_
    rintro e w' ⟨rfl, rfl⟩
    exact ⟨_, _, κ, σ, rfl, .refl _ _, fun n hn => .inl hn, ⟨hR.dom, hR.own, hR.apart, hR.imm, fun n r hr hrl => .inl ⟨n, r, hr, hrl, rfl⟩⟩, .refl _ _, Nat.le_refl _, .int _ _, rfl, rfl⟩
  clear h1 h2 hc
  cases fn
  simp only at hfb hft hfr
  subst hfb hft hfr
  refine calls_of_wp hf rfl ?_
  unfold bcCode
  simp only [List.size_toArray, List.length_cons, List.length_nil, Nat.reduceAdd, Nat.reduceSub, Array.replicate_succ, Array.replicate_zero, List.push_toArray, List.append_toArray, List.nil_append, List.cons_append]
  go_wp2
  refine bodyPost_ret (results_tmp rfl _ _ _) rfl ?_
  exact ⟨rfl, rfl⟩

/-- which of two texts of bytes comes first -/
theorem compareBytes_neg : ∀ (a b : List UInt8), (Lib.compareBytes a b < 0) = (Op.bytesLess a b = true)
  | [], [] => by simp [Lib.compareBytes, Op.bytesLess]
  | [], _ :: _ => by simp [Lib.compareBytes, Op.bytesLess]
  | _ :: _, [] => by simp [Lib.compareBytes, Op.bytesLess]
  | x :: a, y :: b => by
    have ih := compareBytes_neg a b
    simp only [Lib.compareBytes, Op.bytesLess]
    by_cases h1 : x < y
    · simp [h1]
    · by_cases h2 : y < x
      · have h3 : ¬ x = y := fun h => by subst h; exact h1 h2
        simp [h1, h2]
        exact fun h => absurd h h3
      · have h3 : x = y := UInt8.le_antisymm (UInt8.not_lt.1 h2) (UInt8.not_lt.1 h1)
        subst h3
        simp only [h1, if_false]
        rw [ih]
        simp

end Go.VL

namespace Go.VL

open Go.Proofs Go.Shelf

def renS : Ren := ⟨fun | 6 => 127 | 15 => 153 | 14 => 158 | 28 => 177 | 29 => 178 | 20 => 179 | 21 => 180 | 22 => 181 | 23 => 182 | 24 => 183 | 25 => 184 | 26 => 185 | 27 => 186 | 46 => 201 | 47 => 197 | 48 => 198 | 49 => 202 | 50 => 203 | 57 => 209 | n => n, fun | 22 => 47 | 24 => 53 | 25 => 137 | 3 => 3 | 39 => 172 | 0 => 0 | 53 => 166 | 55 => 51 | 4 => 4 | 46 => 232 | 45 => 231 | 50 => 236 | 5 => 5 | 9 => 9 | 66 => 250 | 70 => 254 | 76 => 260 | 77 => 261 | n => n, fun n => n⟩

theorem laysS : SlLaysF0.n6 Try.prog renS where
  mixed := by kernel_rfl
  f6 := ⟨ "slices.SortFunc[[]tankard/api.Span,tankard/api.Span]", by decide, Try.func127.trans (congrArg some (by kernel_rfl))⟩
  f14 := ⟨ "slices.pdqsortCmpFunc[tankard/api.Span]", by decide, Try.func158.trans (congrArg some (by kernel_rfl))⟩
  f15 := Try.func153.trans (congrArg some (by kernel_rfl))
  f20 := ⟨ "slices.insertionSortCmpFunc[tankard/api.Span]", by decide, Try.func179.trans (congrArg some (by kernel_rfl))⟩
  f21 := ⟨ "slices.heapSortCmpFunc[tankard/api.Span]", by decide, Try.func180.trans (congrArg some (by kernel_rfl))⟩
  f22 := ⟨ "slices.breakPatternsCmpFunc[tankard/api.Span]", by decide, Try.func181.trans (congrArg some (by kernel_rfl))⟩
  f23 := ⟨ "slices.choosePivotCmpFunc[tankard/api.Span]", by decide, Try.func182.trans (congrArg some (by kernel_rfl))⟩
  f24 := ⟨ "slices.reverseRangeCmpFunc[tankard/api.Span]", by decide, Try.func183.trans (congrArg some (by kernel_rfl))⟩
  f25 := ⟨ "slices.partialInsertionSortCmpFunc[tankard/api.Span]", by decide, Try.func184.trans (congrArg some (by kernel_rfl))⟩
  f26 := ⟨ "slices.partitionEqualCmpFunc[tankard/api.Span]", by decide, Try.func185.trans (congrArg some (by kernel_rfl))⟩
  f27 := ⟨ "slices.partitionCmpFunc[tankard/api.Span]", by decide, Try.func186.trans (congrArg some (by kernel_rfl))⟩
  f28 := Try.func177.trans (congrArg some (by kernel_rfl))
  f29 := Try.func178.trans (congrArg some (by kernel_rfl))
  f46 := ⟨ "slices.siftDownCmpFunc[tankard/api.Span]", by decide, Try.func201.trans (congrArg some (by kernel_rfl))⟩
  f47 := Try.func197.trans (congrArg some (by kernel_rfl))
  f48 := Try.func198.trans (congrArg some (by kernel_rfl))
  f49 := ⟨ "slices.medianAdjacentCmpFunc[tankard/api.Span]", by decide, Try.func202.trans (congrArg some (by kernel_rfl))⟩
  f50 := ⟨ "slices.medianCmpFunc[tankard/api.Span]", by decide, Try.func203.trans (congrArg some (by kernel_rfl))⟩
  f57 := ⟨ "slices.order2CmpFunc[tankard/api.Span]", by decide, Try.func209.trans (congrArg some (by kernel_rfl))⟩
  t0 := Try.underlying0
  a0 := Try.isAgg0
  z0 := Try.sizeOf0
  v0 := Try.zeroValue0
  t3 := Try.underlying3
  a3 := Try.isAgg3
  z3 := Try.sizeOf3
  v3 := Try.zeroValue3
  t4 := Try.underlying4
  a4 := Try.isAgg4
  z4 := Try.sizeOf4
  v4 := Try.zeroValue4
  t5 := Try.underlying5
  a5 := Try.isAgg5
  z5 := Try.sizeOf5
  v5 := Try.zeroValue5
  t9 := Try.underlying9
  a9 := Try.isAgg9
  z9 := Try.sizeOf9
  v9 := Try.zeroValue9
  t22 := Try.underlying47
  a22 := Try.isAgg47
  z22 := Try.sizeOf47
  v22 := Try.zeroValue47
  t25 := Try.underlying137
  a25 := Try.isAgg137
  z25 := Try.sizeOf137
  v25 := Try.zeroValue137
  t39 := Try.underlying172
  a39 := Try.isAgg172
  z39 := Try.sizeOf172
  v39 := Try.zeroValue172
  t45 := Try.underlying231
  a45 := Try.isAgg231
  z45 := Try.sizeOf231
  v45 := Try.zeroValue231
  t46 := Try.underlying232
  a46 := Try.isAgg232
  z46 := Try.sizeOf232
  v46 := Try.zeroValue232
  t50 := Try.underlying236
  a50 := Try.isAgg236
  z50 := Try.sizeOf236
  v50 := Try.zeroValue236
  t53 := Try.underlying166
  a53 := Try.isAgg166
  z53 := Try.sizeOf166
  v53 := Try.zeroValue166
  t55 := Try.underlying51
  a55 := Try.isAgg51
  z55 := Try.sizeOf51
  v55 := Try.zeroValue51
  t66 := Try.underlying250
  a66 := Try.isAgg250
  z66 := Try.sizeOf250
  v66 := Try.zeroValue250
  t70 := Try.underlying254
  a70 := Try.isAgg254
  z70 := Try.sizeOf254
  v70 := Try.zeroValue254
  t76 := Try.underlying260
  a76 := Try.isAgg260
  z76 := Try.sizeOf260
  v76 := Try.zeroValue260
  t77 := Try.underlying261
  a77 := Try.isAgg261
  z77 := Try.sizeOf261
  v77 := Try.zeroValue261

abbrev n_sortsp : Nat := 127

abbrev n_appsp : Nat := 157

abbrev n_valssp : Nat := 128

theorem sort_agg (w : World) : (isAgg (renS.t 24)).run Try.prog w = .ok true w := Try.isAgg53 w

theorem sort_size (w : World) : (Go.sizeOf (renS.t 24)).run Try.prog w = .ok 5 w := Try.sizeOf53 w

theorem elemS : ElemK Try.prog 53 47 5 56 [.int .u64 0, .int .u64 0, .int .i64 0, .int .i64 0, .slice none 0 0] where
  mixed := by kernel_rfl
  t0 := Try.underlying0
  uS := Try.underlying47
  aS := Try.isAgg47
  zS := Try.sizeOf47
  vS := Try.zeroValue47
  aE := Try.isAgg53
  zE := Try.sizeOf53
  vE := Try.zeroValue53
  iE := by kernel_rfl
  zl := rfl

theorem mapsS : MapsK Try.prog 129 131 53 4 where
  uM := Try.underlying129
  aM := Try.isAgg129
  zM := Try.sizeOf129
  vM := Try.zeroValue129
  uB := Try.underlying4
  aB := Try.isAgg4
  zB := Try.sizeOf4
  vB := Try.zeroValue4

theorem app_body : Try.f157.body = some (apCode 53 47 135) := by kernel_rfl

theorem app_nt : Try.f157.ntmps = 13 := by kernel_rfl

theorem app_res : Try.f157.results = #[.tmp 4] := by kernel_rfl

theorem app_name : (Try.f157.name == "runtime.NumGoroutine") = false := by kernel_rfl

theorem app_fn : Try.prog.funcs[n_appsp]? = some Try.f157 := Try.func157

theorem va_body : Try.f128.body = some (vaCode 53 129 108 4) := by kernel_rfl

theorem va_nt : Try.f128.ntmps = 15 := by kernel_rfl

theorem va_res : Try.f128.results = #[] := by kernel_rfl

theorem va_name : (Try.f128.name == "runtime.NumGoroutine") = false := by kernel_rfl

theorem va_fn : Try.prog.funcs[n_valssp]? = some Try.f128 := Try.func128

theorem sort_name : (Try.f127.name == "runtime.NumGoroutine") = false := by kernel_rfl

theorem sort_body : Try.f127.body.isNone = false := by kernel_rfl

theorem sort_fn : Try.prog.funcs[n_sortsp]? = some Try.f127 := Try.func127

abbrev n_bcmp : Nat := 125

theorem bc_body : Try.f125.body = some (bcCode 34 3 156) := by kernel_rfl

theorem bc_nt : Try.f125.ntmps = 8 := by kernel_rfl

theorem bc_res : Try.f125.results = #[.tmp 4] := by kernel_rfl

theorem bc_name : (Try.f125.name == "runtime.NumGoroutine") = false := by kernel_rfl

theorem bc_fn : Try.prog.funcs[n_bcmp]? = some Try.f125 := Try.func125

theorem bx_fn : Try.prog.funcs[156]? = some Try.f156 := Try.func156

theorem bx_name : (Try.f156.name == "runtime.NumGoroutine") = false := by kernel_rfl

theorem bx_body : Try.f156.body.isNone = true := by kernel_rfl

theorem bx_next : Extern.findNext Try.f156 = none := by kernel_rfl

theorem bx_find : Extern.find Try.f156 = some Extern.BytealgCompare.compare := by kernel_rfl

end Go.VL

namespace Go.VL

open Go.Proofs Go.RowKit Go.Lib Go.Sort Go.Shelf

theorem cf_cmp (a b c d a' b' c' d' : Int) : cmpS c b a c' b' a' = cfS ⟨a, b, c, d, none, 0, 0⟩ ⟨a', b', c', d', none, 0, 0⟩ := by
  unfold cmpS cfS cmp3
  simp only
  by_cases h1 : c < c'
  · simp [h1, orI]
  · by_cases h2 : c' < c
    · simp [h1, h2, orI]
    · by_cases h3 : b < b'
      · simp [h1, h2, h3, orI]
      · by_cases h4 : b' < b
        · simp [h1, h2, h3, h4, orI]
        · by_cases h5 : a < a'
          · simp [h1, h2, h3, h4, h5, orI]
          · by_cases h6 : a' < a <;> simp [h1, h2, h3, h4, h5, h6, orI]

theorem appsp_ok {σ : St} {bx m : Nat} {es : List (AV × AV)} {ts : List Nat} {clk : Nat} {l : List Sp} (hbx : σ.res bx = some (.obj [.map m])) (hm : σ.res m = some (.map es ts clk)) (hl : es.map (·.2) = spsAV l) (h1 : l.length ≤ 1000000) :
    ACalls Try.prog n_appsp [.sl [] .nil, .func n_valssp [] [.ptr bx 0]] σ (fun v σ' => ∃ l' : List Sp, l'.Perm l ∧ ((l' = [] ∧ v = .sl [] .nil ∧ σ' = σ) ∨ (v = .ref σ.next 0 l'.length ∧ σ' = (σ.up 1).set σ.next (.obj (l'.flatMap cells5))))) :=
  app5_ok elemS mapsS (by decide) app_fn app_body app_nt app_res app_name va_fn va_body va_nt va_res va_name hbx hm hl (by simp only [maxLen]; omega) (by omega)

theorem sortsp_enters : Enters Try.prog n_sortsp := ⟨_, sort_fn, sort_body, sort_name⟩

theorem sortsp_ok {σ : St} {nm : Nat} {l : List Sp} (hnm : σ.res nm = some (.obj (l.flatMap cells5))) (hlen : l.length ≤ 1000000) :
    ACalls Try.prog n_sortsp [.ref nm 0 l.length, .func n_scmp [] []] σ (fun v σ' => v = .tup [] ∧ ∃ l' : List Sp, l'.Perm l ∧ l'.Pairwise (fun a b => aheadS b a = false) ∧ σ' = σ.set nm (.obj (l'.flatMap cells5))) :=
  sort5_ok (P := Try.prog) (ρ := renS) laysS sort_agg sort_size (scmp_ok (t := 0) (i := 0) (s := 0) (t' := 0) (i' := 0) (s' := 0) (x := .any) (y := .any) (x' := .any) (y' := .any) (σ := σn)).1 sortsp_enters
    (fun a b c d a' b' c' d' => scmp_ok.mono fun v σ' ⟨h1, h2⟩ => ⟨by rw [h1, cf_cmp a b c d a' b' c' d'], h2⟩) hnm (by omega)

theorem sortsp_nil {σ : St} : ACalls Try.prog n_sortsp [.sl [] .nil, .func n_scmp [] []] σ (fun v σ' => v = .tup [] ∧ σ' = σ) :=
  sort5_nil (P := Try.prog) (ρ := renS) laysS sortsp_enters

theorem bcmp_ok {a b : List UInt8} {g g' : Ver} {σ : St} : ACalls Try.prog n_bcmp [.sl (bytesAV a) g, .sl (bytesAV b) g'] σ (fun v σ' => v = .int .i64 (Lib.compareBytes a b) ∧ σ' = σ) :=
  bcmp5_ok bc_fn bc_body bc_nt bc_res bc_name bx_fn bx_name bx_body bx_next bx_find

end Go.VL

namespace Go.VL

open Go.Proofs

abbrev n_tless : Nat := 77

def c_tless : C := (.seq (.reg [⟨(some 2), (.box (.t 0)), none⟩, ⟨(some 3), (.box (.t 1)), none⟩, ⟨(some 4), (.mv (.c (.bool false))), none⟩]) (.seq (.reg [⟨(some 5), (.faddr 2 (.t 2)), none⟩, ⟨(some 6), (.load none (.t 5)), none⟩, ⟨(some 7), (.faddr 2 (.t 3)), none⟩, ⟨(some 8), (.load none (.t 7)), none⟩, ⟨(some 9), (.qcall 124 [(.t 6), (.t 8)]), none⟩, ⟨(some 10), (.faddr 3 (.t 2)), none⟩, ⟨(some 11), (.load none (.t 10)), none⟩, ⟨(some 12), (.faddr 3 (.t 3)), none⟩, ⟨(some 13), (.load none (.t 12)), none⟩, ⟨(some 14), (.qcall 124 [(.t 11), (.t 13)]), none⟩, ⟨(some 15), (.faddr 4 (.t 2)), none⟩, ⟨(some 16), (.load none (.t 15)), none⟩, ⟨(some 17), (.faddr 4 (.t 3)), none⟩, ⟨(some 18), (.load none (.t 17)), none⟩, ⟨(some 19), (.qcall 125 [(.t 16), (.t 18)]), none⟩, ⟨(some 20), (.bslice 1 .val [(.t 9), (.t 14), (.t 19)]), none⟩, ⟨(some 21), (.qcall 122 [(.t 20)]), none⟩, ⟨(some 22), (.bin .lss .i64 (.t 21) (.c (.int .i64 0))), none⟩, ⟨(some 4), (.mv (.t 22)), none⟩]) .ret))

set_option maxRecDepth 100000 in
theorem k_tless : compileC Try.prog ann (Try.f77.body.getD .skip) = some c_tless := by kernel_rfl

theorem s_tless {args : List AV} {σ : St} {K : AV → St → Prop} (h : WF σ → T Try.prog ann c_tless (Fin σ [(.t 4)] K) (args ++ List.replicate (23 - args.length) (.tup [])) σ) : ACalls Try.prog n_tless args σ K :=
  calls_ok Try.func77 (by kernel_rfl) (by kernel_rfl) k_tless (by kernel_rfl) (by kernel_rfl) h

abbrev n_tgather : Nat := 27

def c_tgather : C := (.seq (.reg [⟨(some 2), (.mv (.c (.sl [] .nil))), none⟩]) (.seq (.reg [⟨(some 11), .mkMap, none⟩, ⟨(some 3), (.mv (.t 11)), none⟩]) (.seq (.seq (.reg [⟨(some 12), (.mv (.t 0)), none⟩, ⟨(some 13), (.len (.t 12)), none⟩, ⟨(some 14), (.mv (.c (.int .i64 0))), none⟩]) (.block 0 (.loop (.seq (.reg [⟨(some 15), (.bin .lss .i64 (.t 14) (.t 13)), none⟩]) (.seq (.cond (.t 15) .skip (.exit 0)) (.seq (.block 1 (.seq (.reg [⟨(some 16), (.iaddr 5 (.t 12) (.t 14)), none⟩, ⟨(some 17), (.load (some 5) (.t 16)), none⟩, ⟨(some 5), (.alloc [(.int .u64 0), (.int .u64 0), (.int .i64 0), (.int .i64 0), (.sl [] .nil)]), none⟩, ⟨none, (.store 5 (.t 5) (.t 17)), none⟩]) (.seq (.reg [⟨(some 18), (.faddr 0 (.t 5)), none⟩, ⟨(some 19), (.load none (.t 18)), none⟩, ⟨(some 20), (.faddr 1 (.t 5)), none⟩, ⟨(some 21), (.load none (.t 20)), none⟩, ⟨(some 22), (.build [(.int .u64 0), (.int .u64 0)] [(0, (1, (.t 19))), (1, (1, (.t 21)))]), none⟩, ⟨(some 6), (.alloc [(.int .u64 0), (.int .u64 0)]), none⟩, ⟨none, (.store 2 (.t 6) (.t 22)), none⟩]) (.seq (.reg [⟨(some 24), (.mv (.t 3)), none⟩, ⟨(some 25), (.load (some 2) (.t 6)), none⟩, ⟨(some 26), (.look 4 (.agg [(.int .u64 0), (.int .u64 0), (.int .i64 0), (.int .i64 0), (.sl [] .nil)]) true (.t 24) (.t 25)), none⟩, ⟨(some 23), (.mv (.t 26)), none⟩, ⟨(some 27), (.ext (.t 23) 0), none⟩, ⟨(some 28), (.ext (.t 23) 1), none⟩, ⟨(some 7), (.alloc [(.int .u64 0), (.int .u64 0), (.int .i64 0), (.int .i64 0), (.sl [] .nil)]), none⟩, ⟨none, (.store 5 (.t 7) (.t 27)), none⟩, ⟨(some 8), (.mv (.t 28)), none⟩]) (.seq (.reg [⟨(some 29), (.mv (.t 8)), none⟩, ⟨(some 30), (.not (.t 29)), none⟩, ⟨(some 31), (.mv (.t 30)), none⟩, ⟨(some 32), (.load (some 5) (.t 5)), (some (31, false))⟩, ⟨(some 33), (.load (some 5) (.t 7)), (some (31, false))⟩, ⟨(some 34), (.call 77 [(.t 32), (.t 33)]), (some (31, false))⟩, ⟨(some 35), (.pick (.t 31) (.c (.bool true)) (.t 34)), none⟩]) (.cond (.t 35) (.reg [⟨(some 36), (.mv (.t 3)), none⟩, ⟨(some 37), (.load (some 2) (.t 6)), none⟩, ⟨(some 38), (.load (some 5) (.t 5)), none⟩, ⟨none, (.mapUp 4 (.t 36) (.t 37) (.t 38)), none⟩]) .skip)))))) (.reg [⟨(some 39), (.bin .add .i64 (.t 14) (.c (.int .i64 1))), none⟩, ⟨(some 14), (.mv (.t 39)), none⟩]))))))) (.seq (.reg [⟨(some 40), (.mv (.t 3)), none⟩, ⟨(some 41), (.call 79 [(.t 40)]), none⟩, ⟨(some 42), (.call 78 [(.t 41), (.c (.func 80 [] []))]), none⟩, ⟨(some 9), (.mv (.t 42)), none⟩]) (.seq (.seq (.reg [⟨(some 43), (.mv (.t 9)), none⟩, ⟨(some 44), (.len (.t 43)), none⟩, ⟨(some 45), (.mv (.c (.int .i64 0))), none⟩]) (.block 2 (.loop (.seq (.reg [⟨(some 46), (.bin .lss .i64 (.t 45) (.t 44)), none⟩]) (.seq (.cond (.t 46) .skip (.exit 2)) (.seq (.block 3 (.seq (.reg [⟨(some 47), (.mv (.t 45)), none⟩, ⟨(some 10), (.mv (.t 47)), none⟩]) (.reg [⟨(some 48), (.mv (.t 9)), none⟩, ⟨(some 49), (.mv (.t 10)), none⟩, ⟨(some 50), (.mv (.t 9)), none⟩, ⟨(some 51), (.mv (.t 10)), none⟩, ⟨(some 52), (.iaddr 5 (.t 50) (.t 51)), none⟩, ⟨(some 53), (.faddr 4 (.t 52)), none⟩, ⟨(some 54), (.load none (.t 53)), none⟩, ⟨(some 55), (.call 81 [(.t 54)]), none⟩, ⟨(some 56), (.iaddr 5 (.t 48) (.t 49)), none⟩, ⟨(some 57), (.faddr 4 (.t 56)), none⟩, ⟨none, (.store 1 (.t 57) (.t 55)), none⟩]))) (.reg [⟨(some 58), (.bin .add .i64 (.t 45) (.c (.int .i64 1))), none⟩, ⟨(some 45), (.mv (.t 58)), none⟩]))))))) (.seq (.reg [⟨(some 59), (.mv (.t 9)), none⟩, ⟨(some 2), (.mv (.t 59)), none⟩]) .ret))))))

set_option maxRecDepth 100000 in
theorem k_tgather : compileC Try.prog ann (Try.f27.body.getD .skip) = some c_tgather := by kernel_rfl

theorem s_tgather {args : List AV} {σ : St} {K : AV → St → Prop} (h : WF σ → T Try.prog ann c_tgather (Fin σ [(.t 2)] K) (args ++ List.replicate (60 - args.length) (.tup [])) σ) : ACalls Try.prog n_tgather args σ K :=
  calls_ok Try.func27 (by kernel_rfl) (by kernel_rfl) k_tgather (by kernel_rfl) (by kernel_rfl) h

abbrev n_tmerge : Nat := 28

def c_tmerge : C := (.seq (.reg [⟨(some 4), (.mv (.c (.sl [] .nil))), none⟩]) (.seq (.reg [⟨(some 5), (.mv (.t 0)), none⟩, ⟨(some 6), (.mv (.t 1)), none⟩, ⟨(some 7), (.bslice 1 .val [(.t 5), (.t 6)]), none⟩, ⟨(some 8), (.call 82 [(.t 7)]), none⟩, ⟨(some 9), (.call 27 [(.t 8)]), none⟩, ⟨(some 4), (.mv (.t 9)), none⟩]) .ret))

set_option maxRecDepth 100000 in
theorem k_tmerge : compileC Try.prog ann (Try.f28.body.getD .skip) = some c_tmerge := by kernel_rfl

theorem s_tmerge {args : List AV} {σ : St} {K : AV → St → Prop} (h : WF σ → T Try.prog ann c_tmerge (Fin σ [(.t 4)] K) (args ++ List.replicate (10 - args.length) (.tup [])) σ) : ACalls Try.prog n_tmerge args σ K :=
  calls_ok Try.func28 (by kernel_rfl) (by kernel_rfl) k_tmerge (by kernel_rfl) (by kernel_rfl) h

abbrev n_sortedfs : Nat := 78

def c_sortedfs : C := (.seq (.reg [⟨(some 4), (.mv (.c (.sl [] .nil))), none⟩]) (.seq (.reg [⟨(some 6), (.mv (.t 0)), none⟩, ⟨(some 7), (.call 126 [(.t 6)]), none⟩, ⟨(some 5), (.mv (.t 7)), none⟩]) (.seq (.reg [⟨(some 8), (.mv (.t 5)), none⟩, ⟨(some 9), (.mv (.t 1)), none⟩, ⟨(some 10), (.call 127 [(.t 8), (.t 9)]), none⟩]) (.seq (.reg [⟨(some 11), (.mv (.t 5)), none⟩, ⟨(some 4), (.mv (.t 11)), none⟩]) .ret))))

set_option maxRecDepth 100000 in
theorem k_sortedfs : compileC Try.prog ann (Try.f78.body.getD .skip) = some c_sortedfs := by kernel_rfl

theorem s_sortedfs {args : List AV} {σ : St} {K : AV → St → Prop} (h : WF σ → T Try.prog ann c_sortedfs (Fin σ [(.t 4)] K) (args ++ List.replicate (12 - args.length) (.tup [])) σ) : ACalls Try.prog n_sortedfs args σ K :=
  calls_ok Try.func78 (by kernel_rfl) (by kernel_rfl) k_sortedfs (by kernel_rfl) (by kernel_rfl) h

abbrev n_collects : Nat := 126

def c_collects : C := (.seq (.reg [⟨(some 2), (.mv (.c (.sl [] .nil))), none⟩]) (.seq (.reg [⟨(some 3), (.mv (.t 0)), none⟩, ⟨(some 4), (.call 157 [(.c (.sl [] .nil)), (.t 3)]), none⟩, ⟨(some 2), (.mv (.t 4)), none⟩]) .ret))

set_option maxRecDepth 100000 in
theorem k_collects : compileC Try.prog ann (Try.f126.body.getD .skip) = some c_collects := by kernel_rfl

theorem s_collects {args : List AV} {σ : St} {K : AV → St → Prop} (h : WF σ → T Try.prog ann c_collects (Fin σ [(.t 2)] K) (args ++ List.replicate (5 - args.length) (.tup [])) σ) : ACalls Try.prog n_collects args σ K :=
  calls_ok Try.func126 (by kernel_rfl) (by kernel_rfl) k_collects (by kernel_rfl) (by kernel_rfl) h

abbrev n_valuess : Nat := 79

def c_valuess : C := (.seq (.reg [⟨(some 1), (.box (.t 0)), none⟩, ⟨(some 2), (.mv (.c .nilf)), none⟩]) (.seq (.reg [⟨(some 3), (.mkF 128 [] [(.t 1)]), none⟩, ⟨(some 2), (.mv (.t 3)), none⟩]) .ret))

set_option maxRecDepth 100000 in
theorem k_valuess : compileC Try.prog ann (Try.f79.body.getD .skip) = some c_valuess := by kernel_rfl

theorem s_valuess {args : List AV} {σ : St} {K : AV → St → Prop} (h : WF σ → T Try.prog ann c_valuess (Fin σ [(.t 2)] K) (args ++ List.replicate (4 - args.length) (.tup [])) σ) : ACalls Try.prog n_valuess args σ K :=
  calls_ok Try.func79 (by kernel_rfl) (by kernel_rfl) k_valuess (by kernel_rfl) (by kernel_rfl) h

abbrev n_grows : Nat := 130

def c_grows : C := (.seq (.reg [⟨(some 4), (.mv (.c (.sl [] .nil))), none⟩]) (.seq (.seq (.reg [⟨(some 5), (.mv (.t 1)), none⟩, ⟨(some 6), (.bin .lss .i64 (.t 5) (.c (.int .i64 0))), none⟩]) (.cond (.t 6) (.reg [⟨(some 7), (.mkI 9 (.c (.str ⟨#[99, 97, 110, 110, 111, 116, 32, 98, 101, 32, 110, 101, 103, 97, 116, 105, 118, 101]⟩))), none⟩, ⟨none, .panic, none⟩]) .skip)) (.seq (.seq (.reg [⟨(some 8), (.mv (.t 1)), none⟩, ⟨(some 9), (.mv (.t 0)), none⟩, ⟨(some 10), (.cap (.t 9)), none⟩, ⟨(some 11), (.mv (.t 0)), none⟩, ⟨(some 12), (.len (.t 11)), none⟩, ⟨(some 13), (.bin .sub .i64 (.t 10) (.t 12)), none⟩, ⟨(some 14), (.bin .sub .i64 (.t 8) (.t 13)), none⟩, ⟨(some 1), (.mv (.t 14)), none⟩]) (.seq (.reg [⟨(some 15), (.mv (.t 1)), none⟩, ⟨(some 16), (.bin .gtr .i64 (.t 15) (.c (.int .i64 0))), none⟩]) (.cond (.t 16) (.reg [⟨(some 17), (.mv (.t 0)), none⟩, ⟨(some 18), (.mv (.t 0)), none⟩, ⟨(some 19), (.cap (.t 18)), none⟩, ⟨(some 20), (.slice 5 (.t 17) none (some (.t 19))), none⟩, ⟨(some 21), (.mv (.t 1)), none⟩, ⟨(some 22), (.appZ 5 56 (.agg [(.int .u64 0), (.int .u64 0), (.int .i64 0), (.int .i64 0), (.sl [] .nil)]) (.t 20) (.t 21)), none⟩, ⟨(some 23), (.mv (.t 0)), none⟩, ⟨(some 24), (.len (.t 23)), none⟩, ⟨(some 25), (.slice 5 (.t 22) none (some (.t 24))), none⟩, ⟨(some 0), (.mv (.t 25)), none⟩]) .skip))) (.seq (.reg [⟨(some 26), (.mv (.t 0)), none⟩, ⟨(some 4), (.mv (.t 26)), none⟩]) .ret))))

set_option maxRecDepth 100000 in
theorem k_grows : compileC Try.prog ann (Try.f130.body.getD .skip) = some c_grows := by kernel_rfl

theorem s_grows {args : List AV} {σ : St} {K : AV → St → Prop} (h : WF σ → T Try.prog ann c_grows (Fin σ [(.t 4)] K) (args ++ List.replicate (27 - args.length) (.tup [])) σ) : ACalls Try.prog n_grows args σ K :=
  calls_ok Try.func130 (by kernel_rfl) (by kernel_rfl) k_grows (by kernel_rfl) (by kernel_rfl) h

abbrev n_concats : Nat := 82

def c_concats : C := (.seq (.reg [⟨(some 2), (.mv (.c (.sl [] .nil))), none⟩]) (.seq (.reg [⟨(some 3), (.mv (.c (.int .i64 0))), none⟩]) (.seq (.seq (.reg [⟨(some 9), (.mv (.t 0)), none⟩, ⟨(some 10), (.len (.t 9)), none⟩, ⟨(some 11), (.mv (.c (.int .i64 0))), none⟩]) (.block 0 (.loop (.seq (.reg [⟨(some 12), (.bin .lss .i64 (.t 11) (.t 10)), none⟩]) (.seq (.cond (.t 12) .skip (.exit 0)) (.seq (.block 1 (.seq (.reg [⟨(some 13), (.iaddr 1 (.t 9) (.t 11)), none⟩, ⟨(some 14), (.load none (.t 13)), none⟩, ⟨(some 5), (.mv (.t 14)), none⟩]) (.seq (.reg [⟨(some 15), (.mv (.t 3)), none⟩, ⟨(some 16), (.mv (.t 5)), none⟩, ⟨(some 17), (.len (.t 16)), none⟩, ⟨(some 18), (.bin .add .i64 (.t 15) (.t 17)), none⟩, ⟨(some 3), (.mv (.t 18)), none⟩]) (.seq (.reg [⟨(some 19), (.mv (.t 3)), none⟩, ⟨(some 20), (.bin .lss .i64 (.t 19) (.c (.int .i64 0))), none⟩]) (.cond (.t 20) (.reg [⟨(some 21), (.mkI 9 (.c (.str ⟨#[108, 101, 110, 32, 111, 117, 116, 32, 111, 102, 32, 114, 97, 110, 103, 101]⟩))), none⟩, ⟨none, .panic, none⟩]) .skip))))) (.reg [⟨(some 22), (.bin .add .i64 (.t 11) (.c (.int .i64 1))), none⟩, ⟨(some 11), (.mv (.t 22)), none⟩]))))))) (.seq (.reg [⟨(some 23), (.mv (.t 3)), none⟩, ⟨(some 24), (.call 130 [(.c (.sl [] .nil)), (.t 23)]), none⟩, ⟨(some 6), (.mv (.t 24)), none⟩]) (.seq (.seq (.reg [⟨(some 25), (.mv (.t 0)), none⟩, ⟨(some 26), (.len (.t 25)), none⟩, ⟨(some 27), (.mv (.c (.int .i64 0))), none⟩]) (.block 2 (.loop (.seq (.reg [⟨(some 28), (.bin .lss .i64 (.t 27) (.t 26)), none⟩]) (.seq (.cond (.t 28) .skip (.exit 2)) (.seq (.block 3 (.seq (.reg [⟨(some 29), (.iaddr 1 (.t 25) (.t 27)), none⟩, ⟨(some 30), (.load none (.t 29)), none⟩, ⟨(some 8), (.mv (.t 30)), none⟩]) (.reg [⟨(some 31), (.mv (.t 6)), none⟩, ⟨(some 32), (.mv (.t 8)), none⟩, ⟨(some 33), (.app 5 56 .tip (.t 31) (.t 32)), none⟩, ⟨(some 6), (.mv (.t 33)), none⟩]))) (.reg [⟨(some 34), (.bin .add .i64 (.t 27) (.c (.int .i64 1))), none⟩, ⟨(some 27), (.mv (.t 34)), none⟩]))))))) (.seq (.reg [⟨(some 35), (.mv (.t 6)), none⟩, ⟨(some 2), (.mv (.t 35)), none⟩]) .ret))))))

set_option maxRecDepth 100000 in
theorem k_concats : compileC Try.prog ann (Try.f82.body.getD .skip) = some c_concats := by kernel_rfl

theorem s_concats {args : List AV} {σ : St} {K : AV → St → Prop} (h : WF σ → T Try.prog ann c_concats (Fin σ [(.t 2)] K) (args ++ List.replicate (36 - args.length) (.tup [])) σ) : ACalls Try.prog n_concats args σ K :=
  calls_ok Try.func82 (by kernel_rfl) (by kernel_rfl) k_concats (by kernel_rfl) (by kernel_rfl) h

abbrev n_up04 : Nat := 25

def c_up04 : C := (.seq (.reg [⟨(some 0), (.mv (.c (.bool false))), none⟩]) (.seq (.reg [⟨(some 2), (.build [(.int .u64 0), (.int .u64 0), (.int .i64 0), (.int .i64 0), (.sl [] .nil)] [(1, (1, (.c (.int .u64 2)))), (2, (1, (.c (.int .i64 1)))), (3, (1, (.c (.int .i64 1))))]), none⟩, ⟨(some 3), (.build [(.int .u64 0), (.int .u64 0), (.int .i64 0), (.int .i64 0), (.sl [] .nil)] [(1, (1, (.c (.int .u64 1)))), (3, (1, (.c (.int .i64 5))))]), none⟩, ⟨(some 4), (.build [(.int .u64 0), (.int .u64 0), (.int .i64 0), (.int .i64 0), (.sl [] .nil)] [(1, (1, (.c (.int .u64 2)))), (2, (1, (.c (.int .i64 0)))), (3, (1, (.c (.int .i64 9))))]), none⟩, ⟨(some 5), (.bslice 5 .val [(.t 2), (.t 3), (.t 4)]), none⟩, ⟨(some 6), (.call 27 [(.t 5)]), none⟩, ⟨(some 1), (.mv (.t 6)), none⟩]) (.seq (.reg [⟨(some 7), (.mv (.t 1)), none⟩, ⟨(some 8), (.len (.t 7)), none⟩, ⟨(some 9), (.bin .eql .i64 (.t 8) (.c (.int .i64 2))), none⟩, ⟨(some 10), (.mv (.t 9)), none⟩, ⟨(some 11), (.mv (.t 1)), (some (10, true))⟩, ⟨(some 12), (.iaddr 5 (.t 11) (.c (.int .i64 0))), (some (10, true))⟩, ⟨(some 13), (.faddr 1 (.t 12)), (some (10, true))⟩, ⟨(some 14), (.load none (.t 13)), (some (10, true))⟩, ⟨(some 15), (.bin .eql .u64 (.t 14) (.c (.int .u64 1))), (some (10, true))⟩, ⟨(some 16), (.pick (.t 10) (.t 15) (.c (.bool false))), none⟩, ⟨(some 17), (.mv (.t 16)), none⟩, ⟨(some 18), (.mv (.t 1)), (some (17, true))⟩, ⟨(some 19), (.iaddr 5 (.t 18) (.c (.int .i64 1))), (some (17, true))⟩, ⟨(some 20), (.faddr 2 (.t 19)), (some (17, true))⟩, ⟨(some 21), (.load none (.t 20)), (some (17, true))⟩, ⟨(some 22), (.bin .eql .i64 (.t 21) (.c (.int .i64 0))), (some (17, true))⟩, ⟨(some 23), (.pick (.t 17) (.t 22) (.c (.bool false))), none⟩, ⟨(some 24), (.mv (.t 23)), none⟩, ⟨(some 25), (.call 61 [(.c (.sl [] .nil))]), (some (24, true))⟩, ⟨(some 26), (.pick (.t 24) (.t 25) (.c (.bool false))), none⟩, ⟨(some 27), (.mv (.t 26)), none⟩, ⟨(some 28), (.build [(.int .u64 0), (.sl [] .nil)] []), (some (27, true))⟩, ⟨(some 29), (.bslice 2 .val [(.t 28)]), (some (27, true))⟩, ⟨(some 30), (.call 61 [(.t 29)]), (some (27, true))⟩, ⟨(some 31), (.not (.t 30)), (some (27, true))⟩, ⟨(some 32), (.pick (.t 27) (.t 31) (.c (.bool false))), none⟩, ⟨(some 0), (.mv (.t 32)), none⟩]) .ret)))

set_option maxRecDepth 100000 in
theorem k_up04 : compileC Try.prog ann (Try.f25.body.getD .skip) = some c_up04 := by kernel_rfl

theorem s_up04 {args : List AV} {σ : St} {K : AV → St → Prop} (h : WF σ → T Try.prog ann c_up04 (Fin σ [(.t 0)] K) (args ++ List.replicate (33 - args.length) (.tup [])) σ) : ACalls Try.prog n_up04 args σ K :=
  calls_ok Try.func25 (by kernel_rfl) (by kernel_rfl) k_up04 (by kernel_rfl) (by kernel_rfl) h

abbrev n_traceUnion : Nat := 6

def c_traceUnion : C := (.seq (.reg [⟨(some 6), (.mv (.c (.bool false))), none⟩]) (.seq (.reg [⟨(some 16), (.call 25 []), none⟩, ⟨(some 7), (.mv (.t 16)), none⟩]) (.seq (.reg [⟨(some 17), (.mv (.t 0)), none⟩, ⟨(some 18), (.call 26 [(.t 17), (.c (.int .i64 60))]), none⟩, ⟨(some 8), (.mv (.t 18)), none⟩]) (.seq (.reg [⟨(some 19), (.mv (.t 1)), none⟩, ⟨(some 20), (.call 26 [(.t 19), (.c (.int .i64 60))]), none⟩, ⟨(some 9), (.mv (.t 20)), none⟩]) (.seq (.reg [⟨(some 21), (.mv (.t 2)), none⟩, ⟨(some 22), (.call 26 [(.t 21), (.c (.int .i64 60))]), none⟩, ⟨(some 10), (.mv (.t 22)), none⟩]) (.seq (.seq (.reg [⟨(some 23), (.mv (.t 8)), none⟩, ⟨(some 24), (.not (.t 23)), none⟩, ⟨(some 25), (.mv (.t 24)), none⟩, ⟨(some 26), (.mv (.t 9)), (some (25, false))⟩, ⟨(some 27), (.not (.t 26)), (some (25, false))⟩, ⟨(some 28), (.pick (.t 25) (.c (.bool true)) (.t 27)), none⟩, ⟨(some 29), (.mv (.t 28)), none⟩, ⟨(some 30), (.mv (.t 10)), (some (29, false))⟩, ⟨(some 31), (.not (.t 30)), (some (29, false))⟩, ⟨(some 32), (.pick (.t 29) (.c (.bool true)) (.t 31)), none⟩]) (.cond (.t 32) (.seq (.reg [⟨(some 33), (.mv (.t 7)), none⟩, ⟨(some 6), (.mv (.t 33)), none⟩]) .ret) .skip)) (.seq (.reg [⟨(some 34), (.mv (.t 0)), none⟩, ⟨(some 35), (.call 27 [(.t 34)]), none⟩, ⟨(some 11), (.mv (.t 35)), none⟩]) (.seq (.reg [⟨(some 36), (.mv (.t 0)), none⟩, ⟨(some 37), (.mv (.t 1)), none⟩, ⟨(some 38), (.call 28 [(.t 36), (.t 37)]), none⟩, ⟨(some 12), (.mv (.t 38)), none⟩]) (.seq (.seq (.reg [⟨(some 13), (.mv (.c (.int .i64 0))), none⟩]) (.block 0 (.loop (.seq (.seq (.reg [⟨(some 39), (.mv (.t 13)), none⟩, ⟨(some 40), (.mv (.t 11)), none⟩, ⟨(some 41), (.len (.t 40)), none⟩, ⟨(some 42), (.bin .lss .i64 (.t 39) (.t 41)), none⟩]) (.cond (.t 42) .skip (.exit 0))) (.seq (.block 1 (.seq (.reg [⟨(some 14), (.mv (.c (.int .i64 0))), none⟩]) (.seq (.seq (.reg [⟨(some 15), (.mv (.c (.int .i64 0))), none⟩]) (.block 2 (.loop (.seq (.seq (.reg [⟨(some 45), (.mv (.t 15)), none⟩, ⟨(some 46), (.mv (.t 12)), none⟩, ⟨(some 47), (.len (.t 46)), none⟩, ⟨(some 48), (.bin .lss .i64 (.t 45) (.t 47)), none⟩]) (.cond (.t 48) .skip (.exit 2))) (.seq (.block 3 (.seq (.reg [⟨(some 51), (.mv (.t 12)), none⟩, ⟨(some 52), (.mv (.t 15)), none⟩, ⟨(some 53), (.iaddr 5 (.t 51) (.t 52)), none⟩, ⟨(some 54), (.faddr 0 (.t 53)), none⟩, ⟨(some 55), (.load none (.t 54)), none⟩, ⟨(some 56), (.mv (.t 11)), none⟩, ⟨(some 57), (.mv (.t 13)), none⟩, ⟨(some 58), (.iaddr 5 (.t 56) (.t 57)), none⟩, ⟨(some 59), (.faddr 0 (.t 58)), none⟩, ⟨(some 60), (.load none (.t 59)), none⟩, ⟨(some 61), (.bin .eql .u64 (.t 55) (.t 60)), none⟩, ⟨(some 62), (.mv (.t 61)), none⟩, ⟨(some 63), (.mv (.t 12)), (some (62, true))⟩, ⟨(some 64), (.mv (.t 15)), (some (62, true))⟩, ⟨(some 65), (.iaddr 5 (.t 63) (.t 64)), (some (62, true))⟩, ⟨(some 66), (.faddr 1 (.t 65)), (some (62, true))⟩, ⟨(some 67), (.load none (.t 66)), (some (62, true))⟩, ⟨(some 68), (.mv (.t 11)), (some (62, true))⟩, ⟨(some 69), (.mv (.t 13)), (some (62, true))⟩, ⟨(some 70), (.iaddr 5 (.t 68) (.t 69)), (some (62, true))⟩, ⟨(some 71), (.faddr 1 (.t 70)), (some (62, true))⟩, ⟨(some 72), (.load none (.t 71)), (some (62, true))⟩, ⟨(some 73), (.bin .eql .u64 (.t 67) (.t 72)), (some (62, true))⟩, ⟨(some 74), (.pick (.t 62) (.t 73) (.c (.bool false))), none⟩]) (.cond (.t 74) (.seq (.reg [⟨(some 75), (.mv (.t 14)), none⟩, ⟨(some 76), (.bin .add .i64 (.t 75) (.c (.int .i64 1))), none⟩, ⟨(some 14), (.mv (.t 76)), none⟩]) (.seq (.reg [⟨(some 77), (.mv (.t 11)), none⟩, ⟨(some 78), (.mv (.t 13)), none⟩, ⟨(some 79), (.iaddr 5 (.t 77) (.t 78)), none⟩, ⟨(some 80), (.load (some 5) (.t 79)), none⟩, ⟨(some 81), (.mv (.t 12)), none⟩, ⟨(some 82), (.mv (.t 15)), none⟩, ⟨(some 83), (.iaddr 5 (.t 81) (.t 82)), none⟩, ⟨(some 84), (.load (some 5) (.t 83)), none⟩, ⟨(some 85), (.qcall 29 [(.t 80), (.t 84)]), none⟩]) (.cond (.t 85) (.seq (.reg [⟨(some 6), (.mv (.c (.bool false))), none⟩]) .ret) .skip))) .skip))) (.reg [⟨(some 49), (.mv (.t 15)), none⟩, ⟨(some 50), (.bin .add .i64 (.t 49) (.c (.int .i64 1))), none⟩, ⟨(some 15), (.mv (.t 50)), none⟩])))))) (.seq (.reg [⟨(some 86), (.mv (.t 14)), none⟩, ⟨(some 87), (.bin .neq .i64 (.t 86) (.c (.int .i64 1))), none⟩]) (.cond (.t 87) (.seq (.reg [⟨(some 6), (.mv (.c (.bool false))), none⟩]) .ret) .skip))))) (.reg [⟨(some 43), (.mv (.t 13)), none⟩, ⟨(some 44), (.bin .add .i64 (.t 43) (.c (.int .i64 1))), none⟩, ⟨(some 13), (.mv (.t 44)), none⟩])))))) (.seq (.reg [⟨(some 88), (.mv (.t 7)), none⟩, ⟨(some 89), (.mv (.t 88)), none⟩, ⟨(some 90), (.mv (.t 12)), (some (89, true))⟩, ⟨(some 91), (.mv (.t 2)), (some (89, true))⟩, ⟨(some 92), (.call 28 [(.t 90), (.t 91)]), (some (89, true))⟩, ⟨(some 93), (.mv (.t 0)), (some (89, true))⟩, ⟨(some 94), (.mv (.t 1)), (some (89, true))⟩, ⟨(some 95), (.mv (.t 2)), (some (89, true))⟩, ⟨(some 96), (.call 28 [(.t 94), (.t 95)]), (some (89, true))⟩, ⟨(some 97), (.call 28 [(.t 93), (.t 96)]), (some (89, true))⟩, ⟨(some 98), (.call 30 [(.t 92), (.t 97)]), (some (89, true))⟩, ⟨(some 99), (.pick (.t 89) (.t 98) (.c (.bool false))), none⟩, ⟨(some 100), (.mv (.t 99)), none⟩, ⟨(some 101), (.mv (.t 11)), (some (100, true))⟩, ⟨(some 102), (.mv (.t 11)), (some (100, true))⟩, ⟨(some 103), (.call 28 [(.t 101), (.t 102)]), (some (100, true))⟩, ⟨(some 104), (.mv (.t 11)), (some (100, true))⟩, ⟨(some 105), (.call 30 [(.t 103), (.t 104)]), (some (100, true))⟩, ⟨(some 106), (.pick (.t 100) (.t 105) (.c (.bool false))), none⟩, ⟨(some 107), (.mv (.t 106)), none⟩, ⟨(some 108), (.mv (.t 1)), (some (107, true))⟩, ⟨(some 109), (.mv (.t 0)), (some (107, true))⟩, ⟨(some 110), (.call 28 [(.t 108), (.t 109)]), (some (107, true))⟩, ⟨(some 111), (.mv (.t 12)), (some (107, true))⟩, ⟨(some 112), (.call 30 [(.t 110), (.t 111)]), (some (107, true))⟩, ⟨(some 113), (.pick (.t 107) (.t 112) (.c (.bool false))), none⟩, ⟨(some 114), (.mv (.t 113)), none⟩, ⟨(some 115), (.mv (.t 12)), (some (114, true))⟩, ⟨(some 116), (.mv (.t 0)), (some (114, true))⟩, ⟨(some 117), (.call 28 [(.t 115), (.t 116)]), (some (114, true))⟩, ⟨(some 118), (.mv (.t 12)), (some (114, true))⟩, ⟨(some 119), (.call 30 [(.t 117), (.t 118)]), (some (114, true))⟩, ⟨(some 120), (.pick (.t 114) (.t 119) (.c (.bool false))), none⟩, ⟨(some 6), (.mv (.t 120)), none⟩]) .ret))))))))))

set_option maxRecDepth 100000 in
theorem k_traceUnion : compileC Try.prog ann (Try.f6.body.getD .skip) = some c_traceUnion := by kernel_rfl

theorem s_traceUnion {args : List AV} {σ : St} {K : AV → St → Prop} (h : WF σ → T Try.prog ann c_traceUnion (Fin σ [(.t 6)] K) (args ++ List.replicate (121 - args.length) (.tup [])) σ) : ACalls Try.prog n_traceUnion args σ K :=
  calls_ok Try.func6 (by kernel_rfl) (by kernel_rfl) k_traceUnion (by kernel_rfl) (by kernel_rfl) h

end Go.VL
