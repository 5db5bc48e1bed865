/- Texts put together, of these what the theorem needs: The value logic, part X: code that is run at given values (the kernel reckons it). The value logic, part T: what an argument's reading is, over values; and a law's frame. The value logic, part U: a law that returns true, whatever its arguments: the contract of its row. The compiled code of functions of this seat. MADE BY PROGRAM (mkc.py). Contracts: small things. Contracts: numbers as bytes. PLAIN LAW: a checksum by a table is the checksum bit by bit. Contracts: the checksum by a table. Contracts: sealing. Contracts: sealed bytes opened. Contracts: readers. A reader is an owned row of three: bytes, how far, where amiss. Contracts: small things that are used often; an error's number. Contracts: readers, told as functions. States that are alike but for new names; a named end among them; arithmetic of words. The compiled code of functions of this seat. MADE BY PROGRAM (mkc.py). Contracts: spans and traces that are few; what may be. Plain: heaps of entries, as lists: what is least comes first; pushed and popped. The compiled code of functions of this seat. MADE BY PROGRAM (mkc.py). The value logic: a slice that is appended to, again and again. Contracts: pages that are few; comparing. Contracts: canonical traces. Contracts: lists of canonical traces; rows put together. The plain law of gathering: what is gathered of spans of one trace is they themselves just if they stand in order, and no Id is there twice. Contracts: rows put together; an index of pages. Contracts: the document's answer for spans, compared. Contracts: the document's gathering. -/
import Derived.Test.YtmbbeldgfhnkbaaKKwaySortsUpto2
import Derived.Test.YtmbbeldgfhnkbaaChecked

set_option linter.unusedSimpArgs false
set_option linter.unusedVariables false

namespace Go.VL

/-- What is owned, as a list; what lies below `low` is as it was. -/
structure DS where
  next : Nat
  l : List (Nat × Res)
  low : Nat

def rget (n : Nat) : List (Nat × Res) → Option Res
  | [] => none
  | p :: r => if p.1 = n then some p.2 else rget n r

def rdel (n : Nat) : List (Nat × Res) → List (Nat × Res)
  | [] => []
  | p :: r => if p.1 = n then rdel n r else p :: rdel n r

theorem rget_del (n m : Nat) : ∀ l, rget m (rdel n l) = if m = n then none else rget m l
  | [] => by simp [rdel, rget]
  | p :: r => by
    have ih := rget_del n m r
    unfold rdel
    by_cases h : p.1 = n
    · rw [if_pos h, ih]
      by_cases hm : m = n
      · rw [if_pos hm, if_pos hm]
      · rw [if_neg hm, if_neg hm, rget, if_neg (by rw [h]; exact fun e => hm e.symm)]
    · rw [if_neg h, rget, rget, ih]
      by_cases hm : m = n
      · rw [if_pos hm, if_pos hm, if_neg (by rw [hm]; exact h)]
      · rw [if_neg hm, if_neg hm]

def DS.st (s : DS) : St := ⟨s.next, fun n => rget n s.l⟩

def DS.res (s : DS) (n : Nat) : Option Res := rget n s.l

def DS.set (s : DS) (n : Nat) (r : Res) : DS := ⟨s.next, (n, r) :: rdel n s.l, if n < s.low then n else s.low⟩

def DS.del (s : DS) (n : Nat) : DS := ⟨s.next, rdel n s.l, if n < s.low then n else s.low⟩

def DS.up (s : DS) (k : Nat) : DS := ⟨s.next + k, s.l, s.low⟩

theorem DS.st_set (s : DS) (n : Nat) (r : Res) : (s.set n r).st = s.st.set n r := by
  simp only [DS.st, DS.set, St.set, St.mk.injEq, true_and]
  funext m
  by_cases h : m = n
  · simp [h, rget]
  · rw [if_neg h]
    have h' : ¬ n = m := fun e => h e.symm
    simp only [rget, h', if_false]
    rw [rget_del, if_neg h]

theorem DS.st_del (s : DS) (n : Nat) : (s.del n).st = s.st.del n := by
  simp only [DS.st, DS.del, St.del, St.mk.injEq, true_and]
  funext m
  rw [rget_del]

/-- what lies below is as it was -/
structure Sm (s s' : DS) : Prop where
  le : s'.low ≤ s.low
  eq : ∀ n, n < s'.low → s'.res n = s.res n

theorem Sm.refl (s : DS) : Sm s s := ⟨Nat.le_refl _, fun _ _ => rfl⟩

theorem Sm.trans {s s1 s2 : DS} (h : Sm s s1) (k : Sm s1 s2) : Sm s s2 := ⟨Nat.le_trans k.le h.le, fun n hn => (k.eq n hn).trans (h.eq n (Nat.lt_of_lt_of_le hn k.le))⟩

theorem Sm.set (s : DS) (n : Nat) (r : Res) : Sm s (s.set n r) := by
  refine ⟨by simp only [DS.set]; split <;> omega, fun m hm => ?_⟩
  have hne : m ≠ n := by
    simp only [DS.set] at hm
    split at hm <;> omega
  have := congrFun (congrArg St.res (DS.st_set s n r)) m
  rw [St.set_other _ _ hne] at this
  exact this

theorem Sm.del (s : DS) (n : Nat) : Sm s (s.del n) := by
  refine ⟨by simp only [DS.del]; split <;> omega, fun m hm => ?_⟩
  have hne : m ≠ n := by
    simp only [DS.del] at hm
    split at hm <;> omega
  have := congrFun (congrArg St.res (DS.st_del s n)) m
  rw [show (s.st.del n).res m = s.st.res m by simp [St.del, hne]] at this
  exact this

theorem Sm.up (s : DS) (k : Nat) : Sm s (s.up k) := ⟨Nat.le_refl _, fun _ _ => rfl⟩

abbrev DR := Option (AV × DS)

/-- a function's code, its temporaries, its results -/
structure FnC where
  c : C
  nt : Nat
  rs : List RX

def FnOk (P : Program) (f : Nat) (F : FnC) : Prop := ∃ A, ∀ (args : List AV) (σ : St) (K : AV → St → Prop), (WF σ → T P A F.c (Fin σ F.rs K) (args ++ List.replicate (F.nt - args.length) (.tup [])) σ) → ACalls P f args σ K

abbrev FTab := List (Nat × FnC)

def FTab.get (f : Nat) : FTab → Option FnC
  | [] => none
  | p :: r => if p.1 = f then some p.2 else FTab.get f r

def FTab.ok (P : Program) (tb : FTab) : Prop := ∀ f F, FTab.get f tb = some F → FnOk P f F

theorem FTab.ok_nil {P : Program} : FTab.ok P [] := fun _ _ h => by cases h

theorem FTab.ok_cons {P : Program} {f nt : Nat} {c : C} {rs : List RX} {tb : FTab} {A : Ann} (h : ∀ {args : List AV} {σ : St} {K : AV → St → Prop}, (WF σ → T P A c (Fin σ rs K) (args ++ List.replicate (nt - args.length) (.tup [])) σ) → ACalls P f args σ K) (t : FTab.ok P tb) :
    FTab.ok P ((f, ⟨c, nt, rs⟩) :: tb) := fun g F hg => by
  simp only [FTab.get] at hg
  split at hg
  · rename_i he
    simp only [Option.some.injEq] at hg; subst hg; subst he
    exact ⟨A, fun _ _ _ hh => h hh⟩
  · exact t g F hg

def DR.isB (b : Bool) : Option (AV × Option DS) → Bool
  | some (.bool c, _) => c == b
  | _ => false

end Go.VL

namespace Go.VL

def κ0 (W : World) : Kx := ⟨fun b _ => b < W.heap.size, fun _ => 0, fun _ => 0, fun _ => 0, fun _ => 0, fun _ => False⟩

def σ0 : St := ⟨0, fun _ => none⟩

theorem R0 (W : World) : R 0 (fun _ => False) (κ0 W) W σ0 := ⟨fun _ h => h.elim, fun _ _ h => by simp [σ0] at h, fun _ _ _ _ h => by simp [σ0] at h, fun _ _ h => h, fun _ _ h _ => by simp [σ0] at h⟩

def isStruct (P : Program) (t : TypeId) : Bool := match P.underlying t with
  | some (.struct _) => true
  | _ => false

def contig (P : Program) : Nat → List Field → Option Nat
  | off, [] => some off
  | off, f :: r => if f.offset = off then contig P (off + P.cellsOf f.type) r else none

/-- a type of numbers, bools, texts, rows and structs of such, n deep -/
def goodT (P : Program) : Nat → TypeId → Bool
  | 0, _ => false
  | n + 1, t => match P.underlying t with
    | some .bool | some (.int _) | some .string => true
    | some (.slice e) => goodT P n e && decide (0 < P.cellsOf e)
    | some (.struct fs) => fs.toList.all (fun f => goodT P n f.type) && (contig P 0 fs.toList == some (P.cellsOf t))
    | _ => false

mutual
def HasT (P : Program) : Nat → TypeId → List AV → Prop
  | 0, _, _ => False
  | n + 1, t, xs => match P.underlying t with
    | some .bool => ∃ b, xs = [.bool b]
    | some (.int k) => ∃ m, xs = [.int k m] ∧ k.min ≤ m ∧ m ≤ k.max
    | some .string => ∃ s, xs = [.str s] ∧ s.size ≤ maxLen
    | some (.slice e) => ∃ ys, xs = [.sl ys .none] ∧ ys.length ≤ maxLen ∧ ∀ y ∈ ys, HasE P n e y
    | some (.struct fs) => HasF P n fs.toList xs
    | _ => False
/-- an element of a row -/
def HasE (P : Program) : Nat → TypeId → AV → Prop
  | n, e, y => HasT P n e y.cells ∧ (isStruct P e = true → ∃ zs, y = .agg zs) ∧ (isStruct P e = false → y.cells = [y])
def HasF (P : Program) : Nat → List Field → List AV → Prop
  | _, [], xs => xs = []
  | n, f :: r, xs => ∃ ys zs, xs = ys ++ zs ∧ HasT P n f.type ys ∧ HasF P n r zs
end

theorem hasT_succ (P : Program) (n : Nat) (t : TypeId) (xs : List AV) : HasT P (n + 1) t xs = (match P.underlying t with
    | some .bool => ∃ b, xs = [.bool b]
    | some (.int k) => ∃ m, xs = [.int k m] ∧ k.min ≤ m ∧ m ≤ k.max
    | some .string => ∃ s, xs = [.str s] ∧ s.size ≤ maxLen
    | some (.slice e) => ∃ ys, xs = [.sl ys .none] ∧ ys.length ≤ maxLen ∧ ∀ y ∈ ys, HasE P n e y
    | some (.struct fs) => HasF P n fs.toList xs
    | _ => False) := by rw [HasT]

theorem hasE_iff (P : Program) (n : Nat) (e : TypeId) (y : AV) : HasE P n e y = (HasT P n e y.cells ∧ (isStruct P e = true → ∃ zs, y = .agg zs) ∧ (isStruct P e = false → y.cells = [y])) := by rw [HasE]

theorem hasF_nil (P : Program) (n : Nat) (xs : List AV) : HasF P n [] xs = (xs = []) := by rw [HasF]

theorem hasF_cons (P : Program) (n : Nat) (f : Field) (r : List Field) (xs : List AV) : HasF P n (f :: r) xs = ∃ ys zs, xs = ys ++ zs ∧ HasT P n f.type ys ∧ HasF P n r zs := by rw [HasF]

/-- what is no struct is one cell -/
theorem HasT.single {P : Program} {n : Nat} {t : TypeId} {xs : List AV} (h : HasT P n t xs) (hs : isStruct P t = false) : ∃ x, xs = [x] ∧ x.cells = [x] := by
  cases n with
  | zero => rw [HasT] at h; exact h.elim
  | succ n =>
    rw [hasT_succ] at h
    unfold isStruct at hs
    split at h
    · obtain ⟨b, rfl⟩ := h; exact ⟨_, rfl, rfl⟩
    · obtain ⟨m, rfl, _⟩ := h; exact ⟨_, rfl, rfl⟩
    · obtain ⟨s, rfl, _⟩ := h; exact ⟨_, rfl, rfl⟩
    · obtain ⟨ys, rfl, _⟩ := h; exact ⟨_, rfl, rfl⟩
    · rename_i hu; rw [hu] at hs; cases hs
    · exact h.elim

def mkE (P : Program) (e : TypeId) (xs : List AV) : AV := if isStruct P e then .agg xs else xs.headD .any

theorem mkE_has {P : Program} {n : Nat} {e : TypeId} {xs : List AV} (h : HasT P n e xs) : (mkE P e xs).cells = xs ∧ HasE P n e (mkE P e xs) := by
  unfold mkE
  by_cases hs : isStruct P e = true
  · simp only [hs, if_true]
    exact ⟨rfl, by rw [hasE_iff]; exact ⟨h, fun _ => ⟨_, rfl⟩, fun h => by rw [hs] at h; cases h⟩⟩
  · have hs' : isStruct P e = false := by simpa using hs
    obtain ⟨x, rfl, hx⟩ := h.single hs'
    simp only [hs', Bool.false_eq_true, if_false, List.headD_cons]
    exact ⟨hx, by rw [hasE_iff, hx]; exact ⟨h, fun h => (by rw [hs'] at h; cases h), fun _ => rfl⟩⟩

/-- a row out of its elements -/
theorem vs_elems {κ : Kx} {w : World} {b k : Nat} : ∀ {ys : List AV} {o : Nat} {f : Nat → List Value}, (∀ i y, ys[i]? = some y → Vl κ w (f i) y.cells ∧ y.cells.length = k ∧ ∀ j u, (f i)[j]? = some u → κ.I b (o + i * k + j) ∧ w.cell? ⟨b, o + i * k + j, none⟩ = some u) →
    Vs κ w b o (ys.flatMap AV.cells)
  | [], o, f, _ => .nil b o
  | y :: r, o, f, h => by
    obtain ⟨h1, h2, h3⟩ := h 0 y rfl
    rw [List.flatMap_cons]
    refine Vs.append (Vs.mk h1 (fun j u hj => by simpa using h3 j u hj)) ?_
    rw [h2]
    exact vs_elems (f := fun i => f (i + 1)) (fun i z hz => by
      obtain ⟨g1, g2, g3⟩ := h (i + 1) z (by simpa using hz)
      exact ⟨g1, g2, fun j u hj => by
        have := g3 j u hj
        rwa [show o + (i + 1) * k + j = o + k + i * k + j by rw [Nat.add_mul]; omega] at this⟩)

theorem has_slice {P : Program} {n : Nat} {t e : TypeId} {x : AV} (hu : P.underlying t = some (.slice e)) (h : HasE P (n + 1) t x) : ∃ ys, x = .sl ys .none ∧ ys.length ≤ maxLen ∧ ∀ y ∈ ys, HasE P n e y := by
  rw [hasE_iff] at h
  obtain ⟨h1, _, h3⟩ := h
  have hs : isStruct P t = false := by unfold isStruct; rw [hu]
  rw [h3 hs, hasT_succ, hu] at h1
  obtain ⟨ys, e, h⟩ := h1
  simp only [List.cons.injEq, and_true] at e
  exact ⟨ys, e, h⟩

theorem has_int {P : Program} {n : Nat} {t : TypeId} {k : IntKind} {x : AV} (hu : P.underlying t = some (.int k)) (h : HasE P (n + 1) t x) : ∃ m, x = .int k m ∧ k.min ≤ m ∧ m ≤ k.max := by
  rw [hasE_iff] at h
  obtain ⟨h1, _, h3⟩ := h
  have hs : isStruct P t = false := by unfold isStruct; rw [hu]
  rw [h3 hs, hasT_succ, hu] at h1
  obtain ⟨m, e, h⟩ := h1
  simp only [List.cons.injEq, and_true] at e
  exact ⟨m, e, h⟩

section

variable {H : Type} {enc : TypeId × Value → H} {P : Program} {W : World} {held : Bool}

end

end Go.VL

namespace Go.VL

open Go.RowKit

inductive HasAll (P : Program) (n : Nat) : List TypeId → List AV → Prop where
  | nil : HasAll P n [] []
  | cons {t : TypeId} {x : AV} {ts : List TypeId} {xs : List AV} (h : HasE P n t x) (r : HasAll P n ts xs) : HasAll P n (t :: ts) (x :: xs)

section

variable {H : Type} {enc : TypeId × Value → H} {P : Program} {W : World}

theorem trodAll_below (hl : laidOutB P = true) {W' : World} (hb : Below W.heap.size W W') : ∀ {ts : List TypeId} {vs : List Value} {ds : List (DataW H)} {ps : List MemPlace}, (∀ t ∈ ts, P.readableRec t = true ∧ t < P.types.size) →
    DataW.TrodAll enc P W 0 (fun _ => true) true ts vs ds ps → DataW.TrodAll enc P W' 0 (fun b => decide (b < W.heap.size)) true ts vs ds ps
  | [], [], [], _, _, h => by simpa [DataW.TrodAll] using h
  | t :: ts, v :: vs, d :: ds, ps, ht, ⟨p, q, h1, h2, e⟩ => by
    have hlt : ∀ x ∈ p, x.block < W.heap.size := by
      obtain ⟨n, hn⟩ := h1
      exact DataW.trod_lt n t _ _ hn
    exact ⟨p, q, Below.trod hl (ht t (by simp)).1 (ht t (by simp)).2 h1 hb hlt, trodAll_below hl hb (fun t h => ht t (List.mem_cons_of_mem _ h)) h2, e⟩
  | [], _ :: _, _, _, _, h => by simp [DataW.TrodAll] at h
  | [], [], _ :: _, _, _, h => by simp [DataW.TrodAll] at h
  | _ :: _, [], _, _, _, h => by simp [DataW.TrodAll] at h
  | _ :: _, _ :: _, [], _, _, h => by simp [DataW.TrodAll] at h

theorem trodAll_len {w : World} {b : Nat} {sp : Nat → Bool} {hd : Bool} : ∀ {ts : List TypeId} {vs : List Value} {ds : List (DataW H)} {ps : List MemPlace}, DataW.TrodAll enc P w b sp hd ts vs ds ps → ds.length = ts.length
  | [], [], [], _, _ => rfl
  | t :: ts, v :: vs, d :: ds, ps, ⟨p, q, h1, h2, e⟩ => by simp [trodAll_len h2]
  | [], _ :: _, _, _, h => by simp [DataW.TrodAll] at h
  | [], [], _ :: _, _, h => by simp [DataW.TrodAll] at h
  | _ :: _, [], _, _, h => by simp [DataW.TrodAll] at h
  | _ :: _, _ :: _, [], _, h => by simp [DataW.TrodAll] at h

end

end Go.VL

namespace Go.VL

open Go.Proofs

/-- the type of errors -/
abbrev tCode : Nat := 31

abbrev ann : Ann := { errs := [(31, .i64)] }

abbrev n_right : Nat := 112

abbrev n_step : Nat := 168

end Go.VL

namespace Go.VL

open Go.Proofs

theorem hm : Try.prog.follows .mixedOrders = true := by kernel_rfl

def nums (k : IntKind) (l : List Int) : List AV := l.map (.int k)

theorem nums_len (k : IntKind) (l : List Int) : (nums k l).length = l.length := by simp [nums]

theorem nums_get (k : IntKind) {l : List Int} {i : Nat} (h : i < l.length) : (nums k l)[i]? = some (.int k l[i]) := by simp [nums, h]

theorem wrap64 {n : Int} (h0 : -9223372036854775808 ≤ n) (h1 : n < 9223372036854775808) : IntKind.i64.wrap n = n := by
  simp [IntKind.wrap, IntKind.bits, IntKind.signed]; omega

def rightB (w : Int) : Bool := decide (w = 1 ∨ w = 2 ∨ w = 4 ∨ w = 8)

end Go.VL

namespace Go.VL

open Go.Proofs

def g_right : List AV → Option AV
  | [.int .i64 w] => some (.bool (rightB w))
  | _ => none

def t1 : Tbl := [(n_right, g_right)]

theorem bytesAV_len (x : List UInt8) : (bytesAV x).length = x.length := by simp [bytesAV]

theorem bytesAV_er (x : List UInt8) : (bytesAV x).map AV.er = bytesAV x := by
  simp only [bytesAV, List.map_map]; rfl

end Go.VL

namespace Go.VL

def bitstep (x : BitVec 32) : BitVec 32 := if x.getLsbD 0 then (x >>> 1) ^^^ 0xEDB88320#32 else x >>> 1

def stepN : Nat → BitVec 32 → BitVec 32
  | 0, x => x
  | n + 1, x => stepN n (bitstep x)

/-! ### The operations on words -/

end Go.VL

namespace Go.VL

open Go.Proofs

def step8I (m : Int) : Int := ((stepN 8 (BitVec.ofInt 32 m)).toNat : Int)

/-- (told by choice, so that nobody reckons it) -/
noncomputable def inU32 (m : Int) : Bool := @decide (0 ≤ m ∧ m < 4294967296) (Classical.propDecidable _)

noncomputable def g_step : List AV → Option AV
  | [.int .u32 m] => if inU32 m = true then some (.int .u32 (step8I m)) else none
  | _ => none

noncomputable def t2 : Tbl := [(n_step, g_step)]

def tab (i : Nat) : List AV := (List.range 256).map fun j => .int .u32 (if j < i then step8I (j : Int) else 0)

end Go.VL

namespace Go.VL

open Go.Proofs

theorem nb_bytes (m : Nat) (l : List UInt8) : nbs m (bytesAV l) := by
  rw [nbs_iff]
  intro x hx
  simp only [bytesAV, List.mem_map] at hx
  obtain ⟨b, _, rfl⟩ := hx
  trivial

end Go.VL

namespace Go.VL

open Go.Proofs

theorem Wk.tup2 {a b c : AV} (h : Wk a b) : Wk (.tup [a, c]) (.tup [b, c]) := fun κ w v hv => by
  obtain ⟨u, rfl, hu⟩ := hv.tup_inv
  cases hu with
  | cons v x vs xs hx t => exact .tup _ _ (.cons _ _ _ _ (h κ w v hx) t)

theorem Fin.quietw {σ0 : St} {rs : List RX} {K : AV → St → Prop} {ρ : List AV} {σ : St} {xs : List AV} {y : AV} (h1 : rvals ρ σ rs = some xs) (hw : Wk (pack xs) y) (hx : y.nb σ0.next) (hr : ∀ n r, σ0.res n = some r → σ.res n = some r) (h2 : K y σ0) : Fin σ0 rs K .ret ρ σ :=
  ⟨ρ, σ, xs, _, σ0, .refl, h1, (Gv.wk hw).trans (.quiet hx hr), h2⟩

theorem toBytes_bytes : ∀ l : List UInt8, toBytes (bytesAV l) = some l
  | [] => rfl
  | b :: r => by
    have h := toBytes_bytes r
    simp only [bytesAV] at h
    simp only [bytesAV, List.map_cons, toBytes, h, Option.map_some, Int.toNat_natCast]
    simp

end Go.VL

namespace Go.VL

open Go.Proofs

/-- what a reader may be -/
structure Rd (l : List UInt8) (at_ bad : Int) : Prop where
  len : l.length ≤ 1099511627776
  lo : 0 ≤ at_
  hi : at_ ≤ l.length

def numB (l : List UInt8) : Nat := l.foldl (fun n b => 256 * n + b.toNat) 0

end Go.VL

namespace Go.VL

open Go.Proofs

theorem set_quiet {σ σ' : St} (wf : WF σ) (hn : σ.next ≤ σ'.next) (ho : ∀ n x, σ.res n = some x → σ'.res n = some x) {k a : Nat} (r : Res) (ha : σ'.next ≤ a) : ∀ n x, σ.res n = some x → ((σ'.up k).set a r).res n = some x := by
  intro n x hr
  have hn' : n < σ.next := by
    rcases Nat.lt_or_ge n σ.next with h | h
    · exact h
    · rw [wf n h] at hr; cases hr
  rw [St.set_other _ _ (by omega)]; exact ho n x hr

end Go.VL

namespace Go.VL

open Go.Proofs

/-- how far a reader is, and where something is amiss (-1: nowhere) -/
structure Rs where
  at_ : Int
  bad : Int

def Rs.ok (l : List UInt8) (s : Rs) : Prop := Rd l s.at_ s.bad ∧ (s.bad = -1 ∨ 0 ≤ s.bad)

def r0 : Rs := ⟨0, -1⟩

/-- may so many bytes be taken? -/
def rT (l : List UInt8) (s : Rs) (w : Int) : Bool := decide (s.bad = -1 ∧ w ≤ l.length - s.at_)

/-- a word -/
def rW (l : List UInt8) (s : Rs) (w : Nat) : Nat := if rT l s w then numB ((l.drop s.at_.toNat).take w) else 0

end Go.VL

namespace Go.VL

open Go.Proofs

/-- the same, and perhaps more behind it -/
structure Like (ρ τ : St) : Prop where
  next : ρ.next ≤ τ.next
  same : ∀ n, n < ρ.next → τ.res n = ρ.res n

theorem Like.refl (σ : St) : Like σ σ := ⟨Nat.le_refl _, fun _ _ => rfl⟩

theorem Like.trans {a b c : St} (h : Like a b) (k : Like b c) : Like a c := ⟨Nat.le_trans h.next k.next, fun n hn => (k.same n (Nat.lt_of_lt_of_le hn h.next)).trans (h.same n hn)⟩

theorem Like.up {a b : St} (h : Like a b) (k : Nat) : Like a (b.up k) := ⟨Nat.le_trans h.next (Nat.le_add_right _ _), h.same⟩

theorem Like.set {a b : St} (h : Like a b) {n : Nat} (r : Res) (hn : a.next ≤ n) : Like a (b.set n r) := ⟨h.next, fun m hm => by rw [St.set_other _ _ (by omega)]; exact h.same m hm⟩

theorem Like.del {a b : St} (h : Like a b) {n : Nat} (hn : a.next ≤ n) : Like a (b.del n) := ⟨h.next, fun m hm => by
  have : m ≠ n := by omega
  rw [← h.same m hm]; simp [St.del, this]⟩

theorem Like.put {a b : St} (h : Like a b) (n : Nat) (r : Res) : Like (a.set n r) (b.set n r) := ⟨h.next, fun m hm => by
  have hm' : m < a.next := hm
  by_cases e : m = n
  · subst e; simp
  · rw [St.set_other _ _ e, St.set_other _ _ e]; exact h.same m hm'⟩

theorem Like.one {σ σ' : St} {g k : Nat} (h : OneTip σ σ' g k) : Like σ σ' := ⟨by have := h.lo; have := h.hi; omega, fun n hn => by rw [h.res, St.set_other _ _ (by have := h.lo; omega)]⟩

theorem Like.get {a b : St} (h : Like a b) {n : Nat} (hn : n < a.next) {r : Res} (hr : a.res n = some r) : b.res n = some r := by rw [h.same n hn]; exact hr

theorem WF.lt {σ : St} (wf : WF σ) {n : Nat} {r : Res} (h : σ.res n = some r) : n < σ.next := by
  rcases Nat.lt_or_ge n σ.next with h' | h'
  · exact h'
  · rw [wf n h'] at h; cases h

/-- what is left behind a call may be told as it is, but for names that nobody knows -/
theorem Gv.like {σ0 τ ρ : St} {x : AV} (h : Like ρ τ) (hn : ρ.next = σ0.next) (hx : x.nb σ0.next) (hr : ∀ n r, ρ.res n = some r → n < σ0.next ∧ (σ0.res n = some r ∨ r.nb σ0.next)) : Gv σ0 x τ x ρ :=
  .cut (Nat.le_of_eq hn.symm) (by rw [hn]; exact hx) (fun n r hnr => by
    obtain ⟨h1, h2⟩ := hr n r hnr
    refine ⟨by rw [h.same n (by omega)]; exact hnr, ?_⟩
    rcases h2 with h2 | h2
    · exact .inl h2
    · exact .inr ⟨by omega, by rw [hn]; exact h2⟩)

theorem inc64' {i n : Nat} (h : i < n) (hn : n ≤ 4611686018427387904) : IntKind.i64.wrap ((i : Int) + 1) = ((i + 1 : Nat) : Int) := by
  rw [wrap64 (by omega) (by omega)]; omega

/-- a named end, and what was there ahead of it -/
structure Tq (σ t : St) (g k : Nat) : Prop where
  like : Like σ t
  at_ : t.res g = some (.tip k)
  lo : σ.next ≤ g
  hi : g < t.next

theorem Tq.up {σ t : St} {g k : Nat} (h : Tq σ t g k) (n : Nat) : Tq σ (t.up n) g k := ⟨h.like.up n, h.at_, h.lo, Nat.lt_of_lt_of_le h.hi (Nat.le_add_right _ _)⟩

theorem Tq.new {σ t : St} (h : Like σ t) {n i : Nat} (hi : i < n) (k : Nat) : Tq σ ((t.up n).set (t.next + i) (.tip k)) (t.next + i) k :=
  ⟨(h.up n).set _ (by have := h.next; omega), by simp, by have := h.next; omega, by simp; omega⟩

theorem Tq.app {σ t : St} {g k : Nat} (h : Tq σ t g k) {n i : Nat} (hi : i < n) : Tq σ (((t.up n).del g).set (t.next + i) (.tip k)) (t.next + i) k :=
  ⟨((h.like.up n).del h.lo).set _ (by have := h.like.next; omega), by simp, by have := h.like.next; omega, by simp; omega⟩

theorem Tq.box {σ t : St} {g k : Nat} (h : Tq σ t g k) {n i : Nat} (hi : i < n) (r : Res) : Tq σ ((t.up n).set (t.next + i) r) g k :=
  ⟨(h.like.up n).set _ (by have := h.like.next; omega), by rw [St.set_other _ _ (by have := h.hi; omega)]; exact h.at_, h.lo, by have := h.hi; simp; omega⟩

theorem Tq.one {σ t : St} {g k : Nat} (h : OneTip σ t g k) : Tq σ t g k := ⟨.one h, h.at_, h.lo, h.hi⟩

theorem Tq.trans {σ t u : St} {g k : Nat} (h : Like σ t) (q : Tq t u g k) : Tq σ u g k := ⟨h.trans q.like, q.at_, Nat.le_trans h.next q.lo, q.hi⟩

theorem Like.quiet {σ t : St} (wf : WF σ) (h : Like σ t) : ∀ n x, σ.res n = some x → t.res n = some x := fun _ _ hx => h.get (wf.lt hx) hx

theorem Tq.quiet {σ t : St} {g k : Nat} (wf : WF σ) (h : Tq σ t g k) : ∀ n x, σ.res n = some x → t.res n = some x := h.like.quiet wf

theorem Like.box {σ t : St} (h : Like σ t) {n i : Nat} (r : Res) : Like σ ((t.up n).set (t.next + i) r) := (h.up n).set _ (by have := h.next; omega)

theorem Tq.mv {σ t : St} {g k : Nat} (h : Tq σ t g k) {g2 : Nat} (lo : σ.next ≤ g2) (hi : g2 < t.next) : Tq σ ((t.del g).set g2 (.tip k)) g2 k :=
  ⟨(h.like.del h.lo).set _ lo, by simp, lo, hi⟩

theorem OneTip.nx {s t : St} {g k n i : Nat} (o : OneTip (s.up n) t g k) (hi : i < n) : s.next + i < t.next := by have := o.lo; have := o.hi; simp at *; omega

/-- a named end, and an owned thing -/
structure Tb (σ t : St) (g k a : Nat) (r : Res) : Prop where
  q : Tq σ t g k
  b : t.res a = some r
  lt : a < t.next
  ne : a ≠ g

theorem Tb.bs {σ t : St} {g k a : Nat} {r : Res} (h : Tb σ t g k a r) : ∀ n, (t.up n).res a = some r := fun _ => h.b

theorem Tb.app {σ t : St} {g k a : Nat} {r : Res} (h : Tb σ t g k a r) {n i : Nat} (hi : i < n) : Tb σ (((t.up n).del g).set (t.next + i) (.tip k)) (t.next + i) k a r :=
  ⟨h.q.app hi, by
    have := h.lt
    rw [St.set_other _ _ (by omega)]
    have hne := h.ne
    simp only [St.del, if_neg hne]; exact h.b, by have := h.lt; simp; omega, by have := h.lt; omega⟩

theorem Tq.tb {σ t : St} {g k : Nat} (q : Tq σ t g k) {n i : Nat} (hi : i < n) (r : Res) : Tb σ ((t.up n).set (t.next + i) r) g k (t.next + i) r :=
  ⟨q.box hi r, by simp, by simp; omega, by have := q.hi; omega⟩

end Go.VL

namespace Go.VL

open Go.Proofs

abbrev n_may : Nat := 118

def c_may : C := (.seq (.reg [⟨(some 1), (.box (.t 0)), none⟩, ⟨(some 2), (.mv (.c (.bool false))), none⟩]) (.seq (.reg [⟨(some 3), (.faddr 2 (.t 1)), none⟩, ⟨(some 4), (.load none (.t 3)), none⟩, ⟨(some 5), (.bin .geq .i64 (.t 4) (.c (.int .i64 0))), none⟩, ⟨(some 6), (.mv (.t 5)), none⟩, ⟨(some 7), (.faddr 2 (.t 1)), (some (6, true))⟩, ⟨(some 8), (.load none (.t 7)), (some (6, true))⟩, ⟨(some 9), (.faddr 3 (.t 1)), (some (6, true))⟩, ⟨(some 10), (.load none (.t 9)), (some (6, true))⟩, ⟨(some 11), (.bin .leq .i64 (.t 8) (.t 10)), (some (6, true))⟩, ⟨(some 12), (.pick (.t 6) (.t 11) (.c (.bool false))), none⟩, ⟨(some 13), (.mv (.t 12)), none⟩, ⟨(some 14), (.faddr 3 (.t 1)), (some (13, true))⟩, ⟨(some 15), (.load none (.t 14)), (some (13, true))⟩, ⟨(some 16), (.bin .leq .i64 (.t 15) (.c (.int .i64 1099511627776))), (some (13, true))⟩, ⟨(some 17), (.pick (.t 13) (.t 16) (.c (.bool false))), none⟩, ⟨(some 18), (.mv (.t 17)), none⟩, ⟨(some 19), (.faddr 4 (.t 1)), (some (18, true))⟩, ⟨(some 20), (.load none (.t 19)), (some (18, true))⟩, ⟨(some 21), (.len (.t 20)), (some (18, true))⟩, ⟨(some 22), (.bin .leq .i64 (.t 21) (.c (.int .i64 64))), (some (18, true))⟩, ⟨(some 23), (.pick (.t 18) (.t 22) (.c (.bool false))), none⟩, ⟨(some 2), (.mv (.t 23)), none⟩]) .ret))

set_option maxRecDepth 100000 in
theorem k_may : compileC Try.prog ann (Try.f118.body.getD .skip) = some c_may := by kernel_rfl

theorem s_may {args : List AV} {σ : St} {K : AV → St → Prop} (h : WF σ → T Try.prog ann c_may (Fin σ [(.t 2)] K) (args ++ List.replicate (24 - args.length) (.tup [])) σ) : ACalls Try.prog n_may args σ K :=
  calls_ok Try.func118 (by kernel_rfl) (by kernel_rfl) k_may (by kernel_rfl) (by kernel_rfl) h

abbrev n_nan1 : Nat := 155

def c_nan1 : C := (.seq (.reg [⟨(some 2), (.mv (.c (.bool false))), none⟩]) (.seq (.reg [⟨(some 3), (.mv (.t 0)), none⟩, ⟨(some 4), (.mv (.t 0)), none⟩, ⟨(some 5), (.bin .neq .i64 (.t 3) (.t 4)), none⟩, ⟨(some 2), (.mv (.t 5)), none⟩]) .ret))

set_option maxRecDepth 100000 in
theorem k_nan1 : compileC Try.prog ann (Try.f155.body.getD .skip) = some c_nan1 := by kernel_rfl

theorem s_nan1 {args : List AV} {σ : St} {K : AV → St → Prop} (h : WF σ → T Try.prog ann c_nan1 (Fin σ [(.t 2)] K) (args ++ List.replicate (6 - args.length) (.tup [])) σ) : ACalls Try.prog n_nan1 args σ K :=
  calls_ok Try.func155 (by kernel_rfl) (by kernel_rfl) k_nan1 (by kernel_rfl) (by kernel_rfl) h

abbrev n_nan2 : Nat := 159

def c_nan2 : C := (.seq (.reg [⟨(some 2), (.mv (.c (.bool false))), none⟩]) (.seq (.reg [⟨(some 3), (.mv (.t 0)), none⟩, ⟨(some 4), (.mv (.t 0)), none⟩, ⟨(some 5), (.bin .neq .u64 (.t 3) (.t 4)), none⟩, ⟨(some 2), (.mv (.t 5)), none⟩]) .ret))

set_option maxRecDepth 100000 in
theorem k_nan2 : compileC Try.prog ann (Try.f159.body.getD .skip) = some c_nan2 := by kernel_rfl

theorem s_nan2 {args : List AV} {σ : St} {K : AV → St → Prop} (h : WF σ → T Try.prog ann c_nan2 (Fin σ [(.t 2)] K) (args ++ List.replicate (6 - args.length) (.tup [])) σ) : ACalls Try.prog n_nan2 args σ K :=
  calls_ok Try.func159 (by kernel_rfl) (by kernel_rfl) k_nan2 (by kernel_rfl) (by kernel_rfl) h

abbrev n_cmpi : Nat := 124

def c_cmpi : C := (.seq (.reg [⟨(some 4), (.mv (.c (.int .i64 0))), none⟩]) (.seq (.reg [⟨(some 7), (.mv (.t 0)), none⟩, ⟨(some 8), (.call 155 [(.t 7)]), none⟩, ⟨(some 5), (.mv (.t 8)), none⟩]) (.seq (.reg [⟨(some 9), (.mv (.t 1)), none⟩, ⟨(some 10), (.call 155 [(.t 9)]), none⟩, ⟨(some 6), (.mv (.t 10)), none⟩]) (.seq (.seq (.reg [⟨(some 11), (.mv (.t 5)), none⟩]) (.cond (.t 11) (.seq (.seq (.reg [⟨(some 12), (.mv (.t 6)), none⟩]) (.cond (.t 12) (.seq (.reg [⟨(some 4), (.mv (.c (.int .i64 0))), none⟩]) .ret) .skip)) (.seq (.reg [⟨(some 4), (.mv (.c (.int .i64 (-1)))), none⟩]) .ret)) .skip)) (.seq (.seq (.reg [⟨(some 13), (.mv (.t 6)), none⟩]) (.cond (.t 13) (.seq (.reg [⟨(some 4), (.mv (.c (.int .i64 1))), none⟩]) .ret) .skip)) (.seq (.seq (.reg [⟨(some 14), (.mv (.t 0)), none⟩, ⟨(some 15), (.mv (.t 1)), none⟩, ⟨(some 16), (.bin .lss .i64 (.t 14) (.t 15)), none⟩]) (.cond (.t 16) (.seq (.reg [⟨(some 4), (.mv (.c (.int .i64 (-1)))), none⟩]) .ret) .skip)) (.seq (.seq (.reg [⟨(some 17), (.mv (.t 0)), none⟩, ⟨(some 18), (.mv (.t 1)), none⟩, ⟨(some 19), (.bin .gtr .i64 (.t 17) (.t 18)), none⟩]) (.cond (.t 19) (.seq (.reg [⟨(some 4), (.mv (.c (.int .i64 1))), none⟩]) .ret) .skip)) (.seq (.reg [⟨(some 4), (.mv (.c (.int .i64 0))), none⟩]) .ret))))))))

set_option maxRecDepth 100000 in
theorem k_cmpi : compileC Try.prog ann (Try.f124.body.getD .skip) = some c_cmpi := by kernel_rfl

theorem s_cmpi {args : List AV} {σ : St} {K : AV → St → Prop} (h : WF σ → T Try.prog ann c_cmpi (Fin σ [(.t 4)] K) (args ++ List.replicate (20 - args.length) (.tup [])) σ) : ACalls Try.prog n_cmpi args σ K :=
  calls_ok Try.func124 (by kernel_rfl) (by kernel_rfl) k_cmpi (by kernel_rfl) (by kernel_rfl) h

abbrev n_cmpu : Nat := 129

def c_cmpu : C := (.seq (.reg [⟨(some 4), (.mv (.c (.int .i64 0))), none⟩]) (.seq (.reg [⟨(some 7), (.mv (.t 0)), none⟩, ⟨(some 8), (.call 159 [(.t 7)]), none⟩, ⟨(some 5), (.mv (.t 8)), none⟩]) (.seq (.reg [⟨(some 9), (.mv (.t 1)), none⟩, ⟨(some 10), (.call 159 [(.t 9)]), none⟩, ⟨(some 6), (.mv (.t 10)), none⟩]) (.seq (.seq (.reg [⟨(some 11), (.mv (.t 5)), none⟩]) (.cond (.t 11) (.seq (.seq (.reg [⟨(some 12), (.mv (.t 6)), none⟩]) (.cond (.t 12) (.seq (.reg [⟨(some 4), (.mv (.c (.int .i64 0))), none⟩]) .ret) .skip)) (.seq (.reg [⟨(some 4), (.mv (.c (.int .i64 (-1)))), none⟩]) .ret)) .skip)) (.seq (.seq (.reg [⟨(some 13), (.mv (.t 6)), none⟩]) (.cond (.t 13) (.seq (.reg [⟨(some 4), (.mv (.c (.int .i64 1))), none⟩]) .ret) .skip)) (.seq (.seq (.reg [⟨(some 14), (.mv (.t 0)), none⟩, ⟨(some 15), (.mv (.t 1)), none⟩, ⟨(some 16), (.bin .lss .u64 (.t 14) (.t 15)), none⟩]) (.cond (.t 16) (.seq (.reg [⟨(some 4), (.mv (.c (.int .i64 (-1)))), none⟩]) .ret) .skip)) (.seq (.seq (.reg [⟨(some 17), (.mv (.t 0)), none⟩, ⟨(some 18), (.mv (.t 1)), none⟩, ⟨(some 19), (.bin .gtr .u64 (.t 17) (.t 18)), none⟩]) (.cond (.t 19) (.seq (.reg [⟨(some 4), (.mv (.c (.int .i64 1))), none⟩]) .ret) .skip)) (.seq (.reg [⟨(some 4), (.mv (.c (.int .i64 0))), none⟩]) .ret))))))))

set_option maxRecDepth 100000 in
theorem k_cmpu : compileC Try.prog ann (Try.f129.body.getD .skip) = some c_cmpu := by kernel_rfl

theorem s_cmpu {args : List AV} {σ : St} {K : AV → St → Prop} (h : WF σ → T Try.prog ann c_cmpu (Fin σ [(.t 4)] K) (args ++ List.replicate (20 - args.length) (.tup [])) σ) : ACalls Try.prog n_cmpu args σ K :=
  calls_ok Try.func129 (by kernel_rfl) (by kernel_rfl) k_cmpu (by kernel_rfl) (by kernel_rfl) h

abbrev n_cor : Nat := 122

def c_cor : C := (.seq (.reg [⟨(some 2), (.mv (.c (.int .i64 0))), none⟩]) (.seq (.reg [⟨(some 3), (.mv (.c (.int .i64 0))), none⟩]) (.seq (.seq (.reg [⟨(some 6), (.mv (.t 0)), none⟩, ⟨(some 7), (.len (.t 6)), none⟩, ⟨(some 8), (.mv (.c (.int .i64 0))), none⟩]) (.block 0 (.loop (.seq (.reg [⟨(some 9), (.bin .lss .i64 (.t 8) (.t 7)), none⟩]) (.seq (.cond (.t 9) .skip (.exit 0)) (.seq (.block 1 (.seq (.reg [⟨(some 10), (.iaddr 1 (.t 6) (.t 8)), none⟩, ⟨(some 11), (.load none (.t 10)), none⟩, ⟨(some 5), (.mv (.t 11)), none⟩]) (.seq (.reg [⟨(some 12), (.mv (.t 5)), none⟩, ⟨(some 13), (.mv (.t 3)), none⟩, ⟨(some 14), (.bin .neq .i64 (.t 12) (.t 13)), none⟩]) (.cond (.t 14) (.seq (.reg [⟨(some 15), (.mv (.t 5)), none⟩, ⟨(some 2), (.mv (.t 15)), none⟩]) .ret) .skip)))) (.reg [⟨(some 16), (.bin .add .i64 (.t 8) (.c (.int .i64 1))), none⟩, ⟨(some 8), (.mv (.t 16)), none⟩]))))))) (.seq (.reg [⟨(some 17), (.mv (.t 3)), none⟩, ⟨(some 2), (.mv (.t 17)), none⟩]) .ret))))

set_option maxRecDepth 100000 in
theorem k_cor : compileC Try.prog ann (Try.f122.body.getD .skip) = some c_cor := by kernel_rfl

theorem s_cor {args : List AV} {σ : St} {K : AV → St → Prop} (h : WF σ → T Try.prog ann c_cor (Fin σ [(.t 2)] K) (args ++ List.replicate (18 - args.length) (.tup [])) σ) : ACalls Try.prog n_cor args σ K :=
  calls_ok Try.func122 (by kernel_rfl) (by kernel_rfl) k_cor (by kernel_rfl) (by kernel_rfl) h

abbrev n_scmp : Nat := 80

def c_scmp : C := (.seq (.reg [⟨(some 2), (.box (.t 0)), none⟩, ⟨(some 3), (.box (.t 1)), none⟩, ⟨(some 4), (.mv (.c (.int .i64 0))), none⟩]) (.seq (.reg [⟨(some 5), (.faddr 2 (.t 2)), none⟩, ⟨(some 6), (.load none (.t 5)), none⟩, ⟨(some 7), (.faddr 2 (.t 3)), none⟩, ⟨(some 8), (.load none (.t 7)), none⟩, ⟨(some 9), (.qcall 124 [(.t 6), (.t 8)]), none⟩, ⟨(some 10), (.faddr 1 (.t 2)), none⟩, ⟨(some 11), (.load none (.t 10)), none⟩, ⟨(some 12), (.faddr 1 (.t 3)), none⟩, ⟨(some 13), (.load none (.t 12)), none⟩, ⟨(some 14), (.qcall 129 [(.t 11), (.t 13)]), none⟩, ⟨(some 15), (.faddr 0 (.t 2)), none⟩, ⟨(some 16), (.load none (.t 15)), none⟩, ⟨(some 17), (.faddr 0 (.t 3)), none⟩, ⟨(some 18), (.load none (.t 17)), none⟩, ⟨(some 19), (.qcall 129 [(.t 16), (.t 18)]), none⟩, ⟨(some 20), (.bslice 1 .val [(.t 9), (.t 14), (.t 19)]), none⟩, ⟨(some 21), (.qcall 122 [(.t 20)]), none⟩, ⟨(some 4), (.mv (.t 21)), none⟩]) .ret))

set_option maxRecDepth 100000 in
theorem k_scmp : compileC Try.prog ann (Try.f80.body.getD .skip) = some c_scmp := by kernel_rfl

theorem s_scmp {args : List AV} {σ : St} {K : AV → St → Prop} (h : WF σ → T Try.prog ann c_scmp (Fin σ [(.t 4)] K) (args ++ List.replicate (22 - args.length) (.tup [])) σ) : ACalls Try.prog n_scmp args σ K :=
  calls_ok Try.func80 (by kernel_rfl) (by kernel_rfl) k_scmp (by kernel_rfl) (by kernel_rfl) h

abbrev n_one : Nat := 107

def c_one : C := (.seq (.reg [⟨(some 1), (.box (.t 0)), none⟩, ⟨(some 2), (.mv (.c (.bool false))), none⟩]) (.seq (.reg [⟨(some 6), .mkMap, none⟩, ⟨(some 3), (.mv (.t 6)), none⟩]) (.seq (.seq (.reg [⟨(some 7), (.faddr 1 (.t 1)), none⟩, ⟨(some 8), (.load none (.t 7)), none⟩, ⟨(some 9), (.len (.t 8)), none⟩, ⟨(some 10), (.mv (.c (.int .i64 0))), none⟩]) (.block 0 (.loop (.seq (.reg [⟨(some 11), (.bin .lss .i64 (.t 10) (.t 9)), none⟩]) (.seq (.cond (.t 11) .skip (.exit 0)) (.seq (.block 1 (.seq (.reg [⟨(some 12), (.mv (.t 10)), none⟩, ⟨(some 13), (.iaddr 5 (.t 8) (.t 10)), none⟩, ⟨(some 14), (.load (some 5) (.t 13)), none⟩, ⟨(some 5), (.alloc [(.int .u64 0), (.int .u64 0), (.int .i64 0), (.int .i64 0), (.sl [] .nil)]), none⟩, ⟨(some 4), (.mv (.t 12)), none⟩, ⟨none, (.store 5 (.t 5) (.t 14)), none⟩]) (.seq (.seq (.reg [⟨(some 15), (.faddr 0 (.t 5)), none⟩, ⟨(some 16), (.load none (.t 15)), none⟩, ⟨(some 17), (.faddr 0 (.t 1)), none⟩, ⟨(some 18), (.load none (.t 17)), none⟩, ⟨(some 19), (.bin .neq .u64 (.t 16) (.t 18)), none⟩, ⟨(some 20), (.mv (.t 19)), none⟩, ⟨(some 21), (.load (some 5) (.t 5)), (some (20, false))⟩, ⟨(some 22), (.qcall 118 [(.t 21)]), (some (20, false))⟩, ⟨(some 23), (.not (.t 22)), (some (20, false))⟩, ⟨(some 24), (.pick (.t 20) (.c (.bool true)) (.t 23)), none⟩, ⟨(some 25), (.mv (.t 24)), none⟩, ⟨(some 26), (.mv (.t 3)), (some (25, false))⟩, ⟨(some 27), (.faddr 1 (.t 5)), (some (25, false))⟩, ⟨(some 28), (.load none (.t 27)), (some (25, false))⟩, ⟨(some 29), (.look 0 (.bool false) false (.t 26) (.t 28)), (some (25, false))⟩, ⟨(some 30), (.pick (.t 25) (.c (.bool true)) (.t 29)), none⟩, ⟨(some 31), (.mv (.t 30)), none⟩, ⟨(some 32), (.mv (.t 4)), (some (31, false))⟩, ⟨(some 33), (.bin .gtr .i64 (.t 32) (.c (.int .i64 0))), (some (31, false))⟩, ⟨(some 34), (.mv (.t 33)), (some (31, false))⟩, ⟨(some 35), (.faddr 1 (.t 1)), (some (34, true))⟩, ⟨(some 36), (.load none (.t 35)), (some (34, true))⟩, ⟨(some 37), (.mv (.t 4)), (some (34, true))⟩, ⟨(some 38), (.bin .sub .i64 (.t 37) (.c (.int .i64 1))), (some (34, true))⟩, ⟨(some 39), (.iaddr 5 (.t 36) (.t 38)), (some (34, true))⟩, ⟨(some 40), (.load (some 5) (.t 39)), (some (34, true))⟩, ⟨(some 41), (.load (some 5) (.t 5)), (some (34, true))⟩, ⟨(some 42), (.qcall 80 [(.t 40), (.t 41)]), (some (34, true))⟩, ⟨(some 43), (.bin .geq .i64 (.t 42) (.c (.int .i64 0))), (some (34, true))⟩, ⟨(some 44), (.pick (.t 34) (.t 43) (.c (.bool false))), (some (31, false))⟩, ⟨(some 45), (.pick (.t 31) (.c (.bool true)) (.t 44)), none⟩]) (.cond (.t 45) (.seq (.reg [⟨(some 2), (.mv (.c (.bool false))), none⟩]) .ret) .skip)) (.reg [⟨(some 46), (.mv (.t 3)), none⟩, ⟨(some 47), (.faddr 1 (.t 5)), none⟩, ⟨(some 48), (.load none (.t 47)), none⟩, ⟨none, (.mapUp 0 (.t 46) (.t 48) (.c (.bool true))), none⟩])))) (.reg [⟨(some 49), (.bin .add .i64 (.t 10) (.c (.int .i64 1))), none⟩, ⟨(some 10), (.mv (.t 49)), none⟩]))))))) (.seq (.reg [⟨(some 50), (.faddr 1 (.t 1)), none⟩, ⟨(some 51), (.load none (.t 50)), none⟩, ⟨(some 52), (.len (.t 51)), none⟩, ⟨(some 53), (.bin .geq .i64 (.t 52) (.c (.int .i64 1))), none⟩, ⟨(some 54), (.mv (.t 53)), none⟩, ⟨(some 55), (.faddr 1 (.t 1)), (some (54, true))⟩, ⟨(some 56), (.load none (.t 55)), (some (54, true))⟩, ⟨(some 57), (.len (.t 56)), (some (54, true))⟩, ⟨(some 58), (.bin .leq .i64 (.t 57) (.c (.int .i64 100))), (some (54, true))⟩, ⟨(some 59), (.pick (.t 54) (.t 58) (.c (.bool false))), none⟩, ⟨(some 2), (.mv (.t 59)), none⟩]) .ret))))

set_option maxRecDepth 100000 in
theorem k_one : compileC Try.prog ann (Try.f107.body.getD .skip) = some c_one := by kernel_rfl

theorem s_one {args : List AV} {σ : St} {K : AV → St → Prop} (h : WF σ → T Try.prog ann c_one (Fin σ [(.t 2)] K) (args ++ List.replicate (60 - args.length) (.tup [])) σ) : ACalls Try.prog n_one args σ K :=
  calls_ok Try.func107 (by kernel_rfl) (by kernel_rfl) k_one (by kernel_rfl) (by kernel_rfl) h

abbrev n_is : Nat := 61

def c_is : C := (.seq (.reg [⟨(some 2), (.mv (.c (.bool false))), none⟩]) (.seq (.seq (.reg [⟨(some 5), (.mv (.t 0)), none⟩, ⟨(some 6), (.len (.t 5)), none⟩, ⟨(some 7), (.mv (.c (.int .i64 0))), none⟩]) (.block 0 (.loop (.seq (.reg [⟨(some 8), (.bin .lss .i64 (.t 7) (.t 6)), none⟩]) (.seq (.cond (.t 8) .skip (.exit 0)) (.seq (.block 1 (.seq (.reg [⟨(some 9), (.mv (.t 7)), none⟩, ⟨(some 10), (.iaddr 2 (.t 5) (.t 7)), none⟩, ⟨(some 11), (.load (some 2) (.t 10)), none⟩, ⟨(some 4), (.alloc [(.int .u64 0), (.sl [] .nil)]), none⟩, ⟨(some 3), (.mv (.t 9)), none⟩, ⟨none, (.store 2 (.t 4) (.t 11)), none⟩]) (.seq (.reg [⟨(some 12), (.load (some 2) (.t 4)), none⟩, ⟨(some 13), (.qcall 107 [(.t 12)]), none⟩, ⟨(some 14), (.not (.t 13)), none⟩, ⟨(some 15), (.mv (.t 14)), none⟩, ⟨(some 16), (.mv (.t 3)), (some (15, false))⟩, ⟨(some 17), (.bin .gtr .i64 (.t 16) (.c (.int .i64 0))), (some (15, false))⟩, ⟨(some 18), (.mv (.t 17)), (some (15, false))⟩, ⟨(some 19), (.mv (.t 0)), (some (18, true))⟩, ⟨(some 20), (.mv (.t 3)), (some (18, true))⟩, ⟨(some 21), (.bin .sub .i64 (.t 20) (.c (.int .i64 1))), (some (18, true))⟩, ⟨(some 22), (.iaddr 2 (.t 19) (.t 21)), (some (18, true))⟩, ⟨(some 23), (.faddr 0 (.t 22)), (some (18, true))⟩, ⟨(some 24), (.load none (.t 23)), (some (18, true))⟩, ⟨(some 25), (.faddr 0 (.t 4)), (some (18, true))⟩, ⟨(some 26), (.load none (.t 25)), (some (18, true))⟩, ⟨(some 27), (.bin .geq .u64 (.t 24) (.t 26)), (some (18, true))⟩, ⟨(some 28), (.pick (.t 18) (.t 27) (.c (.bool false))), (some (15, false))⟩, ⟨(some 29), (.pick (.t 15) (.c (.bool true)) (.t 28)), none⟩]) (.cond (.t 29) (.seq (.reg [⟨(some 2), (.mv (.c (.bool false))), none⟩]) .ret) .skip)))) (.reg [⟨(some 30), (.bin .add .i64 (.t 7) (.c (.int .i64 1))), none⟩, ⟨(some 7), (.mv (.t 30)), none⟩]))))))) (.seq (.reg [⟨(some 2), (.mv (.c (.bool true))), none⟩]) .ret)))

set_option maxRecDepth 100000 in
theorem k_is : compileC Try.prog ann (Try.f61.body.getD .skip) = some c_is := by kernel_rfl

theorem s_is {args : List AV} {σ : St} {K : AV → St → Prop} (h : WF σ → T Try.prog ann c_is (Fin σ [(.t 2)] K) (args ++ List.replicate (31 - args.length) (.tup [])) σ) : ACalls Try.prog n_is args σ K :=
  calls_ok Try.func61 (by kernel_rfl) (by kernel_rfl) k_is (by kernel_rfl) (by kernel_rfl) h

abbrev n_rgather : Nat := 51

abbrev n_rspans : Nat := 30

end Go.VL

namespace Go.VL

open Go.Proofs

/-- a span -/
structure Sp where
  tr : Nat
  id : Nat
  st : Int
  en : Int
  da : List UInt8
  deriving DecidableEq

def Sp.av (s : Sp) : AV := .agg [.int .u64 (s.tr : Int), .int .u64 (s.id : Int), .int .i64 s.st, .int .i64 s.en, .sl (bytesAV s.da) .none]

/-- a trace -/
structure Tc where
  id : Nat
  sp : List Sp
  deriving DecidableEq

def Tc.av (t : Tc) : AV := .agg [.int .u64 (t.id : Int), .sl (t.sp.map Sp.av) .none]

def spsAV (l : List Sp) : List AV := l.map Sp.av

def tcsAV (l : List Tc) : List AV := l.map Tc.av

def pgsAV (l : List (List Tc)) : List AV := l.map fun p => .sl (tcsAV p) .none

theorem sps_len (l : List Sp) : (spsAV l).length = l.length := by simp [spsAV]

theorem tcs_len (l : List Tc) : (tcsAV l).length = l.length := by simp [tcsAV]

theorem pgs_len (l : List (List Tc)) : (pgsAV l).length = l.length := by simp [pgsAV]

theorem sps_get {l : List Sp} {i : Nat} (h : i < l.length) : (spsAV l)[i]? = some (l[i].av) := by simp [spsAV, h]

theorem tcs_get {l : List Tc} {i : Nat} (h : i < l.length) : (tcsAV l)[i]? = some (l[i].av) := by simp [tcsAV, h]

theorem pgs_get {l : List (List Tc)} {i : Nat} (h : i < l.length) : (pgsAV l)[i]? = some (.sl (tcsAV l[i]) .none) := by simp [pgsAV, h]

theorem tccells (t : Tc) : t.av.cells = [.int .u64 (t.id : Int), .sl (spsAV t.sp) .none] := rfl

theorem inc64 {i n : Nat} (h : i < n) (hn : n ≤ 9223372036854775807) : IntKind.i64.wrap ((i : Int) + 1) = ((i + 1 : Nat) : Int) := by
  rw [wrap64 (by omega) (by omega)]; rfl

theorem take_all {α : Type} {p : α → Bool} {l : List α} {i : Nat} (hi : i < l.length) (h : (l.take i).all p = true) (hp : p l[i] = true) : (l.take (i + 1)).all p = true := by
  rw [List.take_succ_eq_append_getElem hi, List.all_append, h]
  simp [hp]

theorem all_ff {α : Type} {p : α → Bool} {l : List α} {i : Nat} (hi : i < l.length) (hp : p l[i] = false) : l.all p = false := by
  rw [Bool.eq_false_iff]
  intro h
  have := List.all_eq_true.1 h l[i] (List.getElem_mem hi)
  rw [hp] at this; cases this

end Go.VL

namespace Go.VL

/-- an entry of a heap: what it has, its row, when it was pushed -/
structure En (α : Type) where
  x : α
  row : Nat
  turn : Nat

section

variable {α : Type} {key : α → Int}

def aheadE (key : α → Int) (a b : En α) : Bool := decide (key a.x < key b.x ∨ key a.x = key b.x ∧ (a.row < b.row ∨ a.row = b.row ∧ a.turn < b.turn))

/-- none is ahead of the first one -/
def leE (key : α → Int) (a b : En α) : Prop := aheadE key b a = false

theorem leE.refl (a : En α) : leE key a a := by
  unfold leE aheadE; simp only [decide_eq_false_iff_not]; omega

theorem leE.trans {a b c : En α} (h : leE key a b) (k : leE key b c) : leE key a c := by
  unfold leE aheadE at *; simp only [decide_eq_false_iff_not] at *; omega

theorem ahead_le {a b : En α} (h : aheadE key a b = true) : leE key a b := by
  unfold leE aheadE at *; simp only [decide_eq_false_iff_not, decide_eq_true_eq] at *; omega

/-- each one is behind the one at half its place -/
def HeapL (key : α → Int) (l : List (En α)) : Prop := ∀ j a b, 0 < j → l[j]? = some b → l[(j - 1) / 2]? = some a → leE key a b

theorem HeapL.nil : HeapL key ([] : List (En α)) := by
  intro j a b _ h _
  simp at h

theorem HeapL.least {l : List (En α)} (h : HeapL key l) {a : En α} (ha : l[0]? = some a) : ∀ (j : Nat) (b : En α), l[j]? = some b → leE key a b := by
  intro j
  induction j using Nat.strongRecOn with
  | ind j ih =>
    intro b hb
    rcases Nat.eq_zero_or_pos j with rfl | hj
    · rw [ha] at hb; cases hb; exact .refl a
    · have hlt : (j - 1) / 2 < l.length := by
        have := (List.getElem?_eq_some_iff.1 hb).1; omega
      have hp : l[(j - 1) / 2]? = some l[(j - 1) / 2] := by simp [hlt]
      exact (ih _ (by omega) _ hp).trans (h j _ _ hj hb hp)

/-- two change places -/
def sw (l : List (En α)) (i k : Nat) (a b : En α) : List (En α) := (l.set i b).set k a

theorem sw_len (l : List (En α)) (i k : Nat) (a b : En α) : (sw l i k a b).length = l.length := by simp [sw]

theorem sw_get {l : List (En α)} {i k : Nat} {a b : En α} (ha : l[i]? = some a) (hb : l[k]? = some b) (j : Nat) : (sw l i k a b)[j]? = if j = k then some a else if j = i then some b else l[j]? := by
  have hi := (List.getElem?_eq_some_iff.1 ha).1
  have hk := (List.getElem?_eq_some_iff.1 hb).1
  unfold sw
  rw [List.getElem?_set, List.getElem?_set]
  by_cases h1 : k = j
  · subst h1; simp [hk]
  · have h1' : ¬ j = k := fun e => h1 e.symm
    simp only [h1, h1', if_false]
    by_cases h2 : i = j
    · subst h2; simp [hi]
    · have h2' : ¬ j = i := fun e => h2 e.symm
      simp only [h2, h2', if_false]

theorem sw_perm {l : List (En α)} {i k : Nat} {a b : En α} (ha : l[i]? = some a) (hb : l[k]? = some b) : (sw l i k a b).Perm l := by
  obtain ⟨hi, rfl⟩ := List.getElem?_eq_some_iff.1 ha
  obtain ⟨hk, rfl⟩ := List.getElem?_eq_some_iff.1 hb
  have h := Array.swap_perm (xs := l.toArray) (i := i) (j := k) (by simpa using hi) (by simpa using hk)
  have h2 := Array.perm_iff_toList_perm.1 h
  simpa [sw, Array.swap] using h2

/-! ### Pushing -/

def Rise (key : α → Int) (i : Nat) (l : List (En α)) : Prop :=
  (∀ j a b, 0 < j → j ≠ i → l[j]? = some b → l[(j - 1) / 2]? = some a → leE key a b) ∧
  (∀ j a b, 0 < j → 0 < i → (j - 1) / 2 = i → l[j]? = some b → l[(i - 1) / 2]? = some a → leE key a b)

theorem Rise.start {l : List (En α)} (h : HeapL key l) (e : En α) : Rise key l.length (l ++ [e]) := by
  refine ⟨fun j a b hj hne hb ha => ?_, fun j a b hj hi hp hb _ => ?_⟩
  · have hjl : j < l.length := by
      have := (List.getElem?_eq_some_iff.1 hb).1
      rw [List.length_append, List.length_singleton] at this; omega
    rw [List.getElem?_append_left hjl] at hb
    rw [List.getElem?_append_left (by omega)] at ha
    exact h j a b hj hb ha
  · have := (List.getElem?_eq_some_iff.1 hb).1
    rw [List.length_append, List.length_singleton] at this; omega

theorem Rise.step {l : List (En α)} {i : Nat} {a b : En α} (hU : Rise key i l) (hi : 0 < i) (ha : l[i]? = some a) (hb : l[(i - 1) / 2]? = some b) (hab : aheadE key a b = true) : Rise key ((i - 1) / 2) (sw l i ((i - 1) / 2) a b) := by
  have hg := sw_get ha hb
  have hle := ahead_le hab
  obtain ⟨u1, u2⟩ := hU
  refine ⟨fun j x y hj hne hy hx => ?_, fun j x y hj hp0 hp hy hx => ?_⟩
  · rw [hg, if_neg hne] at hy
    rw [hg] at hx
    by_cases h1 : j = i
    · subst h1
      rw [if_pos rfl] at hy hx
      cases hy; cases hx; exact hle
    · rw [if_neg h1] at hy
      by_cases h2 : (j - 1) / 2 = (i - 1) / 2
      · rw [if_pos h2] at hx; cases hx
        exact hle.trans (u1 j b y hj h1 hy (by rw [h2]; exact hb))
      · rw [if_neg h2] at hx
        by_cases h3 : (j - 1) / 2 = i
        · rw [if_pos h3] at hx; cases hx
          exact u2 j b y hj hi h3 hy hb
        · rw [if_neg h3] at hx
          exact u1 j x y hj h1 hy hx
  · rw [hg] at hx hy
    rw [if_neg (by omega), if_neg (by omega)] at hx
    have hxb : leE key x b := u1 ((i - 1) / 2) x b hp0 (by omega) hb hx
    rw [if_neg (by omega)] at hy
    by_cases h1 : j = i
    · rw [if_pos h1] at hy; cases hy; exact hxb
    · rw [if_neg h1] at hy
      exact hxb.trans (u1 j b y hj h1 hy (by rw [hp]; exact hb))

theorem Rise.done {l : List (En α)} {i : Nat} (hU : Rise key i l) (h : 0 < i → ∀ a b, l[i]? = some a → l[(i - 1) / 2]? = some b → aheadE key a b = false) : HeapL key l := by
  intro j a b hj hb ha
  by_cases h1 : j = i
  · subst h1; exact h hj b a hb ha
  · exact hU.1 j a b hj h1 hb ha

/-! ### Popping -/

def Sink (key : α → Int) (i : Nat) (l : List (En α)) : Prop :=
  (∀ j a b, 0 < j → (j - 1) / 2 ≠ i → l[j]? = some b → l[(j - 1) / 2]? = some a → leE key a b) ∧
  (∀ j a b, 0 < j → 0 < i → (j - 1) / 2 = i → l[j]? = some b → l[(i - 1) / 2]? = some a → leE key a b)

/-- the last one in the first one's place -/
theorem Sink.start {l : List (En α)} (h : HeapL key l) {n : Nat} {a b : En α} (hn : l.length = n + 1) (ha : l[0]? = some a) (hb : l[n]? = some b) : Sink key 0 ((sw l 0 n a b).take n) := by
  have hg := sw_get ha hb
  refine ⟨fun j x y hj hne hy hx => ?_, fun j x y _ h0 => absurd h0 (by omega)⟩
  rw [List.getElem?_take] at hx hy
  split at hy
  · rename_i hjn
    rw [if_pos (by omega), hg, if_neg (by omega), if_neg hne] at hx
    rw [hg, if_neg (by omega), if_neg (by omega)] at hy
    exact h j x y hj hy hx
  · cases hy

theorem Sink.step {l : List (En α)} {i c : Nat} {a b : En α} (hD : Sink key i l) (hc0 : 0 < c) (hc : (c - 1) / 2 = i) (ha : l[i]? = some a) (hb : l[c]? = some b) (hba : leE key b a)
    (hmin : ∀ j y, 0 < j → (j - 1) / 2 = i → l[j]? = some y → leE key b y) : Sink key c (sw l i c a b) := by
  have hg := sw_get ha hb
  obtain ⟨d1, d2⟩ := hD
  refine ⟨fun j x y hj hne hy hx => ?_, fun j x y hj hp0 hp hy hx => ?_⟩
  · rw [hg] at hy hx
    rw [if_neg hne] at hx
    by_cases h1 : j = c
    · rw [if_pos h1] at hy; cases hy
      rw [h1, if_pos hc] at hx; cases hx
      exact hba
    · rw [if_neg h1] at hy
      by_cases h2 : j = i
      · rw [if_pos h2] at hy; cases hy
        rw [if_neg (by omega)] at hx
        subst h2
        exact d2 c x b hc0 hj hc hb hx
      · rw [if_neg h2] at hy
        by_cases h3 : (j - 1) / 2 = i
        · rw [if_pos h3] at hx; cases hx
          exact hmin j y hj h3 hy
        · rw [if_neg h3] at hx
          exact d1 j x y hj h3 hy hx
  · rw [hg] at hy hx
    rw [hc, if_neg (by omega), if_pos rfl] at hx; cases hx
    rw [if_neg (by omega), if_neg (by omega)] at hy
    exact d1 j b y hj (by omega) hy (by rw [hp]; exact hb)

theorem Sink.done {l : List (En α)} {i : Nat} (hD : Sink key i l) (h : ∀ a b j, 0 < j → (j - 1) / 2 = i → l[i]? = some a → l[j]? = some b → leE key a b) : HeapL key l := by
  intro j a b hj hb ha
  by_cases h1 : (j - 1) / 2 = i
  · exact h a b j hj h1 (by rw [← h1]; exact ha) hb
  · exact hD.1 j a b hj h1 hb ha

def flessE (key : α → Int) (a b : En α) : Bool := decide (key a.x < key b.x) || (!decide (key b.x < key a.x) && decide ((a.row : Int) < (b.row : Int)))

theorem ahead_fless (a b : En α) : aheadE key a b = (flessE key a b || (!flessE key b a && decide ((a.turn : Int) < (b.turn : Int)))) := by
  unfold aheadE flessE
  rw [Bool.eq_iff_iff]
  simp only [decide_eq_true_eq, Bool.or_eq_true, Bool.and_eq_true, Bool.not_eq_true', decide_eq_false_iff_not, Bool.or_eq_false_iff, Bool.and_eq_false_iff, Bool.not_eq_false']
  omega

end

/-! ### Rows of elements of k cells -/

section

variable {β : Type} {f : β → List AV} {k : Nat}

theorem flatk_len (hf : ∀ b, (f b).length = k) (l : List β) : (l.flatMap f).length = l.length * k := by
  induction l with
  | nil => simp
  | cons b l ih => simp only [List.flatMap_cons, List.length_append, hf, ih, List.length_cons, Nat.add_mul]; omega

theorem flatk_take (hf : ∀ b, (f b).length = k) : ∀ (l : List β) (n : Nat), (l.flatMap f).take (n * k) = (l.take n).flatMap f
  | [], n => by simp
  | b :: l, 0 => by simp
  | b :: l, n + 1 => by
    have e : (n + 1) * k = (f b).length + n * k := by rw [hf, Nat.add_mul]; omega
    rw [List.flatMap_cons, e, List.take_length_add_append, flatk_take hf l n, List.take_succ_cons, List.flatMap_cons]

theorem flatk_drop (hf : ∀ b, (f b).length = k) : ∀ (l : List β) (n : Nat), (l.flatMap f).drop (n * k) = (l.drop n).flatMap f
  | [], n => by simp
  | b :: l, 0 => by simp
  | b :: l, n + 1 => by
    have e : (n + 1) * k = (f b).length + n * k := by rw [hf, Nat.add_mul]; omega
    rw [List.flatMap_cons, e, List.drop_length_add_append, flatk_drop hf l n, List.drop_succ_cons]

theorem rowk_get (hf : ∀ b, (f b).length = k) {l : List β} {cs : List AV} (hc : cs.take (l.length * k) = l.flatMap f) (hl : l.length * k ≤ cs.length) {i : Nat} {x : β} (hi : l[i]? = some x) :
    i * k + k ≤ cs.length ∧ (cs.drop (i * k)).take k = f x := by
  obtain ⟨hil, rfl⟩ := List.getElem?_eq_some_iff.1 hi
  have hm : (i + 1) * k ≤ l.length * k := Nat.mul_le_mul_right _ hil
  rw [Nat.add_mul, Nat.one_mul] at hm
  refine ⟨by omega, ?_⟩
  have e1 : (cs.drop (i * k)).take k = ((cs.take (l.length * k)).drop (i * k)).take k := by
    rw [List.drop_take, List.take_take, Nat.min_eq_left (by omega)]
  rw [e1, hc, flatk_drop hf, List.drop_eq_getElem_cons hil, List.flatMap_cons, List.take_append_of_le_length (by rw [hf]; exact Nat.le_refl _), List.take_of_length_le (by rw [hf]; exact Nat.le_refl _)]

theorem rowk_set (hf : ∀ b, (f b).length = k) {l : List β} {cs : List AV} (hc : cs.take (l.length * k) = l.flatMap f) (hl : l.length * k ≤ cs.length) {i : Nat} (hi : i < l.length) (x : β) :
    (splice cs (i * k) (f x)).length = cs.length ∧ (splice cs (i * k) (f x)).take (l.length * k) = (l.set i x).flatMap f := by
  have hm : (i + 1) * k ≤ l.length * k := Nat.mul_le_mul_right _ hi
  rw [Nat.add_mul, Nat.one_mul] at hm
  have hlen : (splice cs (i * k) (f x)).length = cs.length := by
    unfold splice; simp only [List.length_append, List.length_take, List.length_drop, hf]; omega
  refine ⟨hlen, ?_⟩
  have e1 : (splice cs (i * k) (f x)).take (l.length * k) = splice (cs.take (l.length * k)) (i * k) (f x) := by
    unfold splice
    rw [hf, List.take_take, Nat.min_eq_left (by omega), List.drop_take, List.take_append, List.take_of_length_le (by simp only [List.length_append, List.length_take, hf]; omega)]
    congr 2
    simp only [List.length_append, List.length_take, hf]; omega
  rw [e1, hc]
  unfold splice
  have e2 : i * k + (f x).length = (i + 1) * k := by rw [hf, Nat.add_mul]; omega
  rw [e2, flatk_take hf, flatk_drop hf, List.set_eq_take_append_cons_drop, if_pos hi, List.flatMap_append, List.flatMap_cons, List.append_assoc]

end

end Go.VL

namespace Go.VL

open Go.Proofs

abbrev n_hnewO : Nat := 102

def c_hnewO : C := (.seq (.reg [⟨(some 2), (.mv (.c .nilp)), none⟩]) (.seq (.reg [⟨(some 3), (.mv (.t 0)), none⟩, ⟨(some 4), (.build [.nilf, (.sl [] .nil), (.int .i64 0)] [(0, (1, (.t 3)))]), none⟩, ⟨(some 5), (.box (.t 4)), none⟩, ⟨(some 2), (.mv (.t 5)), none⟩]) .ret))

set_option maxRecDepth 100000 in
theorem k_hnewO : compileC Try.prog ann (Try.f102.body.getD .skip) = some c_hnewO := by kernel_rfl

theorem s_hnewO {args : List AV} {σ : St} {K : AV → St → Prop} (h : WF σ → T Try.prog ann c_hnewO (Fin σ [(.t 2)] K) (args ++ List.replicate (6 - args.length) (.tup [])) σ) : ACalls Try.prog n_hnewO args σ K :=
  calls_ok Try.func102 (by kernel_rfl) (by kernel_rfl) k_hnewO (by kernel_rfl) (by kernel_rfl) h

abbrev ann_haheadO : Ann := { errs := [(31, .i64)], loc := [(1, 16), (1, 17)], chk := [(1, 3), (1, 6), (1, 10), (1, 13)] }

abbrev n_haheadO : Nat := 144

def c_haheadO : C := (.seq (.reg [⟨(some 6), (.mv (.c (.bool false))), none⟩]) (.seq (.reg [⟨(some 9), (.mv (.t 0)), none⟩, ⟨(some 10), (.nilCheck (.t 9)), none⟩, ⟨(some 11), (.faddr 1 (.t 10)), none⟩, ⟨(some 12), (.qload 3 none (.t 11)), none⟩, ⟨(some 13), (.mv (.t 1)), none⟩, ⟨(some 14), (.iaddr 5 (.t 12) (.t 13)), none⟩, ⟨(some 15), (.qload 6 (some 5) (.t 14)), none⟩, ⟨(some 16), (.mv (.t 0)), none⟩, ⟨(some 17), (.nilCheck (.t 16)), none⟩, ⟨(some 18), (.faddr 1 (.t 17)), none⟩, ⟨(some 19), (.qload 10 none (.t 18)), none⟩, ⟨(some 20), (.mv (.t 2)), none⟩, ⟨(some 21), (.iaddr 5 (.t 19) (.t 20)), none⟩, ⟨(some 22), (.qload 13 (some 5) (.t 21)), none⟩, ⟨(some 7), (.alloc [(.int .i64 0), (.int .i64 0), (.int .i64 0), (.int .i64 0), (.int .i64 0)]), none⟩, ⟨(some 8), (.alloc [(.int .i64 0), (.int .i64 0), (.int .i64 0), (.int .i64 0), (.int .i64 0)]), none⟩, ⟨none, (.lstore 16 5 (.t 7) (.t 15)), none⟩, ⟨none, (.lstore 17 5 (.t 8) (.t 22)), none⟩]) (.seq (.reg [⟨(some 23), (.mv (.t 0)), none⟩, ⟨(some 24), (.nilCheck (.t 23)), none⟩, ⟨(some 25), (.faddr 0 (.t 24)), none⟩, ⟨(some 26), (.load none (.t 25)), none⟩, ⟨(some 27), (.faddr 0 (.t 7)), none⟩, ⟨(some 28), (.load (some 4) (.t 27)), none⟩, ⟨(some 29), (.faddr 0 (.t 8)), none⟩, ⟨(some 30), (.load (some 4) (.t 29)), none⟩, ⟨(some 31), (.qcallv (.t 26) [(.t 28), (.t 30)]), none⟩, ⟨(some 32), (.mv (.t 31)), none⟩, ⟨(some 33), (.mv (.t 0)), (some (32, false))⟩, ⟨(some 34), (.nilCheck (.t 33)), (some (32, false))⟩, ⟨(some 35), (.faddr 0 (.t 34)), (some (32, false))⟩, ⟨(some 36), (.load none (.t 35)), (some (32, false))⟩, ⟨(some 37), (.faddr 0 (.t 8)), (some (32, false))⟩, ⟨(some 38), (.load (some 4) (.t 37)), (some (32, false))⟩, ⟨(some 39), (.faddr 0 (.t 7)), (some (32, false))⟩, ⟨(some 40), (.load (some 4) (.t 39)), (some (32, false))⟩, ⟨(some 41), (.qcallv (.t 36) [(.t 38), (.t 40)]), (some (32, false))⟩, ⟨(some 42), (.not (.t 41)), (some (32, false))⟩, ⟨(some 43), (.mv (.t 42)), (some (32, false))⟩, ⟨(some 44), (.faddr 4 (.t 7)), (some (43, true))⟩, ⟨(some 45), (.load none (.t 44)), (some (43, true))⟩, ⟨(some 46), (.faddr 4 (.t 8)), (some (43, true))⟩, ⟨(some 47), (.load none (.t 46)), (some (43, true))⟩, ⟨(some 48), (.bin .lss .i64 (.t 45) (.t 47)), (some (43, true))⟩, ⟨(some 49), (.pick (.t 43) (.t 48) (.c (.bool false))), (some (32, false))⟩, ⟨(some 50), (.pick (.t 32) (.c (.bool true)) (.t 49)), none⟩, ⟨(some 6), (.mv (.t 50)), none⟩]) .ret)))

set_option maxRecDepth 100000 in
theorem k_haheadO : compileC Try.prog ann_haheadO (Try.f144.body.getD .skip) = some c_haheadO := by kernel_rfl

theorem s_haheadO {args : List AV} {σ : St} {K : AV → St → Prop} (h : WF σ → T Try.prog ann_haheadO c_haheadO (Fin σ [(.t 6)] K) (args ++ List.replicate (51 - args.length) (.tup [])) σ) : ACalls Try.prog n_haheadO args σ K :=
  calls_ok Try.func144 (by kernel_rfl) (by kernel_rfl) k_haheadO (by kernel_rfl) (by kernel_rfl) h

abbrev n_hswapO : Nat := 145

def c_hswapO : C := (.reg [⟨(some 6), (.mv (.t 0)), none⟩, ⟨(some 7), (.nilCheck (.t 6)), none⟩, ⟨(some 8), (.faddr 1 (.t 7)), none⟩, ⟨(some 9), (.load none (.t 8)), none⟩, ⟨(some 10), (.mv (.t 1)), none⟩, ⟨(some 11), (.mv (.t 0)), none⟩, ⟨(some 12), (.nilCheck (.t 11)), none⟩, ⟨(some 13), (.faddr 1 (.t 12)), none⟩, ⟨(some 14), (.load none (.t 13)), none⟩, ⟨(some 15), (.mv (.t 2)), none⟩, ⟨(some 16), (.mv (.t 0)), none⟩, ⟨(some 17), (.nilCheck (.t 16)), none⟩, ⟨(some 18), (.faddr 1 (.t 17)), none⟩, ⟨(some 19), (.load none (.t 18)), none⟩, ⟨(some 20), (.mv (.t 2)), none⟩, ⟨(some 21), (.iaddr 5 (.t 19) (.t 20)), none⟩, ⟨(some 22), (.load (some 5) (.t 21)), none⟩, ⟨(some 23), (.mv (.t 0)), none⟩, ⟨(some 24), (.nilCheck (.t 23)), none⟩, ⟨(some 25), (.faddr 1 (.t 24)), none⟩, ⟨(some 26), (.load none (.t 25)), none⟩, ⟨(some 27), (.mv (.t 1)), none⟩, ⟨(some 28), (.iaddr 5 (.t 26) (.t 27)), none⟩, ⟨(some 29), (.load (some 5) (.t 28)), none⟩, ⟨(some 30), (.iaddr 5 (.t 9) (.t 10)), none⟩, ⟨none, (.store 5 (.t 30) (.t 22)), none⟩, ⟨(some 31), (.iaddr 5 (.t 14) (.t 15)), none⟩, ⟨none, (.store 5 (.t 31) (.t 29)), none⟩])

set_option maxRecDepth 100000 in
theorem k_hswapO : compileC Try.prog ann (Try.f145.body.getD .skip) = some c_hswapO := by kernel_rfl

theorem s_hswapO {args : List AV} {σ : St} {K : AV → St → Prop} (h : WF σ → T Try.prog ann c_hswapO (Fin σ [] K) (args ++ List.replicate (32 - args.length) (.tup [])) σ) : ACalls Try.prog n_hswapO args σ K :=
  calls_ok Try.func145 (by kernel_rfl) (by kernel_rfl) k_hswapO (by kernel_rfl) (by kernel_rfl) h

abbrev ann_hpushO : Ann := { errs := [(31, .i64)], hold := [(2, 12, .grow)] }

abbrev n_hpushO : Nat := 105

def c_hpushO : C := (.seq (.reg [⟨(some 3), (.box (.t 1)), none⟩]) (.seq (.reg [⟨(some 5), (.mv (.t 0)), none⟩, ⟨(some 6), (.nilCheck (.t 5)), none⟩, ⟨(some 7), (.faddr 2 (.t 6)), none⟩, ⟨(some 8), (.load none (.t 7)), none⟩, ⟨(some 9), (.bin .add .i64 (.t 8) (.c (.int .i64 1))), none⟩, ⟨(some 10), (.nilCheck (.t 5)), none⟩, ⟨(some 11), (.faddr 2 (.t 10)), none⟩, ⟨none, (.store 1 (.t 11) (.t 9)), none⟩]) (.seq (.reg [⟨(some 12), (.mv (.t 0)), none⟩, ⟨(some 13), (.mv (.t 0)), none⟩, ⟨(some 14), (.nilCheck (.t 13)), none⟩, ⟨(some 15), (.faddr 1 (.t 14)), none⟩, ⟨(some 16), (.load none (.t 15)), none⟩, ⟨(some 17), (.load (some 4) (.t 3)), none⟩, ⟨(some 18), (.mv (.t 0)), none⟩, ⟨(some 19), (.nilCheck (.t 18)), none⟩, ⟨(some 20), (.faddr 2 (.t 19)), none⟩, ⟨(some 21), (.load none (.t 20)), none⟩, ⟨(some 22), (.build [(.int .i64 0), (.int .i64 0), (.int .i64 0), (.int .i64 0), (.int .i64 0)] [(0, (4, (.t 17))), (4, (1, (.t 21)))]), none⟩, ⟨(some 23), (.bslice 5 .val [(.t 22)]), none⟩, ⟨(some 24), (.appR 5 40 (.t 16) (.t 23)), none⟩, ⟨(some 25), (.nilCheck (.t 12)), none⟩, ⟨(some 26), (.faddr 1 (.t 25)), none⟩, ⟨none, (.store 1 (.t 26) (.t 24)), none⟩]) (.seq (.reg [⟨(some 27), (.mv (.t 0)), none⟩, ⟨(some 28), (.nilCheck (.t 27)), none⟩, ⟨(some 29), (.faddr 1 (.t 28)), none⟩, ⟨(some 30), (.load none (.t 29)), none⟩, ⟨(some 31), (.len (.t 30)), none⟩, ⟨(some 32), (.bin .sub .i64 (.t 31) (.c (.int .i64 1))), none⟩, ⟨(some 4), (.mv (.t 32)), none⟩]) (.block 0 (.loop (.seq (.seq (.reg [⟨(some 33), (.mv (.t 4)), none⟩, ⟨(some 34), (.bin .gtr .i64 (.t 33) (.c (.int .i64 0))), none⟩, ⟨(some 35), (.mv (.t 34)), none⟩, ⟨(some 36), (.mv (.t 0)), (some (35, true))⟩, ⟨(some 37), (.mv (.t 4)), (some (35, true))⟩, ⟨(some 38), (.mv (.t 4)), (some (35, true))⟩, ⟨(some 39), (.bin .sub .i64 (.t 38) (.c (.int .i64 1))), (some (35, true))⟩, ⟨(some 40), (.bin .quo .i64 (.t 39) (.c (.int .i64 2))), (some (35, true))⟩, ⟨(some 41), (.call 144 [(.t 36), (.t 37), (.t 40)]), (some (35, true))⟩, ⟨(some 42), (.pick (.t 35) (.t 41) (.c (.bool false))), none⟩]) (.cond (.t 42) .skip (.exit 0))) (.seq (.block 1 (.reg [⟨(some 46), (.mv (.t 0)), none⟩, ⟨(some 47), (.mv (.t 4)), none⟩, ⟨(some 48), (.mv (.t 4)), none⟩, ⟨(some 49), (.bin .sub .i64 (.t 48) (.c (.int .i64 1))), none⟩, ⟨(some 50), (.bin .quo .i64 (.t 49) (.c (.int .i64 2))), none⟩, ⟨(some 51), (.call 145 [(.t 46), (.t 47), (.t 50)]), none⟩])) (.reg [⟨(some 43), (.mv (.t 4)), none⟩, ⟨(some 44), (.bin .sub .i64 (.t 43) (.c (.int .i64 1))), none⟩, ⟨(some 45), (.bin .quo .i64 (.t 44) (.c (.int .i64 2))), none⟩, ⟨(some 4), (.mv (.t 45)), none⟩])))))))))

set_option maxRecDepth 100000 in
theorem k_hpushO : compileC Try.prog ann_hpushO (Try.f105.body.getD .skip) = some c_hpushO := by kernel_rfl

theorem s_hpushO {args : List AV} {σ : St} {K : AV → St → Prop} (h : WF σ → T Try.prog ann_hpushO c_hpushO (Fin σ [] K) (args ++ List.replicate (52 - args.length) (.tup [])) σ) : ACalls Try.prog n_hpushO args σ K :=
  calls_ok Try.func105 (by kernel_rfl) (by kernel_rfl) k_hpushO (by kernel_rfl) (by kernel_rfl) h

abbrev n_hpeekO : Nat := 146

def c_hpeekO : C := (.seq (.reg [⟨(some 2), (.alloc [(.int .i64 0), (.int .i64 0), (.int .i64 0), (.int .i64 0)]), none⟩, ⟨(some 3), (.mv (.c (.bool false))), none⟩]) (.seq (.seq (.reg [⟨(some 5), (.mv (.t 0)), none⟩, ⟨(some 6), (.nilCheck (.t 5)), none⟩, ⟨(some 7), (.faddr 1 (.t 6)), none⟩, ⟨(some 8), (.load none (.t 7)), none⟩, ⟨(some 9), (.len (.t 8)), none⟩, ⟨(some 10), (.bin .eql .i64 (.t 9) (.c (.int .i64 0))), none⟩]) (.cond (.t 10) (.seq (.reg [⟨(some 4), (.alloc [(.int .i64 0), (.int .i64 0), (.int .i64 0), (.int .i64 0)]), none⟩]) (.seq (.reg [⟨(some 11), (.load (some 4) (.t 4)), none⟩, ⟨none, (.store 4 (.t 2) (.t 11)), none⟩, ⟨(some 3), (.mv (.c (.bool false))), none⟩]) .ret)) .skip)) (.seq (.reg [⟨(some 12), (.mv (.t 0)), none⟩, ⟨(some 13), (.nilCheck (.t 12)), none⟩, ⟨(some 14), (.faddr 1 (.t 13)), none⟩, ⟨(some 15), (.load none (.t 14)), none⟩, ⟨(some 16), (.iaddr 5 (.t 15) (.c (.int .i64 0))), none⟩, ⟨(some 17), (.faddr 0 (.t 16)), none⟩, ⟨(some 18), (.load (some 4) (.t 17)), none⟩, ⟨none, (.store 4 (.t 2) (.t 18)), none⟩, ⟨(some 3), (.mv (.c (.bool true))), none⟩]) .ret)))

set_option maxRecDepth 100000 in
theorem k_hpeekO : compileC Try.prog ann (Try.f146.body.getD .skip) = some c_hpeekO := by kernel_rfl

theorem s_hpeekO {args : List AV} {σ : St} {K : AV → St → Prop} (h : WF σ → T Try.prog ann c_hpeekO (Fin σ [(.cell 2 (some 4)), (.t 3)] K) (args ++ List.replicate (19 - args.length) (.tup [])) σ) : ACalls Try.prog n_hpeekO args σ K :=
  calls_ok Try.func146 (by kernel_rfl) (by kernel_rfl) k_hpeekO (by kernel_rfl) (by kernel_rfl) h

abbrev n_hpopO : Nat := 106

def c_hpopO : C := (.seq (.reg [⟨(some 2), (.alloc [(.int .i64 0), (.int .i64 0), (.int .i64 0), (.int .i64 0)]), none⟩, ⟨(some 3), (.mv (.c (.bool false))), none⟩]) (.seq (.reg [⟨(some 11), (.mv (.t 0)), none⟩, ⟨(some 12), (.call 146 [(.t 11)]), none⟩, ⟨(some 10), (.mv (.t 12)), none⟩, ⟨(some 13), (.ext (.t 10) 0), none⟩, ⟨(some 14), (.ext (.t 10) 1), none⟩, ⟨(some 4), (.alloc [(.int .i64 0), (.int .i64 0), (.int .i64 0), (.int .i64 0)]), none⟩, ⟨none, (.store 4 (.t 4) (.t 13)), none⟩, ⟨(some 5), (.mv (.t 14)), none⟩]) (.seq (.seq (.reg [⟨(some 15), (.mv (.t 5)), none⟩, ⟨(some 16), (.not (.t 15)), none⟩]) (.cond (.t 16) (.seq (.reg [⟨(some 17), (.load (some 4) (.t 4)), none⟩, ⟨none, (.store 4 (.t 2) (.t 17)), none⟩, ⟨(some 3), (.mv (.c (.bool false))), none⟩]) .ret) .skip)) (.seq (.reg [⟨(some 18), (.mv (.t 0)), none⟩, ⟨(some 19), (.nilCheck (.t 18)), none⟩, ⟨(some 20), (.faddr 1 (.t 19)), none⟩, ⟨(some 21), (.load none (.t 20)), none⟩, ⟨(some 22), (.len (.t 21)), none⟩, ⟨(some 23), (.bin .sub .i64 (.t 22) (.c (.int .i64 1))), none⟩, ⟨(some 6), (.mv (.t 23)), none⟩]) (.seq (.reg [⟨(some 24), (.mv (.t 0)), none⟩, ⟨(some 25), (.mv (.t 6)), none⟩, ⟨(some 26), (.call 145 [(.t 24), (.c (.int .i64 0)), (.t 25)]), none⟩]) (.seq (.reg [⟨(some 27), (.mv (.t 0)), none⟩, ⟨(some 28), (.mv (.t 0)), none⟩, ⟨(some 29), (.nilCheck (.t 28)), none⟩, ⟨(some 30), (.faddr 1 (.t 29)), none⟩, ⟨(some 31), (.load none (.t 30)), none⟩, ⟨(some 32), (.mv (.t 6)), none⟩, ⟨(some 33), (.slice 5 (.t 31) none (some (.t 32))), none⟩, ⟨(some 34), (.nilCheck (.t 27)), none⟩, ⟨(some 35), (.faddr 1 (.t 34)), none⟩, ⟨none, (.store 1 (.t 35) (.t 33)), none⟩]) (.seq (.reg [⟨(some 7), (.mv (.c (.int .i64 0))), none⟩]) (.block 0 (.loop (.block 1 (.seq (.reg [⟨(some 36), (.mv (.t 7)), none⟩, ⟨(some 8), (.mv (.t 36)), none⟩]) (.seq (.seq (.reg [⟨(some 37), (.mv (.t 7)), none⟩, ⟨(some 38), (.bin .mul .i64 (.c (.int .i64 2)) (.t 37)), none⟩, ⟨(some 39), (.bin .add .i64 (.t 38) (.c (.int .i64 1))), none⟩, ⟨(some 9), (.mv (.t 39)), none⟩]) (.block 2 (.loop (.seq (.seq (.reg [⟨(some 40), (.mv (.t 9)), none⟩, ⟨(some 41), (.mv (.t 7)), none⟩, ⟨(some 42), (.bin .mul .i64 (.c (.int .i64 2)) (.t 41)), none⟩, ⟨(some 43), (.bin .add .i64 (.t 42) (.c (.int .i64 3))), none⟩, ⟨(some 44), (.mv (.t 6)), none⟩, ⟨(some 45), (.mn [(.t 43), (.t 44)]), none⟩, ⟨(some 46), (.bin .lss .i64 (.t 40) (.t 45)), none⟩]) (.cond (.t 46) .skip (.exit 2))) (.seq (.block 3 (.seq (.reg [⟨(some 49), (.mv (.t 0)), none⟩, ⟨(some 50), (.mv (.t 9)), none⟩, ⟨(some 51), (.mv (.t 8)), none⟩, ⟨(some 52), (.call 144 [(.t 49), (.t 50), (.t 51)]), none⟩]) (.cond (.t 52) (.reg [⟨(some 53), (.mv (.t 9)), none⟩, ⟨(some 8), (.mv (.t 53)), none⟩]) .skip))) (.reg [⟨(some 47), (.mv (.t 9)), none⟩, ⟨(some 48), (.bin .add .i64 (.t 47) (.c (.int .i64 1))), none⟩, ⟨(some 9), (.mv (.t 48)), none⟩])))))) (.seq (.seq (.reg [⟨(some 54), (.mv (.t 8)), none⟩, ⟨(some 55), (.mv (.t 7)), none⟩, ⟨(some 56), (.bin .eql .i64 (.t 54) (.t 55)), none⟩]) (.cond (.t 56) (.seq (.reg [⟨(some 57), (.load (some 4) (.t 4)), none⟩, ⟨none, (.store 4 (.t 2) (.t 57)), none⟩, ⟨(some 3), (.mv (.c (.bool true))), none⟩]) .ret) .skip)) (.seq (.reg [⟨(some 58), (.mv (.t 0)), none⟩, ⟨(some 59), (.mv (.t 7)), none⟩, ⟨(some 60), (.mv (.t 8)), none⟩, ⟨(some 61), (.call 145 [(.t 58), (.t 59), (.t 60)]), none⟩]) (.reg [⟨(some 62), (.mv (.t 8)), none⟩, ⟨(some 7), (.mv (.t 62)), none⟩])))))))))))))))

set_option maxRecDepth 100000 in
theorem k_hpopO : compileC Try.prog ann (Try.f106.body.getD .skip) = some c_hpopO := by kernel_rfl

theorem s_hpopO {args : List AV} {σ : St} {K : AV → St → Prop} (h : WF σ → T Try.prog ann c_hpopO (Fin σ [(.cell 2 (some 4)), (.t 3)] K) (args ++ List.replicate (63 - args.length) (.tup [])) σ) : ACalls Try.prog n_hpopO args σ K :=
  calls_ok Try.func106 (by kernel_rfl) (by kernel_rfl) k_hpopO (by kernel_rfl) (by kernel_rfl) h

abbrev n_ksortO : Nat := 59

def c_ksortO : C := (.seq (.reg [⟨(some 2), (.box (.t 0)), none⟩, ⟨(some 3), (.box (.t 1)), none⟩, ⟨(some 4), (.mv (.c (.sl [] .nil))), none⟩]) (.seq (.reg [⟨(some 12), (.mkF 103 [] [(.t 3)]), none⟩, ⟨(some 13), (.call 102 [(.t 12)]), none⟩, ⟨(some 5), (.alloc [.nilp]), none⟩, ⟨none, (.store 1 (.t 5) (.t 13)), none⟩]) (.seq (.reg [⟨(some 14), (.load none (.t 2)), none⟩, ⟨(some 15), (.len (.t 14)), none⟩, ⟨(some 16), (.mkS 1 8 .own (.int .i64 0) (.t 15) (.t 15)), none⟩, ⟨(some 6), (.alloc [(.sl [] .nil)]), none⟩, ⟨none, (.store 1 (.t 6) (.t 16)), none⟩]) (.seq (.reg [⟨(some 17), (.mkF 104 [] [(.t 6), (.t 2), (.t 5)]), none⟩, ⟨(some 7), (.mv (.t 17)), none⟩]) (.seq (.seq (.reg [⟨(some 18), (.load none (.t 2)), none⟩, ⟨(some 19), (.len (.t 18)), none⟩, ⟨(some 20), (.mv (.c (.int .i64 0))), none⟩]) (.block 0 (.loop (.seq (.reg [⟨(some 21), (.bin .lss .i64 (.t 20) (.t 19)), none⟩]) (.seq (.cond (.t 21) .skip (.exit 0)) (.seq (.block 1 (.seq (.reg [⟨(some 22), (.mv (.t 20)), none⟩, ⟨(some 8), (.mv (.t 22)), none⟩]) (.reg [⟨(some 23), (.mv (.t 7)), none⟩, ⟨(some 24), (.mv (.t 8)), none⟩, ⟨(some 25), (.callv (.t 23) [(.t 24)]), none⟩]))) (.reg [⟨(some 26), (.bin .add .i64 (.t 20) (.c (.int .i64 1))), none⟩, ⟨(some 20), (.mv (.t 26)), none⟩]))))))) (.seq (.reg [⟨(some 9), (.mv (.c (.sl [] .nil))), none⟩]) (.block 2 (.loop (.block 3 (.seq (.reg [⟨(some 28), (.load none (.t 5)), none⟩, ⟨(some 29), (.call 106 [(.t 28)]), none⟩, ⟨(some 27), (.mv (.t 29)), none⟩, ⟨(some 30), (.ext (.t 27) 0), none⟩, ⟨(some 31), (.ext (.t 27) 1), none⟩, ⟨(some 10), (.alloc [(.int .i64 0), (.int .i64 0), (.int .i64 0), (.int .i64 0)]), none⟩, ⟨none, (.store 4 (.t 10) (.t 30)), none⟩, ⟨(some 11), (.mv (.t 31)), none⟩]) (.seq (.seq (.reg [⟨(some 32), (.mv (.t 11)), none⟩, ⟨(some 33), (.not (.t 32)), none⟩]) (.cond (.t 33) (.seq (.reg [⟨(some 34), (.mv (.t 9)), none⟩, ⟨(some 4), (.mv (.t 34)), none⟩]) .ret) .skip)) (.seq (.reg [⟨(some 35), (.mv (.t 9)), none⟩, ⟨(some 36), (.faddr 0 (.t 10)), none⟩, ⟨(some 37), (.load (some 3) (.t 36)), none⟩, ⟨(some 38), (.bslice 3 .val [(.t 37)]), none⟩, ⟨(some 39), (.app 3 24 .tip (.t 35) (.t 38)), none⟩, ⟨(some 9), (.mv (.t 39)), none⟩]) (.reg [⟨(some 40), (.mv (.t 7)), none⟩, ⟨(some 41), (.faddr 3 (.t 10)), none⟩, ⟨(some 42), (.load none (.t 41)), none⟩, ⟨(some 43), (.callv (.t 40) [(.t 42)]), none⟩])))))))))))))

set_option maxRecDepth 100000 in
theorem k_ksortO : compileC Try.prog ann (Try.f59.body.getD .skip) = some c_ksortO := by kernel_rfl

theorem s_ksortO {args : List AV} {σ : St} {K : AV → St → Prop} (h : WF σ → T Try.prog ann c_ksortO (Fin σ [(.t 4)] K) (args ++ List.replicate (44 - args.length) (.tup [])) σ) : ACalls Try.prog n_ksortO args σ K :=
  calls_ok Try.func59 (by kernel_rfl) (by kernel_rfl) k_ksortO (by kernel_rfl) (by kernel_rfl) h

abbrev n_klessO : Nat := 103

def c_klessO : C := (.seq (.reg [⟨(some 3), (.box (.t 0)), none⟩, ⟨(some 4), (.box (.t 1)), none⟩, ⟨(some 5), (.mv (.c (.bool false))), none⟩]) (.seq (.reg [⟨(some 6), (.load none (.t 2)), none⟩, ⟨(some 7), (.faddr 0 (.t 3)), none⟩, ⟨(some 8), (.load (some 3) (.t 7)), none⟩, ⟨(some 9), (.faddr 0 (.t 4)), none⟩, ⟨(some 10), (.load (some 3) (.t 9)), none⟩, ⟨(some 11), (.callv (.t 6) [(.t 8), (.t 10)]), none⟩, ⟨(some 12), (.mv (.t 11)), none⟩, ⟨(some 13), (.load none (.t 2)), (some (12, false))⟩, ⟨(some 14), (.faddr 0 (.t 4)), (some (12, false))⟩, ⟨(some 15), (.load (some 3) (.t 14)), (some (12, false))⟩, ⟨(some 16), (.faddr 0 (.t 3)), (some (12, false))⟩, ⟨(some 17), (.load (some 3) (.t 16)), (some (12, false))⟩, ⟨(some 18), (.callv (.t 13) [(.t 15), (.t 17)]), (some (12, false))⟩, ⟨(some 19), (.not (.t 18)), (some (12, false))⟩, ⟨(some 20), (.mv (.t 19)), (some (12, false))⟩, ⟨(some 21), (.faddr 3 (.t 3)), (some (20, true))⟩, ⟨(some 22), (.load none (.t 21)), (some (20, true))⟩, ⟨(some 23), (.faddr 3 (.t 4)), (some (20, true))⟩, ⟨(some 24), (.load none (.t 23)), (some (20, true))⟩, ⟨(some 25), (.bin .lss .i64 (.t 22) (.t 24)), (some (20, true))⟩, ⟨(some 26), (.pick (.t 20) (.t 25) (.c (.bool false))), (some (12, false))⟩, ⟨(some 27), (.pick (.t 12) (.c (.bool true)) (.t 26)), none⟩, ⟨(some 5), (.mv (.t 27)), none⟩]) .ret))

set_option maxRecDepth 100000 in
theorem k_klessO : compileC Try.prog ann (Try.f103.body.getD .skip) = some c_klessO := by kernel_rfl

theorem s_klessO {args : List AV} {σ : St} {K : AV → St → Prop} (h : WF σ → T Try.prog ann c_klessO (Fin σ [(.t 5)] K) (args ++ List.replicate (28 - args.length) (.tup [])) σ) : ACalls Try.prog n_klessO args σ K :=
  calls_ok Try.func103 (by kernel_rfl) (by kernel_rfl) k_klessO (by kernel_rfl) (by kernel_rfl) h

abbrev ann_kpushO : Ann := { errs := [(31, .i64)], full := [(1, 13)] }

abbrev n_kpushO : Nat := 104

def c_kpushO : C := (.seq (.reg [⟨(some 5), (.load none (.t 1)), none⟩, ⟨(some 6), (.mv (.t 0)), none⟩, ⟨(some 7), (.iaddr 1 (.t 5) (.t 6)), none⟩, ⟨(some 8), (.load none (.t 7)), none⟩, ⟨(some 9), (.load none (.t 2)), none⟩, ⟨(some 10), (.mv (.t 0)), none⟩, ⟨(some 11), (.iaddr 1 (.t 9) (.t 10)), none⟩, ⟨(some 12), (.load none (.t 11)), none⟩, ⟨(some 13), (.len (.t 12)), none⟩, ⟨(some 14), (.bin .lss .i64 (.t 8) (.t 13)), none⟩]) (.cond (.t 14) (.seq (.reg [⟨(some 15), (.load none (.t 3)), none⟩, ⟨(some 16), (.load none (.t 2)), none⟩, ⟨(some 17), (.mv (.t 0)), none⟩, ⟨(some 18), (.iaddr 1 (.t 16) (.t 17)), none⟩, ⟨(some 19), (.load none (.t 18)), none⟩, ⟨(some 20), (.load none (.t 1)), none⟩, ⟨(some 21), (.mv (.t 0)), none⟩, ⟨(some 22), (.iaddr 1 (.t 20) (.t 21)), none⟩, ⟨(some 23), (.load none (.t 22)), none⟩, ⟨(some 24), (.iaddr 3 (.t 19) (.t 23)), none⟩, ⟨(some 25), (.load (some 3) (.t 24)), none⟩, ⟨(some 26), (.mv (.t 0)), none⟩, ⟨(some 27), (.build [(.int .i64 0), (.int .i64 0), (.int .i64 0), (.int .i64 0)] [(0, (3, (.t 25))), (3, (1, (.t 26)))]), none⟩, ⟨(some 28), (.call 105 [(.t 15), (.t 27)]), none⟩]) (.reg [⟨(some 29), (.load none (.t 1)), none⟩, ⟨(some 30), (.mv (.t 0)), none⟩, ⟨(some 31), (.iaddr 1 (.t 29) (.t 30)), none⟩, ⟨(some 32), (.load none (.t 31)), none⟩, ⟨(some 33), (.bin .add .i64 (.t 32) (.c (.int .i64 1))), none⟩, ⟨(some 34), (.iaddr 1 (.t 29) (.t 30)), none⟩, ⟨none, (.store 1 (.t 34) (.t 33)), none⟩])) .skip))

set_option maxRecDepth 100000 in
theorem k_kpushO : compileC Try.prog ann_kpushO (Try.f104.body.getD .skip) = some c_kpushO := by kernel_rfl

theorem s_kpushO {args : List AV} {σ : St} {K : AV → St → Prop} (h : WF σ → T Try.prog ann_kpushO c_kpushO (Fin σ [] K) (args ++ List.replicate (35 - args.length) (.tup [])) σ) : ACalls Try.prog n_kpushO args σ K :=
  calls_ok Try.func104 (by kernel_rfl) (by kernel_rfl) k_kpushO (by kernel_rfl) (by kernel_rfl) h

abbrev n_oless : Nat := 60

def c_oless : C := (.seq (.reg [⟨(some 2), (.box (.t 0)), none⟩, ⟨(some 3), (.box (.t 1)), none⟩, ⟨(some 4), (.mv (.c (.bool false))), none⟩]) (.seq (.reg [⟨(some 5), (.faddr 0 (.t 2)), none⟩, ⟨(some 6), (.load none (.t 5)), none⟩, ⟨(some 7), (.faddr 0 (.t 3)), none⟩, ⟨(some 8), (.load none (.t 7)), none⟩, ⟨(some 9), (.bin .lss .i64 (.t 6) (.t 8)), none⟩, ⟨(some 4), (.mv (.t 9)), none⟩]) .ret))

set_option maxRecDepth 100000 in
theorem k_oless : compileC Try.prog ann (Try.f60.body.getD .skip) = some c_oless := by kernel_rfl

theorem s_oless {args : List AV} {σ : St} {K : AV → St → Prop} (h : WF σ → T Try.prog ann c_oless (Fin σ [(.t 4)] K) (args ++ List.replicate (10 - args.length) (.tup [])) σ) : ACalls Try.prog n_oless args σ K :=
  calls_ok Try.func60 (by kernel_rfl) (by kernel_rfl) k_oless (by kernel_rfl) (by kernel_rfl) h

abbrev ann_kwaySorts : Ann := { errs := [(31, .i64)], hold := [(14, 0, .zero), (14, 4, .grow), (15, 10, .grow), (16, 4, .grow)] }

abbrev n_kwaySorts : Nat := 10

def c_kwaySorts : C := (.seq (.reg [⟨(some 2), (.mv (.c (.bool false))), none⟩]) (.seq (.reg [⟨(some 16), (.call 54 []), none⟩, ⟨(some 3), (.mv (.t 16)), none⟩]) (.seq (.reg [⟨(some 4), (.mv (.c (.sl [] .nil))), none⟩]) (.seq (.reg [⟨(some 5), (.mv (.c (.int .i64 0))), none⟩]) (.seq (.seq (.reg [⟨(some 6), (.mv (.c (.int .i64 0))), none⟩]) (.block 0 (.loop (.seq (.seq (.reg [⟨(some 17), (.mv (.t 6)), none⟩, ⟨(some 18), (.mv (.t 0)), none⟩, ⟨(some 19), (.len (.t 18)), none⟩, ⟨(some 20), (.bin .lss .i64 (.t 17) (.t 19)), none⟩]) (.cond (.t 20) .skip (.exit 0))) (.seq (.block 1 (.seq (.reg [⟨(some 7), (.mv (.c (.sl [] .nil))), none⟩]) (.seq (.seq (.reg [⟨(some 8), (.mv (.c (.int .i64 0))), none⟩]) (.block 2 (.loop (.seq (.seq (.reg [⟨(some 23), (.mv (.t 8)), none⟩, ⟨(some 24), (.mv (.t 0)), none⟩, ⟨(some 25), (.mv (.t 6)), none⟩, ⟨(some 26), (.iaddr 1 (.t 24) (.t 25)), none⟩, ⟨(some 27), (.load none (.t 26)), none⟩, ⟨(some 28), (.len (.t 27)), none⟩, ⟨(some 29), (.bin .lss .i64 (.t 23) (.t 28)), none⟩]) (.cond (.t 29) .skip (.exit 2))) (.seq (.block 3 (.seq (.reg [⟨(some 32), (.mv (.t 7)), none⟩, ⟨(some 33), (.len (.t 32)), none⟩, ⟨(some 9), (.mv (.t 33)), none⟩]) (.seq (.block 4 (.loop (.seq (.seq (.reg [⟨(some 34), (.mv (.t 9)), none⟩, ⟨(some 35), (.bin .gtr .i64 (.t 34) (.c (.int .i64 0))), none⟩, ⟨(some 36), (.mv (.t 35)), none⟩, ⟨(some 37), (.mv (.t 7)), (some (36, true))⟩, ⟨(some 38), (.mv (.t 9)), (some (36, true))⟩, ⟨(some 39), (.bin .sub .i64 (.t 38) (.c (.int .i64 1))), (some (36, true))⟩, ⟨(some 40), (.iaddr 3 (.t 37) (.t 39)), (some (36, true))⟩, ⟨(some 41), (.faddr 0 (.t 40)), (some (36, true))⟩, ⟨(some 42), (.load none (.t 41)), (some (36, true))⟩, ⟨(some 43), (.mv (.t 0)), (some (36, true))⟩, ⟨(some 44), (.mv (.t 6)), (some (36, true))⟩, ⟨(some 45), (.iaddr 1 (.t 43) (.t 44)), (some (36, true))⟩, ⟨(some 46), (.load none (.t 45)), (some (36, true))⟩, ⟨(some 47), (.mv (.t 8)), (some (36, true))⟩, ⟨(some 48), (.iaddr 1 (.t 46) (.t 47)), (some (36, true))⟩, ⟨(some 49), (.load none (.t 48)), (some (36, true))⟩, ⟨(some 50), (.bin .gtr .i64 (.t 42) (.t 49)), (some (36, true))⟩, ⟨(some 51), (.pick (.t 36) (.t 50) (.c (.bool false))), none⟩]) (.cond (.t 51) .skip (.exit 4))) (.block 5 (.reg [⟨(some 52), (.mv (.t 9)), none⟩, ⟨(some 53), (.bin .sub .i64 (.t 52) (.c (.int .i64 1))), none⟩, ⟨(some 9), (.mv (.t 53)), none⟩]))))) (.seq (.reg [⟨(some 54), (.bslice 3 .zero []), none⟩, ⟨(some 55), (.mv (.t 7)), none⟩, ⟨(some 56), (.mv (.t 9)), none⟩, ⟨(some 57), (.slice 3 (.t 55) none (some (.t 56))), none⟩, ⟨(some 58), (.appR 3 24 (.t 54) (.t 57)), none⟩, ⟨(some 10), (.mv (.t 58)), none⟩]) (.seq (.reg [⟨(some 59), (.mv (.t 10)), none⟩, ⟨(some 60), (.mv (.t 0)), none⟩, ⟨(some 61), (.mv (.t 6)), none⟩, ⟨(some 62), (.iaddr 1 (.t 60) (.t 61)), none⟩, ⟨(some 63), (.load none (.t 62)), none⟩, ⟨(some 64), (.mv (.t 8)), none⟩, ⟨(some 65), (.iaddr 1 (.t 63) (.t 64)), none⟩, ⟨(some 66), (.load none (.t 65)), none⟩, ⟨(some 67), (.build [(.int .i64 0), (.int .i64 0), (.int .i64 0)] [(0, (1, (.t 66)))]), none⟩, ⟨(some 68), (.bslice 3 .val [(.t 67)]), none⟩, ⟨(some 69), (.appR 3 24 (.t 59) (.t 68)), none⟩, ⟨(some 10), (.mv (.t 69)), none⟩]) (.reg [⟨(some 70), (.mv (.t 10)), none⟩, ⟨(some 71), (.mv (.t 7)), none⟩, ⟨(some 72), (.mv (.t 9)), none⟩, ⟨(some 73), (.slice 3 (.t 71) (some (.t 72)) none), none⟩, ⟨(some 74), (.appR 3 24 (.t 70) (.t 73)), none⟩, ⟨(some 7), (.mv (.t 74)), none⟩])))))) (.reg [⟨(some 30), (.mv (.t 8)), none⟩, ⟨(some 31), (.bin .add .i64 (.t 30) (.c (.int .i64 1))), none⟩, ⟨(some 8), (.mv (.t 31)), none⟩])))))) (.seq (.seq (.reg [⟨(some 11), (.mv (.c (.int .i64 0))), none⟩]) (.block 6 (.loop (.seq (.seq (.reg [⟨(some 75), (.mv (.t 11)), none⟩, ⟨(some 76), (.mv (.t 7)), none⟩, ⟨(some 77), (.len (.t 76)), none⟩, ⟨(some 78), (.bin .lss .i64 (.t 75) (.t 77)), none⟩]) (.cond (.t 78) .skip (.exit 6))) (.seq (.block 7 (.seq (.reg [⟨(some 81), (.mv (.t 7)), none⟩, ⟨(some 82), (.mv (.t 11)), none⟩, ⟨(some 83), (.mv (.t 6)), none⟩, ⟨(some 84), (.iaddr 3 (.t 81) (.t 82)), none⟩, ⟨(some 85), (.faddr 1 (.t 84)), none⟩, ⟨none, (.store 1 (.t 85) (.t 83)), none⟩]) (.reg [⟨(some 86), (.mv (.t 7)), none⟩, ⟨(some 87), (.mv (.t 11)), none⟩, ⟨(some 88), (.mv (.t 11)), none⟩, ⟨(some 89), (.iaddr 3 (.t 86) (.t 87)), none⟩, ⟨(some 90), (.faddr 2 (.t 89)), none⟩, ⟨none, (.store 1 (.t 90) (.t 88)), none⟩]))) (.reg [⟨(some 79), (.mv (.t 11)), none⟩, ⟨(some 80), (.bin .add .i64 (.t 79) (.c (.int .i64 1))), none⟩, ⟨(some 11), (.mv (.t 80)), none⟩])))))) (.seq (.reg [⟨(some 91), (.mv (.t 5)), none⟩, ⟨(some 92), (.mv (.t 7)), none⟩, ⟨(some 93), (.len (.t 92)), none⟩, ⟨(some 94), (.bin .add .i64 (.t 91) (.t 93)), none⟩, ⟨(some 5), (.mv (.t 94)), none⟩]) (.reg [⟨(some 95), (.mv (.t 4)), none⟩, ⟨(some 96), (.mv (.t 7)), none⟩, ⟨(some 97), (.bslice 1 .val [(.t 96)]), none⟩, ⟨(some 98), (.app 1 24 .tip (.t 95) (.t 97)), none⟩, ⟨(some 4), (.mv (.t 98)), none⟩])))))) (.reg [⟨(some 21), (.mv (.t 6)), none⟩, ⟨(some 22), (.bin .add .i64 (.t 21) (.c (.int .i64 1))), none⟩, ⟨(some 6), (.mv (.t 22)), none⟩])))))) (.seq (.seq (.reg [⟨(some 99), (.mv (.t 5)), none⟩, ⟨(some 100), (.bin .gtr .i64 (.t 99) (.c (.int .i64 200))), none⟩, ⟨(some 101), (.mv (.t 100)), none⟩, ⟨(some 102), (.mv (.t 0)), (some (101, false))⟩, ⟨(some 103), (.len (.t 102)), (some (101, false))⟩, ⟨(some 104), (.bin .gtr .i64 (.t 103) (.c (.int .i64 50))), (some (101, false))⟩, ⟨(some 105), (.pick (.t 101) (.c (.bool true)) (.t 104)), none⟩]) (.cond (.t 105) (.seq (.reg [⟨(some 106), (.mv (.t 3)), none⟩, ⟨(some 2), (.mv (.t 106)), none⟩]) .ret) .skip)) (.seq (.reg [⟨(some 107), (.mv (.t 4)), none⟩, ⟨(some 108), (.call 59 [(.t 107), (.c (.func 60 [] []))]), none⟩, ⟨(some 12), (.mv (.t 108)), none⟩]) (.seq (.seq (.reg [⟨(some 109), (.mv (.t 12)), none⟩, ⟨(some 110), (.len (.t 109)), none⟩, ⟨(some 111), (.mv (.t 5)), none⟩, ⟨(some 112), (.bin .neq .i64 (.t 110) (.t 111)), none⟩]) (.cond (.t 112) (.seq (.reg [⟨(some 2), (.mv (.c (.bool false))), none⟩]) .ret) .skip)) (.seq (.seq (.reg [⟨(some 13), (.mv (.c (.int .i64 1))), none⟩]) (.block 8 (.loop (.seq (.seq (.reg [⟨(some 113), (.mv (.t 13)), none⟩, ⟨(some 114), (.mv (.t 12)), none⟩, ⟨(some 115), (.len (.t 114)), none⟩, ⟨(some 116), (.bin .lss .i64 (.t 113) (.t 115)), none⟩]) (.cond (.t 116) .skip (.exit 8))) (.seq (.block 9 (.seq (.reg [⟨(some 119), (.mv (.t 12)), none⟩, ⟨(some 120), (.mv (.t 13)), none⟩, ⟨(some 121), (.bin .sub .i64 (.t 120) (.c (.int .i64 1))), none⟩, ⟨(some 122), (.iaddr 3 (.t 119) (.t 121)), none⟩, ⟨(some 123), (.load (some 3) (.t 122)), none⟩, ⟨(some 14), (.alloc [(.int .i64 0), (.int .i64 0), (.int .i64 0)]), none⟩, ⟨none, (.store 3 (.t 14) (.t 123)), none⟩]) (.seq (.reg [⟨(some 124), (.mv (.t 12)), none⟩, ⟨(some 125), (.mv (.t 13)), none⟩, ⟨(some 126), (.iaddr 3 (.t 124) (.t 125)), none⟩, ⟨(some 127), (.load (some 3) (.t 126)), none⟩, ⟨(some 15), (.alloc [(.int .i64 0), (.int .i64 0), (.int .i64 0)]), none⟩, ⟨none, (.store 3 (.t 15) (.t 127)), none⟩]) (.seq (.reg [⟨(some 128), (.faddr 0 (.t 14)), none⟩, ⟨(some 129), (.load none (.t 128)), none⟩, ⟨(some 130), (.faddr 0 (.t 15)), none⟩, ⟨(some 131), (.load none (.t 130)), none⟩, ⟨(some 132), (.bin .gtr .i64 (.t 129) (.t 131)), none⟩, ⟨(some 133), (.mv (.t 132)), none⟩, ⟨(some 134), (.faddr 0 (.t 14)), (some (133, false))⟩, ⟨(some 135), (.load none (.t 134)), (some (133, false))⟩, ⟨(some 136), (.faddr 0 (.t 15)), (some (133, false))⟩, ⟨(some 137), (.load none (.t 136)), (some (133, false))⟩, ⟨(some 138), (.bin .eql .i64 (.t 135) (.t 137)), (some (133, false))⟩, ⟨(some 139), (.mv (.t 138)), (some (133, false))⟩, ⟨(some 140), (.faddr 1 (.t 14)), (some (139, true))⟩, ⟨(some 141), (.load none (.t 140)), (some (139, true))⟩, ⟨(some 142), (.faddr 1 (.t 15)), (some (139, true))⟩, ⟨(some 143), (.load none (.t 142)), (some (139, true))⟩, ⟨(some 144), (.bin .gtr .i64 (.t 141) (.t 143)), (some (139, true))⟩, ⟨(some 145), (.mv (.t 144)), (some (139, true))⟩, ⟨(some 146), (.faddr 1 (.t 14)), (some (145, false))⟩, ⟨(some 147), (.load none (.t 146)), (some (145, false))⟩, ⟨(some 148), (.faddr 1 (.t 15)), (some (145, false))⟩, ⟨(some 149), (.load none (.t 148)), (some (145, false))⟩, ⟨(some 150), (.bin .eql .i64 (.t 147) (.t 149)), (some (145, false))⟩, ⟨(some 151), (.mv (.t 150)), (some (145, false))⟩, ⟨(some 152), (.faddr 2 (.t 14)), (some (151, true))⟩, ⟨(some 153), (.load none (.t 152)), (some (151, true))⟩, ⟨(some 154), (.faddr 2 (.t 15)), (some (151, true))⟩, ⟨(some 155), (.load none (.t 154)), (some (151, true))⟩, ⟨(some 156), (.bin .geq .i64 (.t 153) (.t 155)), (some (151, true))⟩, ⟨(some 157), (.pick (.t 151) (.t 156) (.c (.bool false))), (some (145, false))⟩, ⟨(some 158), (.pick (.t 145) (.c (.bool true)) (.t 157)), (some (139, true))⟩, ⟨(some 159), (.pick (.t 139) (.t 158) (.c (.bool false))), (some (133, false))⟩, ⟨(some 160), (.pick (.t 133) (.c (.bool true)) (.t 159)), none⟩]) (.cond (.t 160) (.seq (.reg [⟨(some 2), (.mv (.c (.bool false))), none⟩]) .ret) .skip))))) (.reg [⟨(some 117), (.mv (.t 13)), none⟩, ⟨(some 118), (.bin .add .i64 (.t 117) (.c (.int .i64 1))), none⟩, ⟨(some 13), (.mv (.t 118)), none⟩])))))) (.seq (.reg [⟨(some 161), (.mv (.t 3)), none⟩, ⟨(some 2), (.mv (.t 161)), none⟩]) .ret))))))))))

set_option maxRecDepth 100000 in
theorem k_kwaySorts : compileC Try.prog ann_kwaySorts (Try.f10.body.getD .skip) = some c_kwaySorts := by kernel_rfl

theorem s_kwaySorts {args : List AV} {σ : St} {K : AV → St → Prop} (h : WF σ → T Try.prog ann_kwaySorts c_kwaySorts (Fin σ [(.t 2)] K) (args ++ List.replicate (162 - args.length) (.tup [])) σ) : ACalls Try.prog n_kwaySorts args σ K :=
  calls_ok Try.func10 (by kernel_rfl) (by kernel_rfl) k_kwaySorts (by kernel_rfl) (by kernel_rfl) h

end Go.VL

namespace Go.VL

open Go.Proofs

/-- a slice that began as nil, and was appended to: nothing yet, or a named end; what was there ahead of it is as it was -/
def AccG (σ t : St) (k : Nat) (xs : List AV) (x : AV) : Option Nat → Prop
  | none => x = .sl [] .nil ∧ xs = [] ∧ Like σ t
  | some g => x = .sl xs (.tip g) ∧ Tq σ t g k

section

variable {σ t u : St} {k : Nat} {xs : List AV} {x : AV} {G : Option Nat}

theorem AccG.like (h : AccG σ t k xs x G) : Like σ t := by
  cases G with
  | none => exact h.2.2
  | some g => exact h.2.like

theorem AccG.nil (h : Like σ t) : AccG σ t k [] (.sl [] .nil) none := ⟨rfl, rfl, h⟩

theorem AccG.ex (h : AccG σ t k xs x G) : ∃ v, x = .sl xs v := by
  cases G with
  | none => obtain ⟨h1, h2, _⟩ := h; subst h2; exact ⟨_, h1⟩
  | some g => exact ⟨_, h.1⟩

theorem AccG.up (h : AccG σ t k xs x G) (n : Nat) : AccG σ (t.up n) k xs x G := by
  cases G with
  | none => exact ⟨h.1, h.2.1, h.2.2.up n⟩
  | some g => exact ⟨h.1, h.2.up n⟩

theorem AccG.lt (h : AccG σ t k xs x G) : ∀ g, G = some g → σ.next ≤ g ∧ g < t.next := by
  rintro g rfl
  exact ⟨h.2.lo, h.2.hi⟩

theorem AccG.keep (h : AccG σ t k xs x G) (hn : t.next ≤ u.next) (hs : ∀ m, m < σ.next → u.res m = t.res m) (hg : ∀ g, G = some g → u.res g = t.res g) : AccG σ u k xs x G := by
  have hl : Like σ u := ⟨Nat.le_trans h.like.next hn, fun m hm => (hs m hm).trans (h.like.same m hm)⟩
  cases G with
  | none => exact ⟨h.1, h.2.1, hl⟩
  | some g => exact ⟨h.1, hl, by rw [hg g rfl]; exact h.2.at_, h.2.lo, Nat.lt_of_lt_of_le h.2.hi hn⟩

theorem AccG.set (h : AccG σ t k xs x G) {a : Nat} (r : Res) (ha : σ.next ≤ a) (hg : ∀ g, G = some g → a ≠ g) : AccG σ (t.set a r) k xs x G :=
  h.keep (Nat.le_refl _) (fun m hm => St.set_other _ _ (by omega)) (fun g e => St.set_other _ _ (Ne.symm (hg g e)))

theorem AccG.box (h : AccG σ t k xs x G) {n i : Nat} (hi : i < n) (r : Res) : AccG σ ((t.up n).set (t.next + i) r) k xs x G :=
  (h.up n).set r (by have := h.like.next; omega) (fun g e => by have := (h.lt g e).2; omega)

theorem AccG.quiet (wf : WF σ) (h : AccG σ t k xs x G) : ∀ n r, σ.res n = some r → t.res n = some r := h.like.quiet wf

theorem AccG.wk (h : AccG σ t k xs x G) : Wk x (.sl xs .none) := by
  obtain ⟨v, rfl⟩ := h.ex
  exact .sl _ _

end

/-- one append -/
theorem aopsT_acc {P : Program} {tbl : Tbl} {base i k bytes : Nat} {d : Option Nat} {s y : X} {rest : List O} {ρ : List AV} {σ u : St} {K : List AV → St → Prop} {xs ys : List AV} {x : AV} {G : Option Nat}
    (h : AccG σ u k xs x G) (hlo : σ.next ≤ base + i) (hhi : base + i < u.next) (hs : ev ρ s = x) (hsrc : srcOf u k (ev ρ y) = some ys) (hfit : (xs ++ ys).all (AV.fits k) = true)
    (hle : (xs.length + ys.length) * bytes ≤ 70368744177664 ∧ xs.length + ys.length ≤ 4611686018427387904)
    (hk : ∀ x' t' G', AccG σ t' k (xs ++ ys) x' G' → t'.next = u.next → (∀ g, G' = some g → g = base + i) → (∀ m, m ≠ base + i → (∀ g, G = some g → m ≠ g) → t'.res m = u.res m) → (ys ≠ [] → G' = some (base + i)) →
      aopsT P tbl base (i + 1) rest (setd ρ x' d) t' K) : aopsT P tbl base i (⟨d, .app k bytes .tip s y, none⟩ :: rest) ρ u K := by
  show astep (CPt P tbl) (base + i) ρ u (fun v σ' => aopsT P tbl base (i + 1) rest (setd ρ v d) σ' K) (.app k bytes .tip s y)
  have hd : decide ((xs.length + ys.length) * bytes ≤ 70368744177664 ∧ xs.length + ys.length ≤ 4611686018427387904) = true := decide_eq_true hle
  cases G with
  | none =>
    obtain ⟨rfl, rfl, hl⟩ := h
    simp only [astep, hs, hsrc, hfit, hd, Bool.and_self, if_true]
    cases ys with
    | nil => exact hk _ u none ⟨rfl, rfl, hl⟩ rfl (fun g e => by cases e) (fun _ _ _ => rfl) (fun h => absurd rfl h)
    | cons y1 r =>
      simp only [List.isEmpty, Bool.false_eq_true, if_false]
      refine hk _ _ (some (base + i)) ⟨rfl, hl.set _ hlo, by simp, hlo, hhi⟩ rfl (fun g e => (Option.some.inj e).symm) (fun m hm _ => St.set_other _ _ hm) (fun _ => rfl)
  | some g =>
    obtain ⟨rfl, hq⟩ := h
    have hat := hq.at_
    simp only [astep, hs, hsrc, hfit, hd, Bool.and_self, if_true, hat]
    refine hk _ _ (some (base + i)) ⟨rfl, hq.mv hlo hhi⟩ rfl (fun g e => (Option.some.inj e).symm) (fun m hm hg => ?_) (fun _ => rfl)
    rw [St.set_other _ _ hm]
    simp [St.del, hg g rfl]

end Go.VL

namespace Go.VL

open Go.Proofs

/-! ### Comparing -/

def cmp3 (a b : Int) : Int := if a < b then -1 else if b < a then 1 else 0

theorem nan1_ok {a : Int} {σ : St} : ACalls Try.prog n_nan1 [.int .i64 a] σ (fun v σ' => v = .bool false ∧ σ' = σ) := by
  refine s_nan1 (fun wf => ?_)
  unfold c_nan1
  refine T.seq_k (fun K_h1 h1 => ?_)
  refine T.regi hm ?_
  simp only [↓reduceIte, namesOf, List.any, I.names, aopsI, astep, ev, setd, List.set, List.cons_append, List.nil_append, List.length_cons, List.length_nil, List.replicate, then_normal, Bool.or_false, Bool.false_eq_true, up_zero, Nat.reduceAdd, Nat.reduceSub]
  refine h1 _ _ ?_
  try clear h1 K_h1
  refine T.seq_k (fun K_h1 h1 => ?_)
  refine T.regi hm ?_
  simp only [↓reduceIte, namesOf, List.any, I.names, aopsI, astep, ev, setd, List.set, List.getD, List.getElem?_cons_zero, List.getElem?_cons_succ, then_normal, Option.getD_some, Bool.or_false, Bool.false_eq_true, up_zero, binv, ↓opt_def, eq_self, bne_self_eq_false]
  refine h1 _ _ ?_
  try clear h1 K_h1
  exact T.ret (Fin.ret rfl ⟨rfl, rfl⟩)

theorem nan2_ok {a : Int} {σ : St} : ACalls Try.prog n_nan2 [.int .u64 a] σ (fun v σ' => v = .bool false ∧ σ' = σ) := by
  refine s_nan2 (fun wf => ?_)
  unfold c_nan2
  refine T.seq_k (fun K_h1 h1 => ?_)
  refine T.regi hm ?_
  simp only [↓reduceIte, namesOf, List.any, I.names, aopsI, astep, ev, setd, List.set, List.cons_append, List.nil_append, List.length_cons, List.length_nil, List.replicate, then_normal, Bool.or_false, Bool.false_eq_true, up_zero, Nat.reduceAdd, Nat.reduceSub]
  refine h1 _ _ ?_
  try clear h1 K_h1
  refine T.seq_k (fun K_h1 h1 => ?_)
  refine T.regi hm ?_
  simp only [↓reduceIte, namesOf, List.any, I.names, aopsI, astep, ev, setd, List.set, List.getD, List.getElem?_cons_zero, List.getElem?_cons_succ, then_normal, Option.getD_some, Bool.or_false, Bool.false_eq_true, up_zero, binv, ↓opt_def, eq_self, bne_self_eq_false]
  refine h1 _ _ ?_
  try clear h1 K_h1
  exact T.ret (Fin.ret rfl ⟨rfl, rfl⟩)

theorem cmpi_ok {a b : Int} {σ : St} : ACalls Try.prog n_cmpi [.int .i64 a, .int .i64 b] σ (fun v σ' => v = .int .i64 (cmp3 a b) ∧ σ' = σ) := by
  refine s_cmpi (fun wf => ?_)
  unfold c_cmpi
  refine T.seq_k (fun K_h1 h1 => ?_)
  refine T.regi hm ?_
  simp only [↓reduceIte, namesOf, List.any, I.names, aopsI, astep, ev, setd, List.set, List.cons_append, List.nil_append, List.length_cons, List.length_nil, List.replicate, then_normal, Bool.or_false, Bool.false_eq_true, up_zero, Nat.reduceAdd, Nat.reduceSub]
  refine h1 _ _ ?_
  try clear h1 K_h1
  refine T.seq_k (fun K_h1 h1 => ?_)
  refine T.regi hm ?_
  simp only [↓reduceIte, namesOf, List.any, I.names, aopsI, astep, ev, setd, List.set, List.getD, List.getElem?_cons_zero, List.getElem?_cons_succ, then_normal, Option.getD_some, Bool.or_false, Bool.false_eq_true, up_zero, List.map_cons, List.map_nil]
  refine nan1_ok.mono ?_
  rintro v σ1 ⟨rfl, rfl⟩
  try simp only [↓reduceIte, namesOf, List.any, I.names, aops, aopsI, aopsT, qstep, CPt, qget, Tbl.get, astep, ev, setd, List.set, List.getD, List.getElem?_cons_zero, List.getElem?_cons_succ, List.getElem?_nil, List.cons_append, List.nil_append, List.length_cons, List.length_nil, List.replicate, then_normal, inBlock_normal, Option.getD_some, Option.getD_none, Bool.or_false, Bool.or_true, Bool.true_or, Bool.false_or, Bool.false_eq_true, if_false, if_true, up_zero, Nat.reduceAdd, Nat.reduceSub, binv, ↓opt_def, AV.isAny, AV.cells, ldc, List.map_cons, List.map_nil, St.set_next, St.set_same, St.up_next, Int.natCast_nonneg, lt_len, le_len, Int.toNat_natCast, true_and, and_true, eq_self, reduceCtorEq, decide_true, List.length_singleton, er_int, er_bool, er_str, srcR, up_zero]
  refine h1 _ _ ?_
  try clear h1 K_h1
  refine T.seq_k (fun K_h1 h1 => ?_)
  refine T.regi hm ?_
  simp only [↓reduceIte, namesOf, List.any, I.names, aopsI, astep, ev, setd, List.set, List.getD, List.getElem?_cons_zero, List.getElem?_cons_succ, then_normal, Option.getD_some, Bool.or_false, Bool.false_eq_true, up_zero, List.map_cons, List.map_nil]
  refine nan1_ok.mono ?_
  rintro v σ1 ⟨rfl, rfl⟩
  try simp only [↓reduceIte, namesOf, List.any, I.names, aops, aopsI, aopsT, qstep, CPt, qget, Tbl.get, astep, ev, setd, List.set, List.getD, List.getElem?_cons_zero, List.getElem?_cons_succ, List.getElem?_nil, List.cons_append, List.nil_append, List.length_cons, List.length_nil, List.replicate, then_normal, inBlock_normal, Option.getD_some, Option.getD_none, Bool.or_false, Bool.or_true, Bool.true_or, Bool.false_or, Bool.false_eq_true, if_false, if_true, up_zero, Nat.reduceAdd, Nat.reduceSub, binv, ↓opt_def, AV.isAny, AV.cells, ldc, List.map_cons, List.map_nil, St.set_next, St.set_same, St.up_next, Int.natCast_nonneg, lt_len, le_len, Int.toNat_natCast, true_and, and_true, eq_self, reduceCtorEq, decide_true, List.length_singleton, er_int, er_bool, er_str, srcR, up_zero]
  refine h1 _ _ ?_
  try clear h1 K_h1
  refine T.seq_k (fun K_h1 h1 => ?_)
  refine T.seq_k (fun K_h2 h2 => ?_)
  refine T.regi hm ?_
  simp only [↓reduceIte, namesOf, List.any, I.names, aopsI, astep, ev, setd, List.set, List.getD, List.getElem?_cons_zero, List.getElem?_cons_succ, then_normal, Option.getD_some, Bool.or_false, Bool.false_eq_true, up_zero]
  refine h2 _ _ ?_
  try clear h2 K_h2
  refine T.cond rfl (fun hb => by cases hb) (fun _ => T.skip ?_)
  refine h1 _ _ ?_
  try clear h1 K_h1
  refine T.seq_k (fun K_h1 h1 => ?_)
  refine T.seq_k (fun K_h2 h2 => ?_)
  refine T.regi hm ?_
  simp only [↓reduceIte, namesOf, List.any, I.names, aopsI, astep, ev, setd, List.set, List.getD, List.getElem?_cons_zero, List.getElem?_cons_succ, then_normal, Option.getD_some, Bool.or_false, Bool.false_eq_true, up_zero]
  refine h2 _ _ ?_
  try clear h2 K_h2
  refine T.cond rfl (fun hb => by cases hb) (fun _ => T.skip ?_)
  refine h1 _ _ ?_
  try clear h1 K_h1
  refine T.seq_k (fun K_h1 h1 => ?_)
  refine T.seq_k (fun K_h2 h2 => ?_)
  refine T.regi hm ?_
  simp only [↓reduceIte, namesOf, List.any, I.names, aopsI, astep, ev, setd, List.set, List.getD, List.getElem?_cons_zero, List.getElem?_cons_succ, then_normal, Option.getD_some, Bool.or_false, Bool.false_eq_true, up_zero, binv, ↓opt_def, eq_self]
  refine h2 _ _ ?_
  try clear h2 K_h2
  refine T.cond rfl (fun hb => ?_) (fun hb => ?_)
  · refine T.seq_k (fun K_h2 h2 => ?_)
    refine T.regi hm ?_
    simp only [↓reduceIte, namesOf, List.any, I.names, aopsI, astep, ev, setd, List.set, then_normal, Bool.or_false, Bool.false_eq_true, up_zero]
    refine h2 _ _ ?_
    try clear h2 K_h2
    have : a < b := by simpa using hb
    exact T.ret (Fin.ret rfl ⟨by simp [pack, cmp3, this], rfl⟩)
  · refine T.skip ?_
    refine h1 _ _ ?_
    try clear h1 K_h1
    have hn : ¬ a < b := by simpa using hb
    refine T.seq_k (fun K_h1 h1 => ?_)
    refine T.seq_k (fun K_h2 h2 => ?_)
    refine T.regi hm ?_
    simp only [↓reduceIte, namesOf, List.any, I.names, aopsI, astep, ev, setd, List.set, List.getD, List.getElem?_cons_zero, List.getElem?_cons_succ, then_normal, Option.getD_some, Bool.or_false, Bool.false_eq_true, up_zero, binv, ↓opt_def, eq_self]
    refine h2 _ _ ?_
    try clear h2 K_h2
    refine T.cond rfl (fun hb => ?_) (fun hb => ?_)
    · refine T.seq_k (fun K_h2 h2 => ?_)
      refine T.regi hm ?_
      simp only [↓reduceIte, namesOf, List.any, I.names, aopsI, astep, ev, setd, List.set, then_normal, Bool.or_false, Bool.false_eq_true, up_zero]
      refine h2 _ _ ?_
      try clear h2 K_h2
      have : b < a := by simpa using hb
      exact T.ret (Fin.ret rfl ⟨by simp [pack, cmp3, this, hn], rfl⟩)
    · refine T.skip ?_
      refine h1 _ _ ?_
      try clear h1 K_h1
      have hn2 : ¬ b < a := by simpa using hb
      refine T.seq_k (fun K_h1 h1 => ?_)
      refine T.regi hm ?_
      simp only [↓reduceIte, namesOf, List.any, I.names, aopsI, astep, ev, setd, List.set, then_normal, Bool.or_false, Bool.false_eq_true, up_zero]
      refine h1 _ _ ?_
      try clear h1 K_h1
      exact T.ret (Fin.ret rfl ⟨by simp [pack, cmp3, hn, hn2], rfl⟩)

theorem cmpu_ok {a b : Int} {σ : St} : ACalls Try.prog n_cmpu [.int .u64 a, .int .u64 b] σ (fun v σ' => v = .int .i64 (cmp3 a b) ∧ σ' = σ) := by
  refine s_cmpu (fun wf => ?_)
  unfold c_cmpu
  refine T.seq_k (fun K_h1 h1 => ?_)
  refine T.regi hm ?_
  simp only [↓reduceIte, namesOf, List.any, I.names, aopsI, astep, ev, setd, List.set, List.cons_append, List.nil_append, List.length_cons, List.length_nil, List.replicate, then_normal, Bool.or_false, Bool.false_eq_true, up_zero, Nat.reduceAdd, Nat.reduceSub]
  refine h1 _ _ ?_
  try clear h1 K_h1
  refine T.seq_k (fun K_h1 h1 => ?_)
  refine T.regi hm ?_
  simp only [↓reduceIte, namesOf, List.any, I.names, aopsI, astep, ev, setd, List.set, List.getD, List.getElem?_cons_zero, List.getElem?_cons_succ, then_normal, Option.getD_some, Bool.or_false, Bool.false_eq_true, up_zero, List.map_cons, List.map_nil]
  refine nan2_ok.mono ?_
  rintro v σ1 ⟨rfl, rfl⟩
  try simp only [↓reduceIte, namesOf, List.any, I.names, aops, aopsI, aopsT, qstep, CPt, qget, Tbl.get, astep, ev, setd, List.set, List.getD, List.getElem?_cons_zero, List.getElem?_cons_succ, List.getElem?_nil, List.cons_append, List.nil_append, List.length_cons, List.length_nil, List.replicate, then_normal, inBlock_normal, Option.getD_some, Option.getD_none, Bool.or_false, Bool.or_true, Bool.true_or, Bool.false_or, Bool.false_eq_true, if_false, if_true, up_zero, Nat.reduceAdd, Nat.reduceSub, binv, ↓opt_def, AV.isAny, AV.cells, ldc, List.map_cons, List.map_nil, St.set_next, St.set_same, St.up_next, Int.natCast_nonneg, lt_len, le_len, Int.toNat_natCast, true_and, and_true, eq_self, reduceCtorEq, decide_true, List.length_singleton, er_int, er_bool, er_str, srcR, up_zero]
  refine h1 _ _ ?_
  try clear h1 K_h1
  refine T.seq_k (fun K_h1 h1 => ?_)
  refine T.regi hm ?_
  simp only [↓reduceIte, namesOf, List.any, I.names, aopsI, astep, ev, setd, List.set, List.getD, List.getElem?_cons_zero, List.getElem?_cons_succ, then_normal, Option.getD_some, Bool.or_false, Bool.false_eq_true, up_zero, List.map_cons, List.map_nil]
  refine nan2_ok.mono ?_
  rintro v σ1 ⟨rfl, rfl⟩
  try simp only [↓reduceIte, namesOf, List.any, I.names, aops, aopsI, aopsT, qstep, CPt, qget, Tbl.get, astep, ev, setd, List.set, List.getD, List.getElem?_cons_zero, List.getElem?_cons_succ, List.getElem?_nil, List.cons_append, List.nil_append, List.length_cons, List.length_nil, List.replicate, then_normal, inBlock_normal, Option.getD_some, Option.getD_none, Bool.or_false, Bool.or_true, Bool.true_or, Bool.false_or, Bool.false_eq_true, if_false, if_true, up_zero, Nat.reduceAdd, Nat.reduceSub, binv, ↓opt_def, AV.isAny, AV.cells, ldc, List.map_cons, List.map_nil, St.set_next, St.set_same, St.up_next, Int.natCast_nonneg, lt_len, le_len, Int.toNat_natCast, true_and, and_true, eq_self, reduceCtorEq, decide_true, List.length_singleton, er_int, er_bool, er_str, srcR, up_zero]
  refine h1 _ _ ?_
  try clear h1 K_h1
  refine T.seq_k (fun K_h1 h1 => ?_)
  refine T.seq_k (fun K_h2 h2 => ?_)
  refine T.regi hm ?_
  simp only [↓reduceIte, namesOf, List.any, I.names, aopsI, astep, ev, setd, List.set, List.getD, List.getElem?_cons_zero, List.getElem?_cons_succ, then_normal, Option.getD_some, Bool.or_false, Bool.false_eq_true, up_zero]
  refine h2 _ _ ?_
  try clear h2 K_h2
  refine T.cond rfl (fun hb => by cases hb) (fun _ => T.skip ?_)
  refine h1 _ _ ?_
  try clear h1 K_h1
  refine T.seq_k (fun K_h1 h1 => ?_)
  refine T.seq_k (fun K_h2 h2 => ?_)
  refine T.regi hm ?_
  simp only [↓reduceIte, namesOf, List.any, I.names, aopsI, astep, ev, setd, List.set, List.getD, List.getElem?_cons_zero, List.getElem?_cons_succ, then_normal, Option.getD_some, Bool.or_false, Bool.false_eq_true, up_zero]
  refine h2 _ _ ?_
  try clear h2 K_h2
  refine T.cond rfl (fun hb => by cases hb) (fun _ => T.skip ?_)
  refine h1 _ _ ?_
  try clear h1 K_h1
  refine T.seq_k (fun K_h1 h1 => ?_)
  refine T.seq_k (fun K_h2 h2 => ?_)
  refine T.regi hm ?_
  simp only [↓reduceIte, namesOf, List.any, I.names, aopsI, astep, ev, setd, List.set, List.getD, List.getElem?_cons_zero, List.getElem?_cons_succ, then_normal, Option.getD_some, Bool.or_false, Bool.false_eq_true, up_zero, binv, ↓opt_def, eq_self]
  refine h2 _ _ ?_
  try clear h2 K_h2
  refine T.cond rfl (fun hb => ?_) (fun hb => ?_)
  · refine T.seq_k (fun K_h2 h2 => ?_)
    refine T.regi hm ?_
    simp only [↓reduceIte, namesOf, List.any, I.names, aopsI, astep, ev, setd, List.set, then_normal, Bool.or_false, Bool.false_eq_true, up_zero]
    refine h2 _ _ ?_
    try clear h2 K_h2
    have : a < b := by simpa using hb
    exact T.ret (Fin.ret rfl ⟨by simp [pack, cmp3, this], rfl⟩)
  · refine T.skip ?_
    refine h1 _ _ ?_
    try clear h1 K_h1
    have hn : ¬ a < b := by simpa using hb
    refine T.seq_k (fun K_h1 h1 => ?_)
    refine T.seq_k (fun K_h2 h2 => ?_)
    refine T.regi hm ?_
    simp only [↓reduceIte, namesOf, List.any, I.names, aopsI, astep, ev, setd, List.set, List.getD, List.getElem?_cons_zero, List.getElem?_cons_succ, then_normal, Option.getD_some, Bool.or_false, Bool.false_eq_true, up_zero, binv, ↓opt_def, eq_self]
    refine h2 _ _ ?_
    try clear h2 K_h2
    refine T.cond rfl (fun hb => ?_) (fun hb => ?_)
    · refine T.seq_k (fun K_h2 h2 => ?_)
      refine T.regi hm ?_
      simp only [↓reduceIte, namesOf, List.any, I.names, aopsI, astep, ev, setd, List.set, then_normal, Bool.or_false, Bool.false_eq_true, up_zero]
      refine h2 _ _ ?_
      try clear h2 K_h2
      have : b < a := by simpa using hb
      exact T.ret (Fin.ret rfl ⟨by simp [pack, cmp3, this, hn], rfl⟩)
    · refine T.skip ?_
      refine h1 _ _ ?_
      try clear h1 K_h1
      have hn2 : ¬ b < a := by simpa using hb
      refine T.seq_k (fun K_h1 h1 => ?_)
      refine T.regi hm ?_
      simp only [↓reduceIte, namesOf, List.any, I.names, aopsI, astep, ev, setd, List.set, then_normal, Bool.or_false, Bool.false_eq_true, up_zero]
      refine h1 _ _ ?_
      try clear h1 K_h1
      exact T.ret (Fin.ret rfl ⟨by simp [pack, cmp3, hn, hn2], rfl⟩)

/-- the first that is not 0 -/
def orI : List Int → Int
  | [] => 0
  | n :: r => if n = 0 then orI r else n

theorem orI_take {l : List Int} {i : Nat} (hi : i < l.length) (h : ∀ j (hj : j < l.length), j < i → l[j] = 0) : orI l = orI (l.drop i) := by
  induction i with
  | zero => rfl
  | succ i ih =>
    rw [ih (by omega) (fun j hj hji => h j hj (by omega)), List.drop_eq_getElem_cons (by omega)]
    unfold orI
    rw [if_pos (h i (by omega) (by omega))]
    cases hd : l.drop (i + 1) with
    | nil => rfl
    | cons a r => rfl

theorem orI_zero : ∀ {l : List Int}, (∀ j (hj : j < l.length), j < l.length → l[j] = 0) → orI l = 0
  | [], _ => rfl
  | a :: r, h => by
    have h0 := h 0 (by simp) (by simp)
    simp only [List.getElem_cons_zero] at h0
    subst h0
    unfold orI
    rw [if_pos rfl]
    exact orI_zero (fun j hj _ => by have := h (j + 1) (by simpa using hj) (by simpa using hj); simpa using this)

theorem cor_ok {l : List Int} {g : Ver} {σ : St} (hl : l.length ≤ 9223372036854775807) : ACalls Try.prog n_cor [.sl (nums .i64 l) g] σ (fun v σ' => v = .int .i64 (orI l) ∧ σ' = σ) := by
  refine s_cor (fun wf => ?_)
  unfold c_cor
  refine T.seq_k (fun K_h1 h1 => ?_)
  refine T.regi hm ?_
  simp only [↓reduceIte, namesOf, List.any, I.names, aopsI, astep, ev, setd, List.set, List.cons_append, List.nil_append, List.length_cons, List.length_nil, List.replicate, then_normal, Bool.or_false, Bool.false_eq_true, up_zero, Nat.reduceAdd, Nat.reduceSub]
  refine h1 _ _ ?_
  try clear h1 K_h1
  refine T.seq_k (fun K_h1 h1 => ?_)
  refine T.regi hm ?_
  simp only [↓reduceIte, namesOf, List.any, I.names, aopsI, astep, ev, setd, List.set, then_normal, Bool.or_false, Bool.false_eq_true, up_zero]
  refine h1 _ _ ?_
  try clear h1 K_h1
  refine T.seq_k (fun K_h1 h1 => ?_)
  refine T.seq_k (fun K_h2 h2 => ?_)
  refine T.regi hm ?_
  simp only [↓reduceIte, namesOf, List.any, I.names, aopsI, astep, ev, setd, List.set, List.getD, List.getElem?_cons_zero, List.getElem?_cons_succ, then_normal, Option.getD_some, Bool.or_false, Bool.false_eq_true, up_zero, nums_len]
  refine h2 _ _ ?_
  try clear h2 K_h2
  refine T.block ?_
  refine T.gh (Gh.keep [3, 6, 7, 8]) ?_
  refine T.loopi (fun i ρ σ' => σ' = σ ∧ (∀ j (hj : j < l.length), j < i → l[j] = 0) ∧ ρ = [.any, .any, .any, .int .i64 0, .any, .any, .sl (nums .i64 l) g, .int .i64 (l.length : Int), .int .i64 (i : Int)] ++ List.replicate 9 .any)
    l.length 0 (Nat.zero_le _) ⟨rfl, fun j _ h => by omega, rfl⟩ ?_
  rintro i ρ σ' hi ⟨rfl, hpre, rfl⟩
  refine T.seq_k (fun K_h2 h2 => ?_)
  refine T.regi hm ?_
  simp only [↓reduceIte, namesOf, List.any, I.names, aopsI, astep, ev, setd, List.set, List.getD, List.getElem?_cons_zero, List.getElem?_cons_succ, List.cons_append, List.nil_append, List.replicate, then_normal, Option.getD_some, Bool.or_false, Bool.false_eq_true, up_zero, binv, ↓opt_def, lt_len, eq_self]
  refine h2 _ _ ?_
  try clear h2 K_h2
  refine T.seq_k (fun K_h2 h2 => ?_)
  refine T.cond rfl (fun hb => ?_) (fun hb => ?_)
  · refine T.skip ?_
    refine h2 _ _ ?_
    try clear h2 K_h2
    have hil : i < l.length := by simpa using hb
    clear hb
    refine T.seq_k (fun K_h2 h2 => ?_)
    refine T.block ?_
    refine T.seq_k (fun K_h3 h3 => ?_)
    refine T.regi hm ?_
    simp only [↓reduceIte, namesOf, List.any, I.names, aopsI, astep, ev, setd, List.set, List.getD, List.getElem?_cons_zero, List.getElem?_cons_succ, List.cons_append, List.nil_append, List.length_cons, List.length_nil, List.replicate, then_normal, Option.getD_some, Bool.or_false, Bool.false_eq_true, up_zero, Nat.reduceAdd, ↓opt_def, AV.cells, ldc, Int.natCast_nonneg, lt_len, Int.toNat_natCast, true_and, and_true, eq_self, decide_true, nums_len, nums_get .i64 hil, hil]
    refine h3 _ _ ?_
    try clear h3 K_h3
    refine T.seq_k (fun K_h3 h3 => ?_)
    refine T.regi hm ?_
    simp only [↓reduceIte, namesOf, List.any, I.names, aopsI, astep, ev, setd, List.set, List.getD, List.getElem?_cons_zero, List.getElem?_cons_succ, List.cons_append, List.nil_append, List.replicate, then_normal, Option.getD_some, Bool.or_false, Bool.false_eq_true, up_zero, binv, ↓opt_def, eq_self]
    refine h3 _ _ ?_
    try clear h3 K_h3
    refine T.cond rfl (fun hb => ?_) (fun hb => ?_)
    · refine T.seq_k (fun K_h3 h3 => ?_)
      refine T.regi hm ?_
      simp only [↓reduceIte, namesOf, List.any, I.names, aopsI, astep, ev, setd, List.set, List.getD, List.getElem?_cons_zero, List.getElem?_cons_succ, List.cons_append, List.nil_append, List.replicate, then_normal, Option.getD_some, Bool.or_false, Bool.false_eq_true, up_zero]
      refine h3 _ _ ?_
      try clear h3 K_h3
      have hne : l[i] ≠ 0 := by simpa using hb
      refine T.ret (Fin.ret rfl ⟨?_, rfl⟩)
      rw [orI_take hil hpre, List.drop_eq_getElem_cons hil]
      simp [pack, orI, hne]
    · refine T.skip ?_
      refine h2 _ _ ?_
      try clear h2 K_h2
      have he : l[i] = 0 := by simpa using hb
      have hw := inc64 hil hl
      refine T.regi hm ?_
      simp only [↓reduceIte, namesOf, List.any, I.names, aopsI, astep, ev, setd, List.set, List.getD, List.getElem?_cons_zero, List.getElem?_cons_succ, List.cons_append, List.nil_append, List.replicate, then_normal, Option.getD_some, Bool.or_false, Bool.false_eq_true, up_zero, binv, ↓opt_def, eq_self, hw]
      refine ⟨hil, _, _, Gh.keep [3, 6, 7, 8], rfl, fun j hj hji => ?_, rfl⟩
      by_cases hx : j = i
      · subst hx; exact he
      · exact hpre j hj (by omega)
  · refine T.exit ?_
    have : i = l.length := by simp at hb; omega
    subst this
    try simp only [List.cons_append, List.nil_append, List.replicate, then_normal, inBlock_exit, then_exit]
    refine h1 _ _ ?_
    try clear h1 K_h1
    refine T.seq_k (fun K_h1 h1 => ?_)
    refine T.regi hm ?_
    simp only [↓reduceIte, namesOf, List.any, I.names, aopsI, astep, ev, setd, List.set, List.getD, List.getElem?_cons_zero, List.getElem?_cons_succ, then_normal, Option.getD_some, Bool.or_false, Bool.false_eq_true, up_zero]
    refine h1 _ _ ?_
    try clear h1 K_h1
    refine T.ret (Fin.ret rfl ⟨?_, rfl⟩)
    have : orI l = 0 := orI_zero hpre
    rw [this]; rfl

def g_cmpi : List AV → Option AV
  | [.int .i64 a, .int .i64 b] => some (.int .i64 (cmp3 a b))
  | _ => none

theorem cmpi_pure : PureC Try.prog n_cmpi g_cmpi := by
  intro args σ v h
  unfold g_cmpi at h
  split at h
  · simp only [Option.some.injEq] at h; subst h; exact cmpi_ok
  · cases h

def g_cmpu : List AV → Option AV
  | [.int .u64 a, .int .u64 b] => some (.int .i64 (cmp3 a b))
  | _ => none

theorem cmpu_pure : PureC Try.prog n_cmpu g_cmpu := by
  intro args σ v h
  unfold g_cmpu at h
  split at h
  · simp only [Option.some.injEq] at h; subst h; exact cmpu_ok
  · cases h

def g_or3 : List AV → Option AV
  | [.sl [.int .i64 a, .int .i64 b, .int .i64 c] _] => some (.int .i64 (orI [a, b, c]))
  | _ => none

theorem or3_pure : PureC Try.prog n_cor g_or3 := by
  intro args σ v h
  unfold g_or3 at h
  split at h
  · rename_i a b c g
    simp only [Option.some.injEq] at h; subst h
    exact cor_ok (l := [a, b, c]) (by simp)
  · cases h

def tC : Tbl := [(n_cmpi, g_cmpi), (n_cmpu, g_cmpu), (n_cor, g_or3)]

theorem tC_ok : tC.ok Try.prog := Tbl.ok_cons cmpi_pure (Tbl.ok_cons cmpu_pure (Tbl.ok_cons or3_pure Tbl.ok_nil))

/-- how two spans stand, by (Start, Id, Trace) -/
def cmpS (s i t s' i' t' : Int) : Int := orI [cmp3 s s', cmp3 i i', cmp3 t t']

theorem set2_quiet {σ : St} (wf : WF σ) {k : Nat} (r r' : Res) {a b : Nat} (ha : σ.next ≤ a) (hb : σ.next ≤ b) : ∀ n x, σ.res n = some x → (((σ.up k).set a r).set b r').res n = some x := by
  intro n x hr
  have hn : n < σ.next := by
    rcases Nat.lt_or_ge n σ.next with h | h
    · exact h
    · rw [wf n h] at hr; cases hr
  rw [St.set_other _ _ (by omega), St.set_other _ _ (by omega)]; exact hr

theorem set1_quiet {σ : St} (wf : WF σ) {k : Nat} (r : Res) {a : Nat} (ha : σ.next ≤ a) : ∀ n x, σ.res n = some x → ((σ.up k).set a r).res n = some x := by
  intro n x hr
  have hn : n < σ.next := by
    rcases Nat.lt_or_ge n σ.next with h | h
    · exact h
    · rw [wf n h] at hr; cases hr
  rw [St.set_other _ _ (by omega)]; exact hr

theorem scmp_ok {t i s t' i' s' : Int} {x y x' y' : AV} {σ : St} : ACalls Try.prog n_scmp [.agg [.int .u64 t, .int .u64 i, .int .i64 s, x, y], .agg [.int .u64 t', .int .u64 i', .int .i64 s', x', y']] σ
    (fun v σ' => v = .int .i64 (cmpS s i t s' i' t') ∧ σ' = σ) := by
  refine s_scmp (fun wf => ?_)
  unfold c_scmp
  refine T.seq_k (fun K_h1 h1 => ?_)
  refine T.regi hm ?_
  simp only [↓reduceIte, namesOf, List.any, I.names, aopsI, astep, ev, setd, List.set, List.getD, List.getElem?_cons_zero, List.getElem?_cons_succ, List.cons_append, List.nil_append, List.length_cons, List.length_nil, List.replicate, then_normal, Option.getD_some, Bool.or_false, Bool.or_true, Bool.false_eq_true, Nat.reduceAdd, Nat.reduceSub, AV.isAny, AV.cells, eq_self]
  have h0 : (((σ.up 3).set (σ.next + 0) (.obj [.int .u64 t, .int .u64 i, .int .i64 s, x, y])).set (σ.next + 1) (.obj [.int .u64 t', .int .u64 i', .int .i64 s', x', y'])).res (σ.next + 0) = some (.obj [.int .u64 t, .int .u64 i, .int .i64 s, x, y]) := by
    rw [St.set_other _ _ (by omega)]; simp
  have h0' : (((σ.up 3).set (σ.next + 0) (.obj [.int .u64 t, .int .u64 i, .int .i64 s, x, y])).set (σ.next + 1) (.obj [.int .u64 t', .int .u64 i', .int .i64 s', x', y'])).res (σ.next + 1) = some (.obj [.int .u64 t', .int .u64 i', .int .i64 s', x', y']) := by simp
  have hq := set2_quiet wf (k := 3) (.obj [.int .u64 t, .int .u64 i, .int .i64 s, x, y]) (.obj [.int .u64 t', .int .u64 i', .int .i64 s', x', y']) (a := σ.next + 0) (b := σ.next + 1) (by omega) (by omega)
  generalize (((σ.up 3).set (σ.next + 0) (.obj [.int .u64 t, .int .u64 i, .int .i64 s, x, y])).set (σ.next + 1) (.obj [.int .u64 t', .int .u64 i', .int .i64 s', x', y'])) = σ1 at h0 h0' hq ⊢
  refine h1 _ _ ?_
  try clear h1 K_h1
  refine T.seq_k (fun K_h1 h1 => ?_)
  refine T.regt hm tC_ok ?_
  simp only [↓reduceIte, namesOf, List.any, I.names, aopsT, qstep, qget, Tbl.get, astep, ev, setd, List.set, List.getD, List.getElem?_cons_zero, List.getElem?_cons_succ, List.length_cons, List.length_nil, then_normal, Option.getD_some, Bool.or_false, Bool.false_eq_true, up_zero, ↓opt_def, AV.isAny, AV.cells, ldc, List.map_cons, List.map_nil, eq_self, er_int, tC, h0, h0', g_cmpi, Nat.zero_add, List.all_cons, List.all_nil, AV.fits, AV.one, Bool.not_false, Bool.and_self, beq_self_eq_true, held]
  refine h1 _ _ ?_
  try clear h1 K_h1
  exact T.ret (Fin.quiet rfl trivial hq ⟨rfl, rfl⟩)

def mayI (s e n : Int) : Bool := decide (0 ≤ s ∧ s ≤ e ∧ e ≤ 1099511627776 ∧ n ≤ 64)

theorem may_ok {t i : AV} {s e : Int} {xs : List AV} {g : Ver} {σ : St} : ACalls Try.prog n_may [.agg [t, i, .int .i64 s, .int .i64 e, .sl xs g]] σ (fun v σ' => v = .bool (mayI s e xs.length) ∧ σ' = σ) := by
  refine s_may (fun wf => ?_)
  unfold c_may
  refine T.seq_k (fun K_h1 h1 => ?_)
  refine T.regi hm ?_
  simp only [↓reduceIte, namesOf, List.any, I.names, aopsI, astep, ev, setd, List.set, List.getD, List.getElem?_cons_zero, List.cons_append, List.nil_append, List.length_cons, List.length_nil, List.replicate, then_normal, Option.getD_some, Bool.or_false, Bool.false_eq_true, Nat.reduceAdd, Nat.reduceSub, AV.isAny, AV.cells, eq_self]
  have h0 : ((σ.up 2).set (σ.next + 0) (.obj [t, i, .int .i64 s, .int .i64 e, .sl xs g])).res (σ.next + 0) = some (.obj [t, i, .int .i64 s, .int .i64 e, .sl xs g]) := by simp
  have hq := set1_quiet wf (k := 2) (.obj [t, i, .int .i64 s, .int .i64 e, .sl xs g]) (a := σ.next + 0) (by omega)
  generalize ((σ.up 2).set (σ.next + 0) (.obj [t, i, .int .i64 s, .int .i64 e, .sl xs g])) = σ1 at h0 hq ⊢
  refine h1 _ _ ?_
  try clear h1 K_h1
  refine T.seq_k (fun K_h1 h1 => ?_)
  by_cases c1 : 0 ≤ s
  case neg =>
    have e1 : decide (s ≥ 0) = false := decide_eq_false (by omega)
    refine T.regi hm ?_
    simp only [↓reduceIte, namesOf, List.any, I.names, aopsI, astep, ev, setd, List.set, List.getD, List.getElem?_cons_zero, List.getElem?_cons_succ, then_normal, Option.getD_some, Bool.or_false, Bool.false_eq_true, up_zero, Nat.reduceAdd, binv, ↓opt_def, ldc, eq_self, h0, e1]
    refine h1 _ _ ?_
    try clear h1 K_h1
    exact T.ret (Fin.quiet rfl trivial hq ⟨by simp [pack, mayI, c1], rfl⟩)
  have e1 : decide (s ≥ 0) = true := decide_eq_true c1
  by_cases c2 : s ≤ e
  case neg =>
    have e2 : decide (s ≤ e) = false := decide_eq_false c2
    refine T.regi hm ?_
    simp only [↓reduceIte, namesOf, List.any, I.names, aopsI, astep, ev, setd, List.set, List.getD, List.getElem?_cons_zero, List.getElem?_cons_succ, then_normal, Option.getD_some, Bool.or_false, Bool.false_eq_true, up_zero, Nat.reduceAdd, binv, ↓opt_def, ldc, eq_self, h0, e1, e2]
    refine h1 _ _ ?_
    try clear h1 K_h1
    exact T.ret (Fin.quiet rfl trivial hq ⟨by simp [pack, mayI, c2], rfl⟩)
  have e2 : decide (s ≤ e) = true := decide_eq_true c2
  by_cases c3 : e ≤ 1099511627776
  case neg =>
    have e3 : decide (e ≤ 1099511627776) = false := decide_eq_false c3
    refine T.regi hm ?_
    simp only [↓reduceIte, namesOf, List.any, I.names, aopsI, astep, ev, setd, List.set, List.getD, List.getElem?_cons_zero, List.getElem?_cons_succ, then_normal, Option.getD_some, Bool.or_false, Bool.false_eq_true, up_zero, Nat.reduceAdd, binv, ↓opt_def, ldc, eq_self, h0, e1, e2, e3]
    refine h1 _ _ ?_
    try clear h1 K_h1
    exact T.ret (Fin.quiet rfl trivial hq ⟨by simp [pack, mayI, c3], rfl⟩)
  have e3 : decide (e ≤ 1099511627776) = true := decide_eq_true c3
  refine T.regi hm ?_
  simp only [↓reduceIte, namesOf, List.any, I.names, aopsI, astep, ev, setd, List.set, List.getD, List.getElem?_cons_zero, List.getElem?_cons_succ, then_normal, Option.getD_some, Bool.or_false, Bool.false_eq_true, up_zero, Nat.reduceAdd, binv, ↓opt_def, ldc, eq_self, h0, e1, e2, e3]
  refine h1 _ _ ?_
  try clear h1 K_h1
  exact T.ret (Fin.quiet rfl trivial hq ⟨by simp [pack, mayI, c1, c2, c3], rfl⟩)

def g_scmp : List AV → Option AV
  | [.agg [.int .u64 t, .int .u64 i, .int .i64 s, _, _], .agg [.int .u64 t', .int .u64 i', .int .i64 s', _, _]] => some (.int .i64 (cmpS s i t s' i' t'))
  | _ => none

theorem scmp_pure : PureC Try.prog n_scmp g_scmp := by
  intro args σ v h
  unfold g_scmp at h
  split at h
  · simp only [Option.some.injEq] at h; subst h; exact scmp_ok
  · cases h

def g_may : List AV → Option AV
  | [.agg [_, _, .int .i64 s, .int .i64 e, .sl xs _]] => some (.bool (mayI s e xs.length))
  | _ => none

theorem may_pure : PureC Try.prog n_may g_may := by
  intro args σ v h
  unfold g_may at h
  split at h
  · simp only [Option.some.injEq] at h; subst h; exact may_ok
  · cases h

def tS : Tbl := [(n_scmp, g_scmp), (n_may, g_may)]

theorem tS_ok : tS.ok Try.prog := Tbl.ok_cons scmp_pure (Tbl.ok_cons may_pure Tbl.ok_nil)

end Go.VL

namespace Go.VL

open Go.Proofs

theorem spav (s : Sp) : s.av = .agg [.int .u64 (s.tr : Int), .int .u64 (s.id : Int), .int .i64 s.st, .int .i64 s.en, .sl (bytesAV s.da) .none] := rfl

def mayS (s : Sp) : Bool := mayI s.st s.en s.da.length

def cmpSp (a b : Sp) : Int := cmpS a.st a.id a.tr b.st b.id b.tr

def okAt (t : Tc) (i : Nat) : Bool := match t.sp[i]? with
  | some s => decide (s.tr = t.id) && mayS s && !((t.sp.take i).map Sp.id).contains s.id && (i == 0 || (match t.sp[i - 1]? with | some p => decide (cmpSp p s < 0) | none => false))
  | none => false

def oneB (t : Tc) : Bool := (List.range t.sp.length).all (okAt t) && decide (1 ≤ t.sp.length) && decide (t.sp.length ≤ 100)

def metAV (l : List Nat) : List (AV × AV) := l.map fun n : Nat => (.int .u64 (n : Int), .bool true)

theorem met_find (l : List Nat) (n : Nat) : mfind (.int .u64 (n : Int)) (metAV l) = some (if l.contains n then some (.bool true) else none) := by
  induction l with
  | nil => rfl
  | cons a r ih =>
    unfold metAV at ih ⊢
    by_cases h : n = a
    · subst h
      simp [mfind, keq]
    · have h1 : ((n : Int) == (a : Int)) = false := by simp; omega
      have h2 : (n == a) = false := by simpa using h
      have h3 : (a == n) = false := by simpa using fun e => h e.symm
      simp only [List.map_cons, mfind, keq, if_true, h1, ih, List.contains_cons, h2, Bool.false_or]

theorem met_put (l : List Nat) (n : Nat) (h : l.contains n = false) : mput (.int .u64 (n : Int)) (.bool true) (metAV l) = metAV (l ++ [n]) := by
  induction l with
  | nil => rfl
  | cons a r ih =>
    unfold metAV at ih ⊢
    simp only [List.contains_cons, Bool.or_eq_false_iff] at h
    have h1 : ((n : Int) == (a : Int)) = false := by have := h.1; simp at this ⊢; omega
    simp only [List.map_cons, mput, keq, if_true, h1, ih h.2, List.cons_append]

structure OneSt (σ σ' : St) (a m : Nat) (t : Tc) (l : List Nat) : Prop where
  a0 : σ.next ≤ a
  m0 : σ.next ≤ m
  a1 : a < σ'.next
  m1 : m < σ'.next
  obj : σ'.res a = some (.obj t.av.cells)
  map : σ'.res m = some (.map (metAV l) (List.range l.length) l.length)
  old : ∀ n r, σ.res n = some r → σ'.res n = some r

theorem OneSt.other {σ σ' : St} {a m : Nat} {t : Tc} {l : List Nat} (wf : WF σ) (h : OneSt σ σ' a m t l) {k b : Nat} (r : Res) (hb : σ'.next ≤ b) : OneSt σ ((σ'.up k).set b r) a m t l where
  a0 := h.a0
  m0 := h.m0
  a1 := Nat.lt_of_lt_of_le h.a1 (Nat.le_add_right _ _)
  m1 := Nat.lt_of_lt_of_le h.m1 (Nat.le_add_right _ _)
  obj := by rw [St.set_other _ _ (by have := h.a1; omega)]; exact h.obj
  map := by rw [St.set_other _ _ (by have := h.m1; omega)]; exact h.map
  old := fun n r' hr => by
    have hn : n < σ.next := by
      rcases Nat.lt_or_ge n σ.next with h' | h'
      · exact h'
      · rw [wf n h'] at hr; cases hr
    rw [St.set_other _ _ (by have := h.a0; have := h.a1; omega)]; exact h.old n r' hr

theorem OneSt.put {σ σ' : St} {a m : Nat} {t : Tc} {l : List Nat} {n : Nat} (wf : WF σ) (ham : a ≠ m) (h : OneSt σ σ' a m t l) (hn : l.contains n = false) : OneSt σ (σ'.set m (.map (mput (.int .u64 (n : Int)) (.bool true) (metAV l)) (List.range l.length ++ [l.length]) (l.length + 1))) a m t (l ++ [n]) where
  a0 := h.a0
  m0 := h.m0
  a1 := h.a1
  m1 := h.m1
  obj := by rw [St.set_other _ _ ham]; exact h.obj
  map := by rw [St.set_same, met_put l n hn, List.length_append, List.length_singleton, List.range_succ]
  old := fun n r' hr => by
    have hn : n < σ.next := by
      rcases Nat.lt_or_ge n σ.next with h' | h'
      · exact h'
      · rw [wf n h'] at hr; cases hr
    rw [St.set_other _ _ (by have := h.m0; omega)]; exact h.old n r' hr

theorem one_false {t : Tc} {i : Nat} (hi : i < t.sp.length) (h : okAt t i = false) : oneB t = false := by
  unfold oneB
  have : (List.range t.sp.length).all (okAt t) = false := by
    rw [Bool.eq_false_iff]
    intro hh
    have := List.all_eq_true.1 hh i (by simpa using hi)
    rw [h] at this; cases this
  rw [this]; rfl

set_option maxRecDepth 10000 in
set_option maxHeartbeats 4000000 in
theorem tone_ok {t : Tc} {σ : St} (hl : t.sp.length ≤ 9223372036854775807) : ACalls Try.prog n_one [.agg [.int .u64 (t.id : Int), .sl (spsAV t.sp) .none]] σ (fun v σ' => v = .bool (oneB t) ∧ σ' = σ) := by
  refine s_one (fun wf => ?_)
  unfold c_one
  refine T.seq_k (fun K_h1 h1 => ?_)
  refine T.regi hm ?_
  simp only [↓reduceIte, namesOf, List.any, I.names, aopsI, astep, ev, setd, List.set, List.getD, List.getElem?_cons_zero, List.cons_append, List.nil_append, List.length_cons, List.length_nil, List.replicate, then_normal, Option.getD_some, Bool.or_false, Bool.false_eq_true, Nat.reduceAdd, Nat.reduceSub, AV.isAny, AV.cells, eq_self]
  refine h1 _ _ ?_
  try clear h1 K_h1
  refine T.seq_k (fun K_h1 h1 => ?_)
  refine T.regi hm ?_
  simp only [↓reduceIte, namesOf, List.any, I.names, aopsI, astep, ev, setd, List.set, List.getD, List.getElem?_cons_zero, List.getElem?_cons_succ, List.length_cons, List.length_nil, then_normal, Option.getD_some, Bool.or_false, Nat.reduceAdd, St.set_next, St.up_next, eq_self]
  have o0 : OneSt σ ((((σ.up 2).set (σ.next + 0) (.obj [.int .u64 (t.id : Int), .sl (spsAV t.sp) .none])).up 2).set (σ.next + 2 + 0) (.map [] [] 0)) (σ.next + 0) (σ.next + 2 + 0) t [] := by
    refine ⟨by omega, by omega, by simp; omega, by simp, ?_, by simp [metAV], fun n r hr => ?_⟩
    · rw [St.set_other _ _ (by omega)]; simp [tccells]
    · have hn : n < σ.next := by
        rcases Nat.lt_or_ge n σ.next with h' | h'
        · exact h'
        · rw [wf n h'] at hr; cases hr
      rw [St.set_other _ _ (by omega), St.up_res, St.set_other _ _ (by omega)]; exact hr
  have ham : σ.next + 0 ≠ σ.next + 2 + 0 := by omega
  generalize ((((σ.up 2).set (σ.next + 0) (.obj [.int .u64 (t.id : Int), .sl (spsAV t.sp) .none])).up 2).set (σ.next + 2 + 0) (.map [] [] 0)) = σ1 at o0 ⊢
  generalize σ.next + 0 = a at o0 ham ⊢
  generalize σ.next + 2 + 0 = m at o0 ham ⊢
  refine h1 _ _ ?_
  try clear h1 K_h1
  refine T.seq_k (fun K_h1 h1 => ?_)
  refine T.seq_k (fun K_h2 h2 => ?_)
  have ha := o0.obj
  rw [tccells] at ha
  refine T.regi hm ?_
  simp only [↓reduceIte, namesOf, List.any, I.names, aopsI, astep, ev, setd, List.set, List.getD, List.getElem?_cons_zero, List.getElem?_cons_succ, then_normal, Option.getD_some, Bool.or_false, Bool.false_eq_true, up_zero, Nat.reduceAdd, ↓opt_def, ldc, ha, sps_len]
  refine h2 _ _ ?_
  try clear h2 K_h2
  clear ha
  refine T.block ?_
  refine T.gh (Gh.keep [1, 3, 8, 9, 10]) ?_
  refine T.loopi (fun i ρ σ' => OneSt σ σ' a m t ((t.sp.take i).map Sp.id) ∧ (List.range i).all (okAt t) = true ∧ ρ = [.any, .ptr a 0, .any, .map m, .any, .any, .any, .any, .sl (spsAV t.sp) .none, .int .i64 (t.sp.length : Int), .int .i64 (i : Int)] ++ List.replicate 49 .any)
    t.sp.length 0 (Nat.zero_le _) ⟨o0, rfl, rfl⟩ ?_
  clear o0 σ1
  rintro i ρ σ' hi ⟨o1, hpre, rfl⟩
  refine T.seq_k (fun K_h2 h2 => ?_)
  refine T.regi hm ?_
  simp only [↓reduceIte, namesOf, List.any, I.names, aopsI, astep, ev, setd, List.set, List.getD, List.getElem?_cons_zero, List.getElem?_cons_succ, List.cons_append, List.nil_append, List.replicate, then_normal, Option.getD_some, Bool.or_false, Bool.false_eq_true, up_zero, binv, ↓opt_def, lt_len, eq_self]
  refine h2 _ _ ?_
  try clear h2 K_h2
  refine T.seq_k (fun K_h2 h2 => ?_)
  refine T.cond rfl (fun hb => ?_) (fun hb => ?_)
  · refine T.skip ?_
    refine h2 _ _ ?_
    try clear h2 K_h2
    have hil : i < t.sp.length := by simpa using hb
    clear hb
    generalize hs : t.sp[i] = s
    have hsi : t.sp[i]? = some s := by rw [← hs]; simp [hil]
    refine T.seq_k (fun K_h2 h2 => ?_)
    refine T.block ?_
    refine T.seq_k (fun K_h3 h3 => ?_)
    refine T.regi hm ?_
    simp only [↓reduceIte, namesOf, List.any, I.names, aopsI, astep, ev, setd, List.set, List.getD, List.getElem?_cons_zero, List.getElem?_cons_succ, List.cons_append, List.nil_append, List.length_cons, List.length_nil, List.replicate, then_normal, Option.getD_some, Bool.or_false, Bool.or_true, Nat.reduceAdd, ↓opt_def, AV.isAny, AV.cells, ldc, St.set_same, Int.natCast_nonneg, lt_len, Int.toNat_natCast, true_and, and_true, eq_self, decide_true, sps_len, sps_get hil, hil, hs, spav, AV.fits, AV.one, List.all_cons, List.all_nil, Nat.reduceBEq, Bool.not_false, Bool.and_self, Nat.zero_add, splice, List.take, List.drop, Nat.reduceLeDiff, St.set_set]
    have o2 := o1.other wf (k := 6) (.obj [.int .u64 (s.tr : Int), .int .u64 (s.id : Int), .int .i64 s.st, .int .i64 s.en, .sl (bytesAV s.da) .none]) (b := σ'.next + 3) (by omega)
    have hb5 : ((σ'.up 6).set (σ'.next + 3) (.obj [.int .u64 (s.tr : Int), .int .u64 (s.id : Int), .int .i64 s.st, .int .i64 s.en, .sl (bytesAV s.da) .none])).res (σ'.next + 3) = some (.obj [.int .u64 (s.tr : Int), .int .u64 (s.id : Int), .int .i64 s.st, .int .i64 s.en, .sl (bytesAV s.da) .none]) := by simp
    have hbn : σ'.next + 3 < ((σ'.up 6).set (σ'.next + 3) (.obj [.int .u64 (s.tr : Int), .int .u64 (s.id : Int), .int .i64 s.st, .int .i64 s.en, .sl (bytesAV s.da) .none])).next := by simp
    have hbm : σ'.next + 3 ≠ m := by have := o1.m1; omega
    clear o1
    generalize ((σ'.up 6).set (σ'.next + 3) (.obj [.int .u64 (s.tr : Int), .int .u64 (s.id : Int), .int .i64 s.st, .int .i64 s.en, .sl (bytesAV s.da) .none])) = σ2 at o2 hb5 hbn ⊢
    generalize σ'.next + 3 = b at hb5 hbn hbm ⊢
    refine h3 _ _ ?_
    try clear h3 K_h3
    have ha := o2.obj
    rw [tccells] at ha
    have hm2 := o2.map
    refine T.seq_k (fun K_h3 h3 => ?_)
    refine T.seq_k (fun K_h4 h4 => ?_)
    -- the four parts
    have fin : okAt t i = false → ∀ ρ' : List AV, ρ'.getD 2 .any = .bool false → Fin σ [.t 2] (fun v σ' => v = .bool (oneB t) ∧ σ' = σ) .ret ρ' σ2 := by
      intro hf ρ' hρ
      refine Fin.quiet (xs := [ρ'.getD 2 .any]) rfl (by rw [hρ]; trivial) o2.old ⟨?_, rfl⟩
      rw [one_false hil hf, hρ]; rfl
    by_cases c1 : s.tr = t.id
    case neg =>
      have e1 : ((s.tr : Int) != (t.id : Int)) = true := by simp; omega
      refine T.regt hm tS_ok ?_
      simp only [↓reduceIte, namesOf, List.any, I.names, aopsT, qstep, astep, ev, setd, List.set, List.getD, List.getElem?_cons_zero, List.getElem?_cons_succ, List.cons_append, List.nil_append, List.replicate, then_normal, Option.getD_some, Bool.or_false, Bool.false_eq_true, up_zero, Nat.reduceAdd, binv, ↓opt_def, ldc, eq_self, reduceCtorEq, hb5, ha, e1, reduceCtorEq]
      refine h4 _ _ ?_
      try clear h4 K_h4
      refine T.cond rfl (fun _ => ?_) (fun h => by cases h)
      refine T.seq_k (fun K_h4 h4 => ?_)
      refine T.regi hm ?_
      simp only [↓reduceIte, namesOf, List.any, I.names, aopsI, astep, ev, setd, List.set, List.cons_append, List.nil_append, List.replicate, then_normal, Bool.or_false, Bool.false_eq_true, up_zero]
      refine h4 _ _ ?_
      try clear h4 K_h4
      exact T.ret (fin (by unfold okAt; simp [hsi, c1]) _ rfl)
    have e1 : ((s.tr : Int) != (t.id : Int)) = false := by simp; omega
    cases c2 : mayS s with
    | false =>
      have e2 : mayI s.st s.en (bytesAV s.da).length = false := by rw [bytesAV_len]; exact c2
      refine T.regt hm tS_ok ?_
      simp only [↓reduceIte, namesOf, List.any, I.names, aopsT, qstep, qget, Tbl.get, astep, ev, setd, List.set, List.getD, List.getElem?_cons_zero, List.getElem?_cons_succ, List.cons_append, List.nil_append, List.length_cons, List.length_nil, List.replicate, then_normal, Option.getD_some, Bool.or_false, Bool.false_eq_true, up_zero, Nat.reduceAdd, binv, ↓opt_def, ldc, List.map_cons, List.map_nil, eq_self, reduceCtorEq, Nat.reduceEqDiff, tS, n_scmp, n_may, hb5, ha, e1, g_may, e2, Bool.not_false, Nat.zero_add, List.take, List.drop, Nat.reduceLeDiff, Bool.not_false, reduceCtorEq]
      refine h4 _ _ ?_
      try clear h4 K_h4
      refine T.cond rfl (fun _ => ?_) (fun h => by cases h)
      refine T.seq_k (fun K_h4 h4 => ?_)
      refine T.regi hm ?_
      simp only [↓reduceIte, namesOf, List.any, I.names, aopsI, astep, ev, setd, List.set, List.cons_append, List.nil_append, List.replicate, then_normal, Bool.or_false, Bool.false_eq_true, up_zero]
      refine h4 _ _ ?_
      try clear h4 K_h4
      exact T.ret (fin (by unfold okAt; simp [hsi, c2]) _ rfl)
    | true =>
    have e2 : mayI s.st s.en (bytesAV s.da).length = true := by rw [bytesAV_len]; exact c2
    cases c3 : ((t.sp.take i).map Sp.id).contains s.id with
    | true =>
      have e3 : mfind (.int .u64 (s.id : Int)) (metAV ((t.sp.take i).map Sp.id)) = some (some (.bool true)) := by rw [met_find, c3]; rfl
      refine T.regt hm tS_ok ?_
      simp only [↓reduceIte, namesOf, List.any, I.names, aopsT, qstep, qget, Tbl.get, astep, ev, setd, List.set, List.getD, List.getElem?_cons_zero, List.getElem?_cons_succ, List.cons_append, List.nil_append, List.length_cons, List.length_nil, List.replicate, then_normal, Option.getD_some, Bool.or_false, Bool.false_eq_true, up_zero, Nat.reduceAdd, binv, ↓opt_def, ldc, List.map_cons, List.map_nil, eq_self, reduceCtorEq, Nat.reduceEqDiff, tS, n_scmp, n_may, hb5, ha, e1, g_may, e2, hm2, e3, kshape, Nat.zero_add, List.take, List.drop, Nat.reduceLeDiff, Bool.not_true, reduceCtorEq]
      refine h4 _ _ ?_
      try clear h4 K_h4
      refine T.cond rfl (fun _ => ?_) (fun h => by cases h)
      refine T.seq_k (fun K_h4 h4 => ?_)
      refine T.regi hm ?_
      simp only [↓reduceIte, namesOf, List.any, I.names, aopsI, astep, ev, setd, List.set, List.cons_append, List.nil_append, List.replicate, then_normal, Bool.or_false, Bool.false_eq_true, up_zero]
      refine h4 _ _ ?_
      try clear h4 K_h4
      exact T.ret (fin (by unfold okAt; simp only [hsi, c3, Bool.not_true, Bool.and_false, Bool.false_and]) _ rfl)
    | false =>
    have e3 : mfind (.int .u64 (s.id : Int)) (metAV ((t.sp.take i).map Sp.id)) = some none := by rw [met_find, c3]; rfl
    -- what comes behind a good one
    have cont : okAt t i = true → OneSt σ (σ2.set m (.map (mput (.int .u64 (s.id : Int)) (.bool true) (metAV ((t.sp.take i).map Sp.id))) (List.range ((t.sp.take i).map Sp.id).length ++ [((t.sp.take i).map Sp.id).length]) (((t.sp.take i).map Sp.id).length + 1))) a m t ((t.sp.take (i + 1)).map Sp.id) ∧ (List.range (i + 1)).all (okAt t) = true := by
      intro hk
      refine ⟨?_, ?_⟩
      · rw [List.take_succ_eq_append_getElem hil, List.map_append, hs]
        exact o2.put wf ham c3
      · rw [List.range_succ, List.all_append, hpre]; simp [hk]
    have hw := inc64 hil hl
    cases i with
    | zero =>
      have hok : okAt t 0 = true := by unfold okAt; rw [hsi]; simp [c1, c2]
      have hz : decide (((0 : Nat) : Int) > 0) = false := rfl
      refine T.regt hm tS_ok ?_
      simp only [↓reduceIte, namesOf, List.any, I.names, aopsT, qstep, qget, Tbl.get, astep, ev, setd, List.set, List.getD, List.getElem?_cons_zero, List.getElem?_cons_succ, List.cons_append, List.nil_append, List.length_cons, List.length_nil, List.replicate, then_normal, Option.getD_some, Bool.or_false, Bool.false_eq_true, up_zero, Nat.reduceAdd, binv, ↓opt_def, ldc, List.map_cons, List.map_nil, eq_self, Nat.reduceEqDiff, tS, n_scmp, n_may, hb5, ha, e1, g_may, e2, hm2, kshape, Nat.zero_add, List.take, List.drop, Nat.reduceLeDiff, Bool.not_true, hz]
      refine h4 _ _ ?_
      try clear h4 K_h4
      refine T.cond rfl (fun h => by cases h) (fun _ => ?_)
      refine T.skip ?_
      refine h3 _ _ ?_
      try clear h3 K_h3
      refine T.regi hm ?_
      simp only [↓reduceIte, namesOf, List.any, I.names, aopsI, astep, ev, setd, List.set, List.getD, List.getElem?_cons_zero, List.getElem?_cons_succ, List.cons_append, List.nil_append, List.replicate, then_normal, inBlock_normal, Option.getD_some, Bool.or_false, Bool.false_eq_true, up_zero, Nat.reduceAdd, ↓opt_def, ldc, eq_self, hb5, hm2, e3, kshape]
      refine h2 _ _ ?_
      try clear h2 K_h2
      obtain ⟨k1, k2⟩ := cont hok
      refine T.regi hm ?_
      simp only [↓reduceIte, namesOf, List.any, I.names, aopsI, astep, ev, setd, List.set, List.getD, List.getElem?_cons_zero, List.getElem?_cons_succ, List.cons_append, List.nil_append, List.replicate, then_normal, Option.getD_some, Bool.or_false, Bool.false_eq_true, up_zero, Nat.reduceAdd, binv, ↓opt_def, eq_self, hw]
      exact ⟨hil, _, _, Gh.keep [1, 3, 8, 9, 10], k1, k2, rfl⟩
    | succ j =>
      have hjl : j < t.sp.length := by omega
      generalize hp : t.sp[j] = p
      have hpj : t.sp[j]? = some p := by rw [← hp]; simp [hjl]
      have hz : decide (((j + 1 : Nat) : Int) > 0) = true := decide_eq_true (by omega)
      have hd : IntKind.i64.wrap (((j + 1 : Nat) : Int) - 1) = (j : Int) := by rw [wrap64 (by omega) (by omega)]; omega
      by_cases c4 : cmpSp p s < 0
      · have hok : okAt t (j + 1) = true := by unfold okAt; rw [hsi]; simp [c1, c2, hpj, c4]; simpa using c3
        have e4 : decide (cmpS p.st p.id p.tr s.st s.id s.tr ≥ 0) = false := decide_eq_false (by have : cmpS p.st p.id p.tr s.st s.id s.tr < 0 := c4; omega)
        refine T.regt hm tS_ok ?_
        simp only [↓reduceIte, namesOf, List.any, I.names, aopsT, qstep, qget, Tbl.get, astep, ev, setd, List.set, List.getD, List.getElem?_cons_zero, List.getElem?_cons_succ, List.cons_append, List.nil_append, List.length_cons, List.length_nil, List.replicate, then_normal, Option.getD_some, Bool.or_false, Bool.false_eq_true, up_zero, Nat.reduceAdd, binv, ↓opt_def, AV.cells, ldc, List.map_cons, List.map_nil, Int.natCast_nonneg, lt_len, Int.toNat_natCast, and_true, eq_self, Nat.reduceEqDiff, tS, n_scmp, n_may, hb5, ha, e1, g_may, g_scmp, e2, hm2, e3, kshape, Nat.zero_add, List.take, List.drop, Nat.reduceLeDiff, Bool.not_true, hz, hd, sps_len, sps_get hjl, hjl, hp, spav, e4]
        refine h4 _ _ ?_
        try clear h4 K_h4
        refine T.cond rfl (fun h => by cases h) (fun _ => ?_)
        refine T.skip ?_
        refine h3 _ _ ?_
        try clear h3 K_h3
        refine T.regi hm ?_
        simp only [↓reduceIte, namesOf, List.any, I.names, aopsI, astep, ev, setd, List.set, List.getD, List.getElem?_cons_zero, List.getElem?_cons_succ, List.cons_append, List.nil_append, List.replicate, then_normal, inBlock_normal, Option.getD_some, Bool.or_false, Bool.false_eq_true, up_zero, Nat.reduceAdd, ↓opt_def, ldc, eq_self, hb5, hm2, e3, kshape]
        refine h2 _ _ ?_
        try clear h2 K_h2
        obtain ⟨k1, k2⟩ := cont hok
        refine T.regi hm ?_
        simp only [↓reduceIte, namesOf, List.any, I.names, aopsI, astep, ev, setd, List.set, List.getD, List.getElem?_cons_zero, List.getElem?_cons_succ, List.cons_append, List.nil_append, List.replicate, then_normal, Option.getD_some, Bool.or_false, Bool.false_eq_true, up_zero, binv, ↓opt_def, eq_self, hw]
        exact ⟨hil, _, _, Gh.keep [1, 3, 8, 9, 10], k1, k2, rfl⟩
      · have e4 : decide (cmpS p.st p.id p.tr s.st s.id s.tr ≥ 0) = true := decide_eq_true (by have : ¬ cmpS p.st p.id p.tr s.st s.id s.tr < 0 := c4; omega)
        refine T.regt hm tS_ok ?_
        simp only [↓reduceIte, namesOf, List.any, I.names, aopsT, qstep, qget, Tbl.get, astep, ev, setd, List.set, List.getD, List.getElem?_cons_zero, List.getElem?_cons_succ, List.cons_append, List.nil_append, List.length_cons, List.length_nil, List.replicate, then_normal, Option.getD_some, Bool.or_false, Bool.false_eq_true, up_zero, Nat.reduceAdd, binv, ↓opt_def, AV.cells, ldc, List.map_cons, List.map_nil, Int.natCast_nonneg, lt_len, Int.toNat_natCast, and_true, eq_self, Nat.reduceEqDiff, tS, n_scmp, n_may, hb5, ha, e1, g_may, g_scmp, e2, hm2, e3, kshape, Nat.zero_add, List.take, List.drop, Nat.reduceLeDiff, Bool.not_true, hz, hd, sps_len, sps_get hjl, hjl, hp, spav, e4]
        refine h4 _ _ ?_
        try clear h4 K_h4
        refine T.cond rfl (fun _ => ?_) (fun h => by cases h)
        refine T.seq_k (fun K_h4 h4 => ?_)
        refine T.regi hm ?_
        simp only [↓reduceIte, namesOf, List.any, I.names, aopsI, astep, ev, setd, List.set, List.cons_append, List.nil_append, List.replicate, then_normal, Bool.or_false, Bool.false_eq_true, up_zero]
        refine h4 _ _ ?_
        try clear h4 K_h4
        exact T.ret (fin (by unfold okAt; rw [hsi]; simp [hpj, c4]) _ rfl)
  · refine T.exit ?_
    have : i = t.sp.length := by simp at hb; omega
    subst this
    try simp only [List.cons_append, List.nil_append, List.replicate, then_normal, inBlock_exit, then_exit]
    refine h1 _ _ ?_
    try clear h1 K_h1
    have ha := o1.obj
    rw [tccells] at ha
    refine T.seq_k (fun K_h1 h1 => ?_)
    have fin : ∀ (x : Bool) (ρ' : List AV), oneB t = x → ρ'.getD 2 .any = .bool x → Fin σ [.t 2] (fun v σ' => v = .bool (oneB t) ∧ σ' = σ) .ret ρ' σ' := by
      intro x ρ' hx hρ
      refine Fin.quiet (xs := [ρ'.getD 2 .any]) rfl (by rw [hρ]; trivial) o1.old ⟨?_, rfl⟩
      rw [hx, hρ]; rfl
    by_cases c1 : 1 ≤ t.sp.length
    · have e1 : decide ((t.sp.length : Int) ≥ 1) = true := decide_eq_true (by omega)
      refine T.regi hm ?_
      simp only [↓reduceIte, namesOf, List.any, I.names, aopsI, astep, ev, setd, List.set, List.getD, List.getElem?_cons_zero, List.getElem?_cons_succ, then_normal, Option.getD_some, Bool.or_false, Bool.false_eq_true, up_zero, Nat.reduceAdd, binv, ↓opt_def, ldc, eq_self, ha, sps_len, e1]
      refine h1 _ _ ?_
      try clear h1 K_h1
      refine T.ret (fin _ _ ?_ rfl)
      unfold oneB
      rw [hpre, decide_eq_true c1]
      have : decide ((t.sp.length : Int) ≤ 100) = decide (t.sp.length ≤ 100) := by rw [decide_eq_decide]; omega
      rw [this]; rfl
    · have e1 : decide ((t.sp.length : Int) ≥ 1) = false := decide_eq_false (by omega)
      refine T.regi hm ?_
      simp only [↓reduceIte, namesOf, List.any, I.names, aopsI, astep, ev, setd, List.set, List.getD, List.getElem?_cons_zero, List.getElem?_cons_succ, then_normal, Option.getD_some, Bool.or_false, Bool.false_eq_true, up_zero, Nat.reduceAdd, binv, ↓opt_def, ldc, eq_self, ha, sps_len, e1]
      refine h1 _ _ ?_
      try clear h1 K_h1
      refine T.ret (fin _ _ ?_ rfl)
      unfold oneB
      rw [hpre, decide_eq_false c1]; rfl

end Go.VL

namespace Go.VL

open Go.Proofs

theorem bytesAV_inj {a b : List UInt8} (h : bytesAV a = bytesAV b) : a = b := by
  have := congrArg toBytes h
  rw [toBytes_bytes, toBytes_bytes] at this
  exact Option.some.inj this

theorem spav_inj {a b : Sp} (h : a.av = b.av) : a = b := by
  obtain ⟨a1, a2, a3, a4, a5⟩ := a
  obtain ⟨b1, b2, b3, b4, b5⟩ := b
  simp only [Sp.av, AV.agg.injEq, List.cons.injEq, AV.int.injEq, true_and, AV.sl.injEq, and_true] at h
  obtain ⟨h1, h2, h3, h4, h5⟩ := h
  simp only [Sp.mk.injEq]
  exact ⟨by omega, by omega, h3, h4, bytesAV_inj h5⟩

theorem spsAV_inj : ∀ {a b : List Sp}, spsAV a = spsAV b → a = b
  | [], [], _ => rfl
  | [], _ :: _, h => by cases h
  | _ :: _, [], h => by cases h
  | x :: a, y :: b, h => by
    simp only [spsAV, List.map_cons, List.cons.injEq] at h
    rw [spav_inj h.1, spsAV_inj (a := a) (b := b) h.2]

open Classical in
noncomputable def g_one (args : List AV) : Option AV :=
  if h : ∃ t : Tc, args = [.agg [.int .u64 (t.id : Int), .sl (spsAV t.sp) .none]] ∧ t.sp.length ≤ 9223372036854775807 then some (.bool (oneB h.choose)) else none

theorem one_inj {t c : Tc} (h : [AV.agg [.int .u64 (t.id : Int), .sl (spsAV t.sp) .none]] = [.agg [.int .u64 (c.id : Int), .sl (spsAV c.sp) .none]]) : c = t := by
  simp only [List.cons.injEq, and_true, AV.agg.injEq, AV.int.injEq, true_and, AV.sl.injEq] at h
  obtain ⟨i, sp⟩ := t
  obtain ⟨j, sq⟩ := c
  simp only at h
  have e1 : i = j := Int.ofNat.inj h.1
  have e2 := spsAV_inj h.2
  rw [e1, e2]

theorem g_one_eq {t : Tc} (hl : t.sp.length ≤ 9223372036854775807) : g_one [.agg [.int .u64 (t.id : Int), .sl (spsAV t.sp) .none]] = some (.bool (oneB t)) := by
  unfold g_one
  have hex : ∃ t' : Tc, [AV.agg [.int .u64 (t.id : Int), .sl (spsAV t.sp) .none]] = [.agg [.int .u64 (t'.id : Int), .sl (spsAV t'.sp) .none]] ∧ t'.sp.length ≤ 9223372036854775807 := ⟨t, rfl, hl⟩
  rw [dif_pos hex]
  have this : hex.choose = t := one_inj hex.choose_spec.1
  rw [this]

theorem one_pure : PureC Try.prog n_one g_one := by
  intro args σ v h
  unfold g_one at h
  split at h
  · rename_i hex
    simp only [Option.some.injEq] at h; subst h
    have hc := hex.choose_spec
    generalize hex.choose = c at hc
    obtain ⟨rfl, hl⟩ := hc
    exact tone_ok hl
  · cases h

noncomputable def tO : Tbl := [(n_one, g_one)]

theorem tO_ok : tO.ok Try.prog := Tbl.ok_cons one_pure Tbl.ok_nil

def isAt (l : List Tc) (i : Nat) : Bool := match l[i]? with
  | some t => oneB t && (i == 0 || (match l[i - 1]? with | some p => decide (p.id < t.id) | none => false))
  | none => false

def isB (l : List Tc) : Bool := (List.range l.length).all (isAt l)

theorem is_false {l : List Tc} {i : Nat} (hi : i < l.length) (h : isAt l i = false) : isB l = false := by
  unfold isB
  rw [Bool.eq_false_iff]
  intro hh
  have := List.all_eq_true.1 hh i (by simpa using hi)
  rw [h] at this; cases this

theorem tcav' (t : Tc) : t.av = .agg [.int .u64 (t.id : Int), .sl (spsAV t.sp) .none] := rfl

set_option maxRecDepth 10000 in
theorem is_ok {l : List Tc} {g : Ver} {σ : St} (hl : l.length ≤ 9223372036854775807) (hs : ∀ t ∈ l, t.sp.length ≤ 9223372036854775807) : ACalls Try.prog n_is [.sl (tcsAV l) g] σ (fun v σ' => v = .bool (isB l) ∧ σ' = σ) := by
  refine s_is (fun wf => ?_)
  unfold c_is
  refine T.seq_k (fun K_h1 h1 => ?_)
  refine T.regi hm ?_
  simp only [↓reduceIte, namesOf, List.any, I.names, aopsI, astep, ev, setd, List.set, List.cons_append, List.nil_append, List.length_cons, List.length_nil, List.replicate, then_normal, Bool.or_false, Bool.false_eq_true, up_zero, Nat.reduceAdd, Nat.reduceSub]
  refine h1 _ _ ?_
  try clear h1 K_h1
  refine T.seq_k (fun K_h1 h1 => ?_)
  refine T.seq_k (fun K_h2 h2 => ?_)
  refine T.regi hm ?_
  simp only [↓reduceIte, namesOf, List.any, I.names, aopsI, astep, ev, setd, List.set, List.getD, List.getElem?_cons_zero, List.getElem?_cons_succ, then_normal, Option.getD_some, Bool.or_false, Bool.false_eq_true, up_zero, tcs_len]
  refine h2 _ _ ?_
  try clear h2 K_h2
  refine T.block ?_
  refine T.gh (Gh.keep [0, 5, 6, 7]) ?_
  refine T.loopi (fun i ρ σ' => σ.next ≤ σ'.next ∧ (∀ n x, σ.res n = some x → σ'.res n = some x) ∧ (List.range i).all (isAt l) = true ∧ ρ = [.sl (tcsAV l) g, .any, .any, .any, .any, .sl (tcsAV l) g, .int .i64 (l.length : Int), .int .i64 (i : Int)] ++ List.replicate 23 .any)
    l.length 0 (Nat.zero_le _) ⟨Nat.le_refl _, fun _ _ h => h, rfl, rfl⟩ ?_
  rintro i ρ σ' hi ⟨hn, ho, hpre, rfl⟩
  refine T.seq_k (fun K_h2 h2 => ?_)
  refine T.regi hm ?_
  simp only [↓reduceIte, namesOf, List.any, I.names, aopsI, astep, ev, setd, List.set, List.getD, List.getElem?_cons_zero, List.getElem?_cons_succ, List.cons_append, List.nil_append, List.replicate, then_normal, Option.getD_some, Bool.or_false, Bool.false_eq_true, up_zero, binv, ↓opt_def, lt_len, eq_self]
  refine h2 _ _ ?_
  try clear h2 K_h2
  refine T.seq_k (fun K_h2 h2 => ?_)
  refine T.cond rfl (fun hb => ?_) (fun hb => ?_)
  · refine T.skip ?_
    refine h2 _ _ ?_
    try clear h2 K_h2
    have hil : i < l.length := by simpa using hb
    clear hb
    generalize ht : l[i] = t
    have hti : l[i]? = some t := by rw [← ht]; simp [hil]
    have htl : t.sp.length ≤ 9223372036854775807 := by rw [← ht]; exact hs _ (List.getElem_mem hil)
    refine T.seq_k (fun K_h2 h2 => ?_)
    refine T.block ?_
    refine T.seq_k (fun K_h3 h3 => ?_)
    refine T.regi hm ?_
    simp only [↓reduceIte, namesOf, List.any, I.names, aopsI, astep, ev, setd, List.set, List.getD, List.getElem?_cons_zero, List.getElem?_cons_succ, List.cons_append, List.nil_append, List.length_cons, List.length_nil, List.replicate, then_normal, Option.getD_some, Bool.or_false, Bool.or_true, Nat.reduceAdd, ↓opt_def, AV.isAny, AV.cells, ldc, St.set_same, Int.natCast_nonneg, lt_len, Int.toNat_natCast, true_and, and_true, eq_self, decide_true, tcs_len, tcs_get hil, hil, ht, tcav', AV.fits, AV.one, List.all_cons, List.all_nil, Nat.reduceBEq, Bool.not_false, Bool.and_self, Nat.zero_add, splice, List.take, List.drop, Nat.reduceLeDiff, St.set_set]
    have ho2 := set_quiet wf hn ho (k := 6) (.obj [.int .u64 (t.id : Int), .sl (spsAV t.sp) .none]) (a := σ'.next + 3) (by omega)
    have hb5 : ((σ'.up 6).set (σ'.next + 3) (.obj [.int .u64 (t.id : Int), .sl (spsAV t.sp) .none])).res (σ'.next + 3) = some (.obj [.int .u64 (t.id : Int), .sl (spsAV t.sp) .none]) := by simp
    have hn2 : σ.next ≤ ((σ'.up 6).set (σ'.next + 3) (.obj [.int .u64 (t.id : Int), .sl (spsAV t.sp) .none])).next := by simp; omega
    generalize ((σ'.up 6).set (σ'.next + 3) (.obj [.int .u64 (t.id : Int), .sl (spsAV t.sp) .none])) = σ2 at ho2 hb5 hn2 ⊢
    generalize σ'.next + 3 = b at hb5 ⊢
    refine h3 _ _ ?_
    try clear h3 K_h3
    have fin : isAt l i = false → ∀ ρ' : List AV, ρ'.getD 2 .any = .bool false → Fin σ [.t 2] (fun v σ' => v = .bool (isB l) ∧ σ' = σ) .ret ρ' σ2 := by
      intro hf ρ' hρ
      refine Fin.quiet (xs := [ρ'.getD 2 .any]) rfl (by rw [hρ]; trivial) ho2 ⟨?_, rfl⟩
      rw [is_false hil hf, hρ]; rfl
    have hge := g_one_eq (t := t) htl
    have hw := inc64 hil hl
    refine T.seq_k (fun K_h3 h3 => ?_)
    cases c1 : oneB t with
    | false =>
      refine T.regt hm tO_ok ?_
      simp only [↓reduceIte, namesOf, List.any, I.names, aopsT, qstep, qget, Tbl.get, astep, ev, setd, List.set, List.getD, List.getElem?_cons_zero, List.getElem?_cons_succ, List.cons_append, List.nil_append, List.length_cons, List.length_nil, List.replicate, then_normal, Option.getD_some, Bool.or_false, Bool.false_eq_true, up_zero, Nat.reduceAdd, ↓opt_def, ldc, List.map_cons, List.map_nil, eq_self, reduceCtorEq, tO, hb5, hge, c1, Bool.not_false, Nat.zero_add, List.take, List.drop, Nat.reduceLeDiff, Bool.not_false, reduceCtorEq]
      refine h3 _ _ ?_
      try clear h3 K_h3
      refine T.cond rfl (fun _ => ?_) (fun h => by cases h)
      refine T.seq_k (fun K_h3 h3 => ?_)
      refine T.regi hm ?_
      simp only [↓reduceIte, namesOf, List.any, I.names, aopsI, astep, ev, setd, List.set, List.cons_append, List.nil_append, List.replicate, then_normal, Bool.or_false, Bool.false_eq_true, up_zero]
      refine h3 _ _ ?_
      try clear h3 K_h3
      exact T.ret (fin (by unfold isAt; simp only [hti, c1, Bool.false_and]) _ rfl)
    | true =>
    cases i with
    | zero =>
      have hz : decide (((0 : Nat) : Int) > 0) = false := rfl
      refine T.regt hm tO_ok ?_
      simp only [↓reduceIte, namesOf, List.any, I.names, aopsT, qstep, qget, Tbl.get, astep, ev, setd, List.set, List.getD, List.getElem?_cons_zero, List.getElem?_cons_succ, List.cons_append, List.nil_append, List.length_cons, List.length_nil, List.replicate, then_normal, Option.getD_some, Bool.or_false, Bool.false_eq_true, up_zero, Nat.reduceAdd, binv, ↓opt_def, ldc, List.map_cons, List.map_nil, eq_self, tO, hb5, hge, c1, Nat.zero_add, List.take, List.drop, Nat.reduceLeDiff, Bool.not_true, hz]
      refine h3 _ _ ?_
      try clear h3 K_h3
      refine T.cond rfl (fun h => by cases h) (fun _ => ?_)
      refine T.skip ?_
      refine h2 _ _ ?_
      try clear h2 K_h2
      refine T.regi hm ?_
      simp only [↓reduceIte, namesOf, List.any, I.names, aopsI, astep, ev, setd, List.set, List.getD, List.getElem?_cons_zero, List.getElem?_cons_succ, List.cons_append, List.nil_append, List.replicate, then_normal, Option.getD_some, Bool.or_false, Bool.false_eq_true, up_zero, Nat.reduceAdd, binv, ↓opt_def, eq_self, hw]
      exact ⟨hil, _, _, Gh.keep [0, 5, 6, 7], hn2, ho2, by simp [isAt, hti, c1], rfl⟩
    | succ j =>
      have hjl : j < l.length := by omega
      generalize hp : l[j] = p
      have hpj : l[j]? = some p := by rw [← hp]; simp [hjl]
      have hz : decide (((j + 1 : Nat) : Int) > 0) = true := decide_eq_true (by omega)
      have hd : IntKind.i64.wrap (((j + 1 : Nat) : Int) - 1) = (j : Int) := by rw [wrap64 (by omega) (by omega)]; omega
      by_cases c4 : p.id < t.id
      · have e4 : decide ((p.id : Int) ≥ (t.id : Int)) = false := decide_eq_false (by omega)
        refine T.regt hm tO_ok ?_
        simp only [↓reduceIte, namesOf, List.any, I.names, aopsT, qstep, qget, Tbl.get, astep, ev, setd, List.set, List.getD, List.getElem?_cons_zero, List.getElem?_cons_succ, List.cons_append, List.nil_append, List.length_cons, List.length_nil, List.replicate, then_normal, Option.getD_some, Bool.or_false, Bool.false_eq_true, up_zero, Nat.reduceAdd, binv, ↓opt_def, AV.cells, ldc, List.map_cons, List.map_nil, Int.natCast_nonneg, lt_len, Int.toNat_natCast, and_true, eq_self, tO, hb5, hge, c1, Nat.zero_add, List.take, List.drop, Nat.reduceLeDiff, Bool.not_true, hz, hd, tcs_len, tcs_get hjl, hjl, hp, tcav', e4]
        refine h3 _ _ ?_
        try clear h3 K_h3
        refine T.cond rfl (fun h => by cases h) (fun _ => ?_)
        refine T.skip ?_
        refine h2 _ _ ?_
        try clear h2 K_h2
        refine T.regi hm ?_
        simp only [↓reduceIte, namesOf, List.any, I.names, aopsI, astep, ev, setd, List.set, List.getD, List.getElem?_cons_zero, List.getElem?_cons_succ, List.cons_append, List.nil_append, List.replicate, then_normal, Option.getD_some, Bool.or_false, Bool.false_eq_true, up_zero, binv, ↓opt_def, eq_self, hw]
        refine ⟨hil, _, _, Gh.keep [0, 5, 6, 7], hn2, ho2, ?_, rfl⟩
        rw [List.range_succ, List.all_append, hpre]; simp [isAt, hti, c1, hpj, c4]
      · have e4 : decide ((p.id : Int) ≥ (t.id : Int)) = true := decide_eq_true (by omega)
        refine T.regt hm tO_ok ?_
        simp only [↓reduceIte, namesOf, List.any, I.names, aopsT, qstep, qget, Tbl.get, astep, ev, setd, List.set, List.getD, List.getElem?_cons_zero, List.getElem?_cons_succ, List.cons_append, List.nil_append, List.length_cons, List.length_nil, List.replicate, then_normal, Option.getD_some, Bool.or_false, Bool.false_eq_true, up_zero, Nat.reduceAdd, binv, ↓opt_def, AV.cells, ldc, List.map_cons, List.map_nil, Int.natCast_nonneg, lt_len, Int.toNat_natCast, and_true, eq_self, tO, hb5, hge, c1, Nat.zero_add, List.take, List.drop, Nat.reduceLeDiff, Bool.not_true, hz, hd, tcs_len, tcs_get hjl, hjl, hp, tcav', e4]
        refine h3 _ _ ?_
        try clear h3 K_h3
        refine T.cond rfl (fun _ => ?_) (fun h => by cases h)
        refine T.seq_k (fun K_h3 h3 => ?_)
        refine T.regi hm ?_
        simp only [↓reduceIte, namesOf, List.any, I.names, aopsI, astep, ev, setd, List.set, List.cons_append, List.nil_append, List.replicate, then_normal, Bool.or_false, Bool.false_eq_true, up_zero]
        refine h3 _ _ ?_
        try clear h3 K_h3
        exact T.ret (fin (by unfold isAt; simp [hti, hpj, c4]) _ rfl)
  · refine T.exit ?_
    have : i = l.length := by simp at hb; omega
    subst this
    try simp only [List.cons_append, List.nil_append, List.replicate, then_normal, inBlock_exit, then_exit]
    refine h1 _ _ ?_
    try clear h1 K_h1
    refine T.seq_k (fun K_h1 h1 => ?_)
    refine T.regi hm ?_
    simp only [↓reduceIte, namesOf, List.any, I.names, aopsI, astep, ev, setd, List.set, then_normal, Bool.or_false, Bool.false_eq_true, up_zero]
    refine h1 _ _ ?_
    try clear h1 K_h1
    exact T.ret (Fin.quiet rfl trivial ho ⟨by rw [show isB l = true from hpre]; rfl, rfl⟩)

/-! ### Rows put together -/

end Go.VL

namespace Go.VL

/-- does a span stand ahead of another one? -/
def aheadS (a b : Sp) : Bool := if a.st ≠ b.st then decide (a.st < b.st) else if a.id ≠ b.id then decide (a.id < b.id) else decide (a.tr < b.tr)

/-- of two of one Trace and one Id: is the first one the lesser one? -/
def lessS (a b : Sp) : Bool := if a.st ≠ b.st then decide (a.st < b.st) else if a.en ≠ b.en then decide (a.en < b.en) else Op.bytesLess a.da b.da

/-- does a span of l count? -/
def outAt (l : List Sp) (x : Sp) (i k : Nat) : Bool := match l[k]? with
  | some y => decide (y.tr = x.tr) && decide (y.id = x.id) && (lessS y x || (decide (y = x) && decide (k < i)))
  | none => false

def countsB (l : List Sp) (i : Nat) : Bool := match l[i]? with
  | some x => (List.range l.length).all fun k => !outAt l x i k
  | none => false

def lastAt (out : List Sp) (x : Sp) : Nat → Nat
  | 0 => 0
  | k + 1 => match out[k]? with
    | some y => if aheadS y x then k + 1 else lastAt out x k
    | none => lastAt out x k

def insS (out : List Sp) (x : Sp) : List Sp := out.take (lastAt out x out.length) ++ [x] ++ out.drop (lastAt out x out.length)

/-- what is gathered of the first n -/
def gatherN (l : List Sp) : Nat → List Sp
  | 0 => []
  | n + 1 => match l[n]? with
    | some x => if countsB l n then insS (gatherN l n) x else gatherN l n
    | none => gatherN l n

def gatherL (l : List Sp) : List Sp := gatherN l l.length

theorem ahead_irr (a : Sp) : aheadS a a = false := by unfold aheadS; simp

theorem ahead_trans {a b c : Sp} (h : aheadS a b = true) (k : aheadS b c = true) : aheadS a c = true := by
  unfold aheadS at *
  by_cases h1 : a.st = b.st
  · by_cases h2 : b.st = c.st
    · by_cases h3 : a.id = b.id
      · by_cases h4 : b.id = c.id
        · simp only [h1, h2, h3, h4, ne_eq, not_true_eq_false, if_false, decide_eq_true_eq] at h k ⊢; omega
        · simp only [h1, h2, h3, h4, ne_eq, not_true_eq_false, not_false_eq_true, if_false, if_true, decide_eq_true_eq] at h k ⊢; omega
      · by_cases h4 : b.id = c.id
        · simp only [h1, h2, ← h4, h3, ne_eq, not_true_eq_false, not_false_eq_true, if_false, if_true, decide_eq_true_eq] at h k ⊢; omega
        · have h5 : a.id ≠ c.id := by
            simp only [h1, h2, h3, h4, ne_eq, not_true_eq_false, not_false_eq_true, if_false, if_true, decide_eq_true_eq] at h k; omega
          simp only [h1, h2, h3, h4, h5, ne_eq, not_true_eq_false, not_false_eq_true, if_false, if_true, decide_eq_true_eq] at h k ⊢; omega
    · simp only [h1, h2, ne_eq, not_false_eq_true, if_true, decide_eq_true_eq] at k ⊢; exact k
  · by_cases h2 : b.st = c.st
    · simp only [← h2, h1, ne_eq, not_false_eq_true, if_true, decide_eq_true_eq] at h ⊢; exact h
    · have h3 : a.st ≠ c.st := by
        simp only [h1, h2, ne_eq, not_false_eq_true, if_true, decide_eq_true_eq] at h k; omega
      simp only [h1, h2, h3, ne_eq, not_false_eq_true, if_true, decide_eq_true_eq] at h k ⊢; omega

theorem ahead_total {a b : Sp} (h : a.id ≠ b.id) : aheadS a b = true ∨ aheadS b a = true := by
  unfold aheadS
  by_cases h1 : a.st = b.st
  · have h2 : b.id ≠ a.id := fun e => h e.symm
    simp only [h1, h, h2, ne_eq, not_true_eq_false, not_false_eq_true, if_false, if_true, decide_eq_true_eq]; omega
  · have h2 : b.st ≠ a.st := fun e => h1 e.symm
    simp only [h1, h2, ne_eq, not_false_eq_true, if_true, decide_eq_true_eq]; omega

theorem bytes_irr : ∀ a : List UInt8, Op.bytesLess a a = false
  | [] => by simp [Op.bytesLess]
  | x :: r => by simp [Op.bytesLess, bytes_irr r]

theorem bytes_total : ∀ a b : List UInt8, Op.bytesLess a b = false → Op.bytesLess b a = false → a = b
  | [], [], _, _ => rfl
  | [], _ :: _, h, _ => by simp [Op.bytesLess] at h
  | _ :: _, [], _, h => by simp [Op.bytesLess] at h
  | x :: r, y :: s, h, k => by
    simp only [Op.bytesLess, Bool.or_eq_false_iff, Bool.and_eq_false_iff, decide_eq_false_iff_not, beq_eq_false_iff_ne] at h k
    by_cases hxy : x = y
    · subst hxy
      rw [bytes_total r s (by simpa using h.2) (by simpa using k.2)]
    · exfalso
      have h1 := h.1
      have k1 := k.1
      have : x.toNat ≠ y.toNat := fun e => hxy (UInt8.toNat_inj.1 e)
      rw [UInt8.lt_iff_toNat_lt] at h1 k1
      omega

theorem less_irr (a : Sp) : lessS a a = false := by unfold lessS; simp [bytes_irr]

theorem less_total {a b : Sp} (ht : a.tr = b.tr) (hi : a.id = b.id) (h : lessS a b = false) (k : lessS b a = false) : a = b := by
  unfold lessS at h k
  by_cases h1 : a.st = b.st
  · by_cases h2 : a.en = b.en
    · simp only [h1, h2, ne_eq, not_true_eq_false, if_false] at h k
      have h3 := bytes_total _ _ h k
      obtain ⟨a1, a2, a3, a4, a5⟩ := a
      obtain ⟨b1, b2, b3, b4, b5⟩ := b
      simp only at *
      subst ht hi h1 h2 h3; rfl
    · have h3 : b.en ≠ a.en := fun e => h2 e.symm
      simp only [h1, h2, h3, ne_eq, not_true_eq_false, not_false_eq_true, if_false, if_true, decide_eq_false_iff_not] at h k; omega
  · have h3 : b.st ≠ a.st := fun e => h1 e.symm
    simp only [h1, h3, ne_eq, not_false_eq_true, if_true, decide_eq_false_iff_not] at h k; omega

theorem lastAt_le (out : List Sp) (x : Sp) : ∀ k, lastAt out x k ≤ k
  | 0 => Nat.le_refl _
  | k + 1 => by
    have := lastAt_le out x k
    unfold lastAt
    split
    · split <;> omega
    · omega

/-- all behind the last one ahead are not ahead -/
theorem lastAt_no (out : List Sp) (x : Sp) : ∀ k j (hj : j < out.length), lastAt out x k ≤ j → j < k → aheadS out[j] x = false
  | 0, j, _, _, h => by omega
  | k + 1, j, hj, h, hjk => by
    unfold lastAt at h
    split at h
    · rename_i y hy
      split at h
      · omega
      · rename_i hy2
        by_cases hx : j = k
        · subst hx
          have : out[j] = y := by simpa [hj] using hy
          rw [this]; simpa using hy2
        · exact lastAt_no out x k j hj h (by omega)
    · rename_i hy
      have : k ≥ out.length := by simpa using hy
      exact lastAt_no out x k j hj h (by omega)

/-- the last one ahead is ahead -/
theorem lastAt_is (out : List Sp) (x : Sp) : ∀ k, k ≤ out.length → 0 < lastAt out x k → ∃ j, ∃ h : j < out.length, lastAt out x k = j + 1 ∧ aheadS out[j] x = true
  | 0, _, h => by simp [lastAt] at h
  | k + 1, hk, h => by
    unfold lastAt at h ⊢
    have hkl : k < out.length := by omega
    have e : out[k]? = some out[k] := by simp [hkl]
    rw [e] at h ⊢
    simp only at h ⊢
    split at h
    · rename_i ha; rw [if_pos ha]; exact ⟨k, hkl, rfl, ha⟩
    · rename_i ha; rw [if_neg ha]; exact lastAt_is out x k (by omega) h

abbrev SortedS (l : List Sp) : Prop := l.Pairwise (fun a b => aheadS a b = true)

theorem ins_sorted {out : List Sp} {x : Sp} (hs : SortedS out) (hd : ∀ y ∈ out, y.id ≠ x.id) : SortedS (insS out x) := by
  have hle := lastAt_le out x out.length
  unfold insS
  have htake : ∀ y ∈ out.take (lastAt out x out.length), aheadS y x = true := by
    intro y hy
    rcases Nat.eq_zero_or_pos (lastAt out x out.length) with h0 | hpos
    · rw [h0] at hy; simp at hy
    · obtain ⟨j, hj, e, ha⟩ := lastAt_is out x out.length (Nat.le_refl _) hpos
      rw [e] at hy
      obtain ⟨m, hm⟩ := List.getElem?_of_mem hy
      rw [List.getElem?_take] at hm
      split at hm
      · rename_i hmj
        have hml : m < out.length := by omega
        have hy' : out[m] = y := by simpa [hml] using hm
        by_cases hx : m = j
        · subst hx; rw [← hy']; exact ha
        · rw [← hy']; exact ahead_trans (List.pairwise_iff_getElem.1 hs m j hml hj (by omega)) ha
      · cases hm
  have hdrop : ∀ y ∈ out.drop (lastAt out x out.length), aheadS x y = true := by
    intro y hy
    obtain ⟨m, hm⟩ := List.getElem?_of_mem hy
    rw [List.getElem?_drop] at hm
    have hml : lastAt out x out.length + m < out.length := (List.getElem?_eq_some_iff.1 hm).1
    have hy' : out[lastAt out x out.length + m] = y := (List.getElem?_eq_some_iff.1 hm).2
    have hno := lastAt_no out x out.length _ hml (by omega) hml
    rw [hy'] at hno
    rcases ahead_total (hd y (List.mem_of_mem_drop hy)) with h | h
    · rw [hno] at h; cases h
    · exact h
  rw [List.append_assoc]
  refine List.pairwise_append.2 ⟨hs.sublist (List.take_sublist _ _), ?_, fun a ha b hb => ?_⟩
  · exact List.pairwise_append.2 ⟨List.pairwise_singleton _ _, hs.sublist (List.drop_sublist _ _), fun a ha b hb => by simp only [List.mem_singleton] at ha; subst ha; exact hdrop b hb⟩
  · rcases List.mem_append.1 hb with hb | hb
    · simp only [List.mem_singleton] at hb; subst hb; exact htake a ha
    · have hsp : SortedS (out.take (lastAt out x out.length) ++ out.drop (lastAt out x out.length)) := by rw [List.take_append_drop]; exact hs
      exact (List.pairwise_append.1 hsp).2.2 a ha b hb

theorem ins_mem {out : List Sp} {x y : Sp} : y ∈ insS out x ↔ y = x ∨ y ∈ out := by
  have : y ∈ out ↔ y ∈ out.take (lastAt out x out.length) ∨ y ∈ out.drop (lastAt out x out.length) := by
    rw [← List.mem_append, List.take_append_drop]
  unfold insS
  simp only [List.mem_append, List.mem_singleton, this]
  constructor
  · rintro ((h | h) | h)
    · exact .inr (.inl h)
    · exact .inl h
    · exact .inr (.inr h)
  · rintro (h | h | h)
    · exact .inl (.inr h)
    · exact .inl (.inl h)
    · exact .inr h

theorem ins_len (out : List Sp) (x : Sp) : (insS out x).length = out.length + 1 := by
  have := lastAt_le out x out.length
  unfold insS; simp only [List.length_append, List.length_take, List.length_drop, List.length_singleton]; omega

/-- one that all others stand ahead of comes last -/
theorem ins_last {out : List Sp} {x : Sp} (h : ∀ y ∈ out, aheadS y x = true) : insS out x = out ++ [x] := by
  have e : lastAt out x out.length = out.length := by
    cases hn : out.length with
    | zero => rfl
    | succ n =>
      have hl : n < out.length := by omega
      unfold lastAt
      have e1 : out[n]? = some out[n] := by simp [hl]
      rw [e1]
      simp only
      rw [if_pos (h _ (List.getElem_mem hl))]
  unfold insS
  rw [e, List.take_length, List.drop_length, List.append_nil]

theorem gatherN_le (l : List Sp) : ∀ n, (gatherN l n).length ≤ n
  | 0 => Nat.le_refl _
  | n + 1 => by
    have := gatherN_le l n
    unfold gatherN
    split
    · split
      · rw [ins_len]; omega
      · omega
    · omega

theorem gatherN_all (l : List Sp) : ∀ n, n ≤ l.length → (gatherN l n).length = n → ∀ i, i < n → countsB l i = true
  | 0, _, _, i, hi => by omega
  | n + 1, hn, h, i, hi => by
    have hle := gatherN_le l n
    have hnl : n < l.length := by omega
    unfold gatherN at h
    have e : l[n]? = some l[n] := by simp [hnl]
    rw [e] at h
    simp only at h
    split at h
    · rename_i hc
      rw [ins_len] at h
      by_cases hx : i = n
      · subst hx; exact hc
      · exact gatherN_all l n (by omega) (by omega) i (by omega)
    · omega

theorem gatherN_mem (l : List Sp) : ∀ n, n ≤ l.length → ∀ y ∈ gatherN l n, ∃ j, ∃ h : j < l.length, j < n ∧ l[j] = y
  | 0, _, y, hy => by simp [gatherN] at hy
  | n + 1, hn, y, hy => by
    have hnl : n < l.length := by omega
    have e : l[n]? = some l[n] := by simp [hnl]
    unfold gatherN at hy
    rw [e] at hy
    simp only at hy
    split at hy
    · rcases ins_mem.1 hy with h | h
      · exact ⟨n, hnl, by omega, h.symm⟩
      · obtain ⟨j, h1, h2, h3⟩ := gatherN_mem l n (by omega) y h
        exact ⟨j, h1, by omega, h3⟩
    · obtain ⟨j, h1, h2, h3⟩ := gatherN_mem l n (by omega) y hy
      exact ⟨j, h1, by omega, h3⟩

/-- no Id is there twice -/
def IdsApart (l : List Sp) : Prop := ∀ i j (hi : i < l.length) (hj : j < l.length), i < j → l[i].id ≠ l[j].id

theorem counts_apart {l : List Sp} {t : Nat} (ht : ∀ s ∈ l, s.tr = t) (h : ∀ i, i < l.length → countsB l i = true) : IdsApart l := by
  intro i j hi hj hij he
  have key : ∀ a b (ha : a < l.length) (hb : b < l.length), outAt l l[a] a b = false := by
    intro a b ha hb
    have h1 := h a ha
    unfold countsB at h1
    have e : l[a]? = some l[a] := by simp [ha]
    rw [e] at h1
    have := List.all_eq_true.1 h1 b (by simpa using hb)
    simpa using this
  have h1 := key i j hi hj
  have h2 := key j i hj hi
  unfold outAt at h1 h2
  have ei : l[i]? = some l[i] := by simp [hi]
  have ej : l[j]? = some l[j] := by simp [hj]
  have htr : l[i].tr = l[j].tr := by rw [ht _ (List.getElem_mem hi), ht _ (List.getElem_mem hj)]
  rw [ej] at h1; rw [ei] at h2
  simp only [htr, he, decide_true, Bool.true_and, Bool.or_eq_false_iff] at h1 h2
  have heq := less_total htr he h2.1 h1.1
  have := h2.2
  simp [heq, hij] at this

theorem gather_id {l : List Sp} {t : Nat} (ht : ∀ s ∈ l, s.tr = t) : gatherL l = l ↔ IdsApart l ∧ SortedS l := by
  constructor
  · intro h
    have hall := gatherN_all l l.length (Nat.le_refl _) (by have : (gatherL l).length = l.length := by rw [h]
                                                            exact this)
    have hap := counts_apart ht hall
    refine ⟨hap, ?_⟩
    have : ∀ n, n ≤ l.length → SortedS (gatherN l n) := by
      intro n
      induction n with
      | zero => intro _; exact .nil
      | succ n ih =>
        intro hn
        have hnl : n < l.length := by omega
        have e : l[n]? = some l[n] := by simp [hnl]
        unfold gatherN
        rw [e]
        simp only
        rw [if_pos (hall n hnl)]
        refine ins_sorted (ih (by omega)) (fun y hy => ?_)
        obtain ⟨j, hj, hjn, rfl⟩ := gatherN_mem l n (by omega) y hy
        exact hap j n hj hnl hjn
    have := this l.length (Nat.le_refl _)
    rw [show gatherN l l.length = l from h] at this
    exact this
  · rintro ⟨hap, hs⟩
    have hc : ∀ i (hi : i < l.length), countsB l i = true := by
      intro i hi
      unfold countsB
      have e : l[i]? = some l[i] := by simp [hi]
      rw [e]
      simp only
      rw [List.all_eq_true]
      intro k hk
      have hkl : k < l.length := by simpa using hk
      unfold outAt
      have ek : l[k]? = some l[k] := by simp [hkl]
      rw [ek]
      simp only
      by_cases hx : k = i
      · subst hx; simp [less_irr]
      · have : l[k].id ≠ l[i].id := by
          rcases Nat.lt_or_gt_of_ne hx with hlt | hgt
          · exact hap k i hkl hi hlt
          · exact fun e => hap i k hi hkl hgt e.symm
        simp [this]
    have : ∀ n, n ≤ l.length → gatherN l n = l.take n := by
      intro n
      induction n with
      | zero => intro _; simp [gatherN]
      | succ n ih =>
        intro hn
        have hnl : n < l.length := by omega
        have e : l[n]? = some l[n] := by simp [hnl]
        unfold gatherN
        rw [e]
        simp only
        rw [if_pos (hc n hnl), ih (by omega), ins_last (fun y hy => ?_), List.take_succ_eq_append_getElem hnl]
        obtain ⟨m, hm⟩ := List.getElem?_of_mem hy
        rw [List.getElem?_take] at hm
        split at hm
        · rename_i hmn
          have hml : m < l.length := by omega
          have : l[m] = y := by simpa [hml] using hm
          rw [← this]; exact List.pairwise_iff_getElem.1 hs m n hml hnl hmn
        · cases hm
    unfold gatherL
    rw [this l.length (Nat.le_refl _), List.take_length]

end Go.VL

namespace Go.VL

open Go.Proofs

theorem nbs_tcs (m : Nat) (l : List Tc) : nbs m (tcsAV l) := by
  rw [nbs_iff]
  intro x hx
  obtain ⟨t, _, rfl⟩ := List.mem_map.1 hx
  simp only [Tc.av, AV.nb, nbs, true_and, and_true, Ver.nb]
  rw [nbs_iff]
  intro y hy
  obtain ⟨s, _, rfl⟩ := List.mem_map.1 hy
  simp only [Sp.av, AV.nb, nbs, true_and, and_true, Ver.nb]
  exact (nb_bytes m s.da)

end Go.VL

namespace Go.VL

open Go.Proofs

abbrev spC (a : Sp) : List AV := [.int .u64 (a.tr : Int), .int .u64 (a.id : Int), .int .i64 a.st, .int .i64 a.en, .sl (bytesAV a.da) .none]

theorem box2 {σ : St} (wf : WF σ) (k : Nat) (r r' : Res) : (((σ.up k).set (σ.next + 0) r).set (σ.next + 1) r').res (σ.next + 0) = some r ∧ (((σ.up k).set (σ.next + 0) r).set (σ.next + 1) r').res (σ.next + 1) = some r' ∧
    ∀ n x, σ.res n = some x → (((σ.up k).set (σ.next + 0) r).set (σ.next + 1) r').res n = some x :=
  ⟨by rw [St.set_other _ _ (by omega)]; simp, by simp, set2_quiet wf r r' (by omega) (by omega)⟩

/-! ### Are spans the same? -/

end Go.VL

namespace Go.VL

open Go.Proofs

/-- an end that is owned, and what was owned ahead of it -/
structure Tp (σ σ' : St) (g k : Nat) : Prop where
  lo : σ.next ≤ g
  hi : g < σ'.next
  at_ : σ'.res g = some (.tip k)
  old : ∀ n x, σ.res n = some x → σ'.res n = some x

theorem Tp.new {σ σ' : St} {k n i : Nat} (wf : WF σ) (hn : σ.next ≤ σ'.next) (ho : ∀ n x, σ.res n = some x → σ'.res n = some x) (hi : i < n) : Tp σ ((σ'.up n).set (σ'.next + i) (.tip k)) (σ'.next + i) k :=
  ⟨by omega, by simp; omega, by simp, set_quiet wf hn ho _ (by omega)⟩

theorem Tp.mv {σ σ' : St} {g g2 k : Nat} (wf : WF σ) (h : Tp σ σ' g k) (hlo : σ.next ≤ g2) (hhi : g2 < σ'.next) : Tp σ ((σ'.del g).set g2 (.tip k)) g2 k :=
  ⟨hlo, by simpa using hhi, by simp, fun n x hr => by
    have hn : n < σ.next := by
      rcases Nat.lt_or_ge n σ.next with h' | h'
      · exact h'
      · rw [wf n h'] at hr; cases hr
    have h1 := h.lo
    rw [St.set_other _ _ (by omega)]
    simp only [St.del]
    rw [if_neg (by omega)]; exact h.old n x hr⟩

theorem Tp.up {σ σ' : St} {g k : Nat} (h : Tp σ σ' g k) (n : Nat) : Tp σ (σ'.up n) g k := ⟨h.lo, Nat.lt_of_lt_of_le h.hi (Nat.le_add_right _ _), h.at_, h.old⟩

theorem nbs_sps (m : Nat) (l : List Sp) : nbs m (spsAV l) := by
  rw [nbs_iff]
  intro y hy
  obtain ⟨s, _, rfl⟩ := List.mem_map.1 hy
  simp only [Sp.av, AV.nb, nbs, true_and, and_true, Ver.nb]
  exact (nb_bytes m s.da)

end Go.VL
