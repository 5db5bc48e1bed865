/- Texts put together: Contracts: a store's small parts. Contracts: a store's names; a new store. Contracts: what is done with a store. Contracts: an object deleted; one of n. Contracts: the head of the store's laws. -/
import Derived.Test.YtlbnimbgodmagaaGd
import Derived.Test.YtlbnimbgodmagaaVcD
import Derived.Test.YtlbnimbgodmagaaGc

/- Contracts: a store's small parts. -/
namespace Go.VL
open Go.Proofs

/-- what a store holds: names, and bytes -/
abbrev Objs := List (ByteArray × List UInt8)
def objsAV (L : Objs) : List (AV × AV) := L.map fun e => (.str e.1, .sl (bytesAV e.2) .none)
theorem objs_len (L : Objs) : (objsAV L).length = L.length := by simp [objsAV]
theorem objs_get {L : Objs} {i : Nat} {p : AV × AV} (h : (objsAV L)[i]? = some p) : ∃ e, L[i]? = some e ∧ p = (.str e.1, .sl (bytesAV e.2) .none) := by
  unfold objsAV at h
  rw [List.getElem?_map, Option.map_eq_some_iff] at h
  obtain ⟨e, h1, h2⟩ := h
  exact ⟨e, h1, h2.symm⟩
def getO (k : ByteArray) : Objs → Option (List UInt8)
  | [] => none
  | e :: r => if k = e.1 then some e.2 else getO k r
def putO (k : ByteArray) (v : List UInt8) : Objs → Objs
  | [] => [(k, v)]
  | e :: r => if k = e.1 then (k, v) :: r else e :: putO k v r
def delO (k : ByteArray) : Objs → Objs
  | [] => []
  | e :: r => if k = e.1 then r else e :: delO k r
theorem objs_find (k : ByteArray) : ∀ L : Objs, mfind (.str k) (objsAV L) = some ((getO k L).map fun v => .sl (bytesAV v) .none)
  | [] => rfl
  | e :: r => by
    have ih := objs_find k r
    unfold objsAV at ih ⊢
    simp only [List.map_cons, mfind, keq]
    by_cases h : k = e.1
    · simp [h, getO]
    · simp only [h, decide_false]
      rw [ih]; simp [getO, h]
theorem objs_put (k : ByteArray) (v : List UInt8) : ∀ L : Objs, mput (.str k) (.sl (bytesAV v) .none) (objsAV L) = objsAV (putO k v L)
  | [] => rfl
  | e :: r => by
    have ih := objs_put k v r
    unfold objsAV at ih ⊢
    simp only [List.map_cons, mput, keq]
    by_cases h : k = e.1
    · simp [h, putO]
    · simp only [h, decide_false]
      rw [ih]; simp [putO, h]
theorem objs_del (k : ByteArray) : ∀ L : Objs, mdel (.str k) (objsAV L) = objsAV (delO k L)
  | [] => rfl
  | e :: r => by
    have ih := objs_del k r
    unfold objsAV at ih ⊢
    simp only [List.map_cons, mdel, keq]
    by_cases h : k = e.1
    · simp [h, delO]
    · simp only [h, decide_false]
      rw [ih]; simp [delO, h]

theorem put_len (k : ByteArray) (v : List UInt8) : ∀ L : Objs, (putO k v L).length = if (getO k L).isSome then L.length else L.length + 1
  | [] => rfl
  | e :: r => by
    have ih := put_len k v r
    unfold putO getO
    by_cases h : k = e.1
    · rw [if_pos h, if_pos h]; simp
    · rw [if_neg h, if_neg h, List.length_cons, ih, List.length_cons]
      split <;> rfl

/-- how many bytes there are -/
def usedO (L : Objs) : Nat := (L.map fun e => e.2.length).sum

/-- a store stands at p, its map at m -/
structure StS (σ : St) (p m : Nat) (room left calls : Int) (L : Objs) : Prop where
  obj : σ.res p = some (.obj [.int .i64 room, .map m, .int .i64 left, .int .i64 calls])
  map : ∃ ts clk, σ.res m = some (.map (objsAV L) ts clk) ∧ ts.length = L.length ∧ ts.Nodup ∧ ∀ t ∈ ts, t < clk
  ne : p ≠ m

theorem StS.mono {σ σ' : St} {p m : Nat} {room left calls : Int} {L : Objs} (h : StS σ p m room left calls L) (ho : ∀ n x, σ.res n = some x → σ'.res n = some x) : StS σ' p m room left calls L := by
  obtain ⟨ts, clk, h1, h2⟩ := h.map
  exact ⟨ho _ _ h.obj, ⟨ts, clk, ho _ _ h1, h2⟩, h.ne⟩

theorem scalls_ok {p m : Nat} {room left calls : Int} {L : Objs} {σ : St} (h : StS σ p m room left calls L) : ACalls Try.prog n_scalls [.ptr p 0] σ (fun v σ' => v = .int .i64 calls ∧ σ' = σ) := by
  refine s_scalls (fun wf => ?_)
  unfold c_scalls
  refine T.seq_k (fun K_h1 h1 => ?_)
  refine T.regi hm ?_
  simp only [↓reduceIte, namesOf, List.any, I.names, aopsI, astep, ev, setd, List.set, List.cons_append, List.nil_append, List.length_cons, List.length_nil, List.replicate, then_normal, Bool.or_false, Bool.false_eq_true, up_zero, Nat.reduceAdd, Nat.reduceSub]
  refine h1 _ _ ?_
  try clear h1 K_h1
  refine T.seq_k (fun K_h1 h1 => ?_)
  refine T.regi hm ?_
  simp only [↓reduceIte, namesOf, List.any, I.names, aopsI, astep, ev, setd, List.set, List.getD, List.getElem?_cons_zero, List.getElem?_cons_succ, then_normal, Option.getD_some, Bool.or_false, Bool.false_eq_true, up_zero, Nat.reduceAdd, ↓opt_def, ldc, h.obj]
  refine h1 _ _ ?_
  try clear h1 K_h1
  exact T.ret (Fin.ret rfl ⟨rfl, rfl⟩)

theorem sfail_ok {p m : Nat} {room left calls n : Int} {L : Objs} {σ : St} (h : StS σ p m room left calls L) :
    ACalls Try.prog n_sfail [.ptr p 0, .int .i64 n] σ (fun _ σ' => StS σ' p m room (if (-1 : Int) > n then -1 else n) calls L ∧ σ' = σ.set p (.obj [.int .i64 room, .map m, .int .i64 (if (-1 : Int) > n then -1 else n), .int .i64 calls])) := by
  refine s_sfail (fun wf => ?_)
  unfold c_sfail
  refine T.regi hm ?_
  simp only [↓reduceIte, namesOf, List.any, I.names, aopsI, astep, ev, setd, List.set, List.getD, List.getElem?_cons_zero, List.getElem?_cons_succ, List.cons_append, List.nil_append, List.length_cons, List.length_nil, List.replicate, Option.getD_some, Bool.or_false, Bool.false_eq_true, up_zero, Nat.reduceAdd, Nat.reduceSub, ↓opt_def, AV.isAny, AV.cells, List.map_cons, List.map_nil, eq_self, decide_true, h.obj, mx2, List.foldlM, AV.fits, AV.one, List.all_cons, List.all_nil, Nat.reduceBEq, Bool.not_false, Bool.and_self, Nat.zero_add, splice, List.take, List.drop, Nat.reduceLeDiff, bind, Option.bind, pure]
  refine Fin.retn rfl ⟨⟨by simp, ?_, h.ne⟩, rfl⟩
  obtain ⟨ts, clk, h1, h2⟩ := h.map
  exact ⟨ts, clk, by rw [St.set_other _ _ (Ne.symm h.ne)]; exact h1, h2⟩

/-- one call less goes well -/
def leftB (left : Int) : Int := if left > 0 then left - 1 else -1
theorem scall_ok {p m : Nat} {room left calls : Int} {L : Objs} {σ : St} (h : StS σ p m room left calls L) (hl : -1 ≤ left ∧ left ≤ 9223372036854775807) (hc : 0 ≤ calls ∧ calls < 9223372036854775807) :
    ACalls Try.prog n_scall [.ptr p 0] σ (fun v σ' => v = .bool (decide (left ≠ 0)) ∧ σ' = σ.set p (.obj [.int .i64 room, .map m, .int .i64 (leftB left), .int .i64 (calls + 1)])) := by
  refine s_scall (fun wf => ?_)
  unfold c_scall
  refine T.seq_k (fun K_h1 h1 => ?_)
  refine T.regi hm ?_
  simp only [↓reduceIte, namesOf, List.any, I.names, aopsI, astep, ev, setd, List.set, List.cons_append, List.nil_append, List.length_cons, List.length_nil, List.replicate, then_normal, Bool.or_false, Bool.false_eq_true, up_zero, Nat.reduceAdd, Nat.reduceSub]
  refine h1 _ _ ?_
  try clear h1 K_h1
  have e1 : IntKind.i64.wrap (calls + 1) = calls + 1 := wrap64 (by omega) (by omega)
  refine T.seq_k (fun K_h1 h1 => ?_)
  refine T.regi hm ?_
  simp only [↓reduceIte, namesOf, List.any, I.names, aopsI, astep, ev, setd, List.set, List.getD, List.getElem?_cons_zero, List.getElem?_cons_succ, List.cons_append, List.nil_append, List.length_cons, List.length_nil, then_normal, Option.getD_some, Bool.or_false, Bool.false_eq_true, up_zero, Nat.reduceAdd, binv, ↓opt_def, AV.isAny, AV.cells, ldc, eq_self, decide_true, h.obj, e1, AV.fits, AV.one, List.all_cons, List.all_nil, Nat.reduceBEq, Bool.not_false, Bool.and_self, Nat.zero_add, splice, List.take, List.drop, Nat.reduceLeDiff]
  refine h1 _ _ ?_
  try clear h1 K_h1
  refine T.seq_k (fun K_h1 h1 => ?_)
  refine T.seq_k (fun K_h2 h2 => ?_)
  by_cases c1 : left > 0
  · have e2 : decide (left > 0) = true := decide_eq_true c1
    have e3 : IntKind.i64.wrap (left - 1) = left - 1 := wrap64 (by omega) (by omega)
    refine T.regi hm ?_
    simp only [↓reduceIte, namesOf, List.any, I.names, aopsI, astep, ev, setd, List.set, List.getD, List.getElem?_cons_zero, List.getElem?_cons_succ, then_normal, Option.getD_some, Bool.or_false, Bool.false_eq_true, up_zero, Nat.reduceAdd, binv, ↓opt_def, ldc, St.set_same, eq_self, e2]
    refine h2 _ _ ?_
    try clear h2 K_h2
    refine T.cond rfl (fun _ => ?_) (fun h => by cases h)
    refine T.seq_k (fun K_h2 h2 => ?_)
    refine T.regi hm ?_
    simp only [↓reduceIte, namesOf, List.any, I.names, aopsI, astep, ev, setd, List.set, List.getD, List.getElem?_cons_zero, List.getElem?_cons_succ, List.cons_append, List.nil_append, List.length_cons, List.length_nil, then_normal, Option.getD_some, Bool.or_false, Bool.false_eq_true, up_zero, Nat.reduceAdd, binv, ↓opt_def, AV.isAny, AV.cells, ldc, St.set_same, eq_self, decide_true, e3, AV.fits, AV.one, List.all_cons, List.all_nil, Nat.reduceBEq, Bool.not_false, Bool.and_self, Nat.zero_add, splice, List.take, List.drop, Nat.reduceLeDiff, St.set_set]
    refine h2 _ _ ?_
    try clear h2 K_h2
    refine T.seq_k (fun K_h2 h2 => ?_)
    refine T.regi hm ?_
    simp only [↓reduceIte, namesOf, List.any, I.names, aopsI, astep, ev, setd, List.set, then_normal, Bool.or_false, Bool.false_eq_true, up_zero]
    refine h2 _ _ ?_
    try clear h2 K_h2
    refine T.ret (Fin.ret rfl ⟨?_, ?_⟩)
    · rw [decide_eq_true (by omega)]; rfl
    · rw [leftB, if_pos c1]
  · have e2 : decide (left > 0) = false := decide_eq_false c1
    have e4 : leftB left = -1 := by rw [leftB, if_neg c1]
    refine T.regi hm ?_
    simp only [↓reduceIte, namesOf, List.any, I.names, aopsI, astep, ev, setd, List.set, List.getD, List.getElem?_cons_zero, List.getElem?_cons_succ, then_normal, Option.getD_some, Bool.or_false, Bool.false_eq_true, up_zero, Nat.reduceAdd, binv, ↓opt_def, ldc, St.set_same, eq_self, e2]
    refine h2 _ _ ?_
    try clear h2 K_h2
    refine T.cond rfl (fun h => by cases h) (fun _ => T.skip ?_)
    refine h1 _ _ ?_
    try clear h1 K_h1
    refine T.seq_k (fun K_h1 h1 => ?_)
    refine T.regi hm ?_
    simp only [↓reduceIte, namesOf, List.any, I.names, aopsI, astep, ev, setd, List.set, List.getD, List.getElem?_cons_zero, List.getElem?_cons_succ, then_normal, Option.getD_some, Bool.or_false, Bool.false_eq_true, up_zero, Nat.reduceAdd, binv, ↓opt_def, ldc, St.set_same, eq_self]
    refine h1 _ _ ?_
    try clear h1 K_h1
    refine T.seq_k (fun K_h1 h1 => ?_)
    refine T.regi hm ?_
    simp only [↓reduceIte, namesOf, List.any, I.names, aopsI, astep, ev, setd, List.set, List.getD, List.getElem?_cons_zero, List.getElem?_cons_succ, List.cons_append, List.nil_append, List.length_cons, List.length_nil, then_normal, Option.getD_some, Bool.or_false, Bool.false_eq_true, up_zero, Nat.reduceAdd, AV.isAny, AV.cells, St.set_same, eq_self, decide_true, AV.fits, AV.one, List.all_cons, List.all_nil, Nat.reduceBEq, Bool.not_false, Bool.and_self, Nat.zero_add, splice, List.take, List.drop, Nat.reduceLeDiff, St.set_set]
    refine h1 _ _ ?_
    try clear h1 K_h1
    refine T.seq_k (fun K_h1 h1 => ?_)
    refine T.regi hm ?_
    simp only [↓reduceIte, namesOf, List.any, I.names, aopsI, astep, ev, setd, List.set, List.getD, List.getElem?_cons_zero, List.getElem?_cons_succ, then_normal, Option.getD_some, Bool.or_false, Bool.false_eq_true, up_zero]
    refine h1 _ _ ?_
    try clear h1 K_h1
    refine T.ret (Fin.ret rfl ⟨?_, by rw [e4]⟩)
    have : (left == -1) = decide (left ≠ 0) := by
      rw [Bool.eq_iff_iff]; simp; omega
    rw [← this]; rfl

theorem clone_ok {b : List UInt8} {v : AV} {σ : St} (hb : b.length ≤ 1099511627776) (hv : (∃ g, v = .sl (bytesAV b) g ∧ (g = .nil → b = [])) ∨ ∃ n, v = .ref n 0 b.length ∧ σ.res n = some (.obj (bytesAV b))) :
    ACalls Try.prog n_clone [v] σ (fun w σ' => (w = .sl [] .none ∧ b = [] ∧ ∀ n x, σ.res n = some x → σ'.res n = some x) ∨ ∃ n, σ.next ≤ n ∧ n < σ'.next ∧ w = .ref n 0 b.length ∧ σ'.res n = some (.obj (bytesAV b)) ∧ ∀ n x, σ.res n = some x → σ'.res n = some x) := by
  refine s_clone (fun wf => ?_)
  unfold c_clone
  have more : ∀ ρ' : List AV, keep [0] 0 ρ' = [v] ++ List.replicate 7 .any → T Try.prog ann_clone (.seq (.reg [⟨(some 5), (.bslice 1 .zero []), none⟩, ⟨(some 6), (.mv (.t 0)), none⟩, ⟨(some 7), (.app 1 1 .own (.t 5) (.t 6)), none⟩, ⟨(some 2), (.mv (.t 7)), none⟩]) .ret)
      (Fin σ [.t 2] (fun w σ' => (w = .sl [] .none ∧ b = [] ∧ ∀ n x, σ.res n = some x → σ'.res n = some x) ∨ ∃ n, σ.next ≤ n ∧ n < σ'.next ∧ w = .ref n 0 b.length ∧ σ'.res n = some (.obj (bytesAV b)) ∧ ∀ n x, σ.res n = some x → σ'.res n = some x)) ρ' σ := by
    intro ρ' hρ
    refine T.gh (Gh.keep [0]) ?_
    rw [hρ]
    clear hρ ρ'
    have hsrc : srcOf (σ.up 4) 1 v = some (bytesAV b) := by
      rcases hv with ⟨g, rfl, _⟩ | ⟨n, rfl, hr⟩
      · simp only [srcOf, bytesAV_er]
      · have e : ((bytesAV b).drop 0).take b.length = bytesAV b := by rw [List.drop_zero, List.take_of_length_le (by rw [bytesAV_len]; exact Nat.le_refl _)]
        have hr' : (σ.up 4).res n = some (.obj (bytesAV b)) := hr
        unfold srcOf
        simp only [hr']
        rw [e, if_pos ⟨by trivial, by rw [bytesAV_len]; omega, by simp [bytesAV, AV.one]⟩]
        simp [bytesAV, AV.er1]
    refine T.seq_k (fun K_h1 h1 => ?_)
    cases b with
    | nil =>
      have hsrc' : srcOf (σ.up 4) 1 v = some [] := hsrc
      refine T.regi hm ?_
      simp only [↓reduceIte, namesOf, List.any, I.names, aopsI, astep, ev, setd, List.set, List.getD, List.getElem?_cons_zero, List.getElem?_cons_succ, List.cons_append, List.nil_append, List.length_cons, List.length_nil, List.replicate, then_normal, Option.getD_some, Bool.or_false, Bool.or_true, Nat.reduceAdd, true_and, eq_self, decide_true, List.isEmpty, hsrc', List.all_nil, Bool.true_and, Nat.zero_add, Nat.zero_mul, Nat.zero_le, and_self, List.append_nil]
      refine h1 _ _ ?_
      try clear h1 K_h1
      exact T.ret (Fin.retw rfl (y := .sl [] .none) (Wk.sl _ _) (.inl ⟨rfl, rfl, fun _ _ h => h⟩))
    | cons x r =>
      have hne : (bytesAV (x :: r)).isEmpty = false := rfl
      refine T.regi hm ?_
      simp only [↓reduceIte, namesOf, List.any, I.names, aopsI, astep, ev, setd, List.set, List.getD, List.getElem?_cons_zero, List.getElem?_cons_succ, List.cons_append, List.nil_append, List.length_cons, List.length_nil, List.replicate, then_normal, Option.getD_some, Bool.or_false, Bool.or_true, Nat.reduceAdd, eq_self, reduceCtorEq, List.isEmpty, hsrc, bytes_all, Bool.true_and, List.nil_append, Nat.zero_add]
      rw [if_pos (by simp only [bytesAV_len, decide_eq_true_eq]; omega)]
      refine h1 _ _ ?_
      try clear h1 K_h1
      refine T.ret (Fin.ret rfl (.inr ⟨σ.next + 2, by omega, by simp, ?_, ?_, set_quiet wf (Nat.le_refl _) (fun _ _ h => h) _ (by omega)⟩))
      · simp [pack, bytesAV_len]
      · rw [St.set_same, bytes_flat]
  refine T.seq_k (fun K_h1 h1 => ?_)
  refine T.regi hm ?_
  simp only [↓reduceIte, namesOf, List.any, I.names, aopsI, astep, ev, setd, List.set, List.cons_append, List.nil_append, List.length_cons, List.length_nil, List.replicate, then_normal, Bool.or_false, Bool.false_eq_true, up_zero, Nat.reduceAdd, Nat.reduceSub]
  refine h1 _ _ ?_
  try clear h1 K_h1
  refine T.seq_k (fun K_h1 h1 => ?_)
  refine T.seq_k (fun K_h2 h2 => ?_)
  have hlen0 : (∃ n, v = .ref n 0 b.length ∧ σ.res n = some (.obj (bytesAV b))) → ∀ K : AV → St → Prop, K (.bool false) σ → True := fun _ _ _ => trivial
  clear hlen0
  rcases hv with ⟨g, rfl, hgn⟩ | ⟨n, rfl, hr⟩
  · have go : ∀ ρ' : List AV, keep [0] 0 ρ' = [.sl (bytesAV b) g] ++ List.replicate 7 .any → ∀ x : Bool, ρ'.getD 4 .any = .bool x → (x = true → b = []) → K_h2 ρ' σ := by
      intro ρ' hρ x hx hn
      refine h2 _ _ ?_
      try clear h2 K_h2
      refine T.cond (b := x) (by simpa [ev] using hx) (fun ht => ?_) (fun _ => T.skip ?_)
      · have hb0 := hn ht
        refine T.gh (Gh.keep [0]) ?_
        rw [hρ]
        refine T.seq_k (fun K_h2 h2 => ?_)
        refine T.regi hm ?_
        simp only [↓reduceIte, namesOf, List.any, I.names, aopsI, astep, ev, setd, List.set, List.cons_append, List.nil_append, List.replicate, then_normal, Bool.or_false, Bool.false_eq_true, up_zero]
        refine h2 _ _ ?_
        try clear h2 K_h2
        exact T.ret (Fin.retw rfl (y := .sl [] .none) (Wk.sl _ _) (.inl ⟨rfl, hb0, fun _ _ h => h⟩))
      · refine h1 _ _ ?_
        try clear h1 K_h1
        exact more _ hρ
    cases b with
    | nil =>
      cases g <;> refine T.regi hm ?_
      simp only [↓reduceIte, namesOf, List.any, I.names, aopsI, astep, ev, setd, List.set, List.getD, List.getElem?_cons_zero, List.getElem?_cons_succ, List.length_nil, then_normal, Option.getD_some, Bool.or_false, Bool.false_eq_true, up_zero, true_and, eq_self, List.isEmpty, bne_self_eq_false]
      · intro x; exact go _ rfl x rfl (fun _ => rfl)
      · exact go _ rfl _ rfl (fun _ => rfl)
      · intro x; exact go _ rfl x rfl (fun _ => rfl)
      · intro x; exact go _ rfl x rfl (fun _ => rfl)
    | cons y r =>
      have hne : (bytesAV (y :: r)).isEmpty = false := rfl
      cases g
      case nil => exact absurd (hgn rfl) (by simp)
      all_goals
        refine T.regi hm ?_
        simp only [↓reduceIte, namesOf, List.any, I.names, aopsI, astep, ev, setd, List.set, List.getD, List.getElem?_cons_zero, List.getElem?_cons_succ, List.length_cons, then_normal, Option.getD_some, Bool.or_false, Bool.false_eq_true, up_zero, reduceCtorEq, hne, bne_self_eq_false]
        exact go _ rfl false rfl (fun h => by cases h)
  · refine T.regi hm ?_
    simp only [↓reduceIte, namesOf, List.any, I.names, aopsI, astep, ev, setd, List.set, List.getD, List.getElem?_cons_zero, List.getElem?_cons_succ, then_normal, Option.getD_some, Bool.or_false, Bool.false_eq_true, up_zero, bne_self_eq_false]
    refine h2 _ _ ?_
    try clear h2 K_h2
    refine T.cond rfl (fun h => by cases h) (fun _ => T.skip ?_)
    refine h1 _ _ ?_
    try clear h1 K_h1
    exact more _ rfl

def tsAt (ts : List Nat) (j : Nat) : Nat := ts.getD j 0
def lenAt (L : Objs) (j : Nat) : Nat := match L[j]? with | some e => e.2.length | none => 0
theorem nodup_le : ∀ (n : Nat) (l : List Nat), l.Nodup → (∀ j ∈ l, j < n) → l.length ≤ n ∧ ∀ f : Nat → Nat, (l.map f).sum ≤ ((List.range n).map f).sum
  | 0, l, _, h => by
    cases l with
    | nil => exact ⟨Nat.le_refl _, fun _ => Nat.le_refl _⟩
    | cons a r => have := h a (by simp); omega
  | n + 1, l, hd, h => by
    by_cases hn : n ∈ l
    · have hp := List.perm_cons_erase hn
      have h1 := nodup_le n (l.erase n) (hd.erase n) (fun j hj => by
        have hj' := (List.Nodup.mem_erase_iff hd).1 hj
        have := h j hj'.2
        omega)
      refine ⟨by have := hp.length_eq; simp only [List.length_cons] at this; omega, fun f => ?_⟩
      have hs := (hp.map f).sum_nat
      rw [hs, List.range_succ, List.map_append, List.sum_append]
      have := h1.2 f
      simp only [List.map_cons, List.sum_cons, List.map_nil, List.sum_nil]
      omega
    · have h1 := nodup_le n l hd (fun j hj => by
        have := h j hj
        by_cases hx : j = n
        · subst hx; exact absurd hj hn
        · omega)
      refine ⟨by omega, fun f => ?_⟩
      rw [List.range_succ, List.map_append, List.sum_append]
      exact Nat.le_trans (h1.2 f) (Nat.le_add_right _ _)
theorem used_range (L : Objs) : usedO L = ((List.range L.length).map (lenAt L)).sum := by
  unfold usedO
  congr 1
  apply List.ext_getElem
  · simp
  · intro i h1 h2
    simp only [List.length_map] at h1
    simp [lenAt, h1]

theorem sused_ok {p m : Nat} {room left calls : Int} {L : Objs} {σ : St} (h : StS σ p m room left calls L) (hu : usedO L ≤ 1099511627776) :
    ACalls Try.prog n_sused [.ptr p 0] σ (fun v σ' => v = .int .i64 (usedO L : Int) ∧ σ' = σ) := by
  refine s_sused (fun wf => ?_)
  unfold c_sused
  obtain ⟨ts, clk, hm', htl, hnd, _⟩ := h.map
  refine T.seq_k (fun K_h1 h1 => ?_)
  refine T.regi hm ?_
  simp only [↓reduceIte, namesOf, List.any, I.names, aopsI, astep, ev, setd, List.set, List.cons_append, List.nil_append, List.length_cons, List.length_nil, List.replicate, then_normal, Bool.or_false, Bool.false_eq_true, up_zero, Nat.reduceAdd, Nat.reduceSub]
  refine h1 _ _ ?_
  try clear h1 K_h1
  refine T.seq_k (fun K_h1 h1 => ?_)
  refine T.regi hm ?_
  simp only [↓reduceIte, namesOf, List.any, I.names, aopsI, astep, ev, setd, List.set, then_normal, Bool.or_false, Bool.false_eq_true, up_zero]
  refine h1 _ _ ?_
  try clear h1 K_h1
  refine T.seq_k (fun K_h1 h1 => ?_)
  refine T.seq_k (fun K_h2 h2 => ?_)
  refine T.regi hm ?_
  simp only [↓reduceIte, namesOf, List.any, I.names, aopsI, astep, ev, setd, List.set, List.getD, List.getElem?_cons_zero, List.getElem?_cons_succ, List.length_cons, List.length_nil, then_normal, Option.getD_some, Bool.or_false, Bool.or_true, Nat.reduceAdd, ↓opt_def, ldc, eq_self, h.obj, hm', St.up_res]
  have hlt : ∀ n x, σ.res n = some x → n < σ.next := fun n x hr => by
    rcases Nat.lt_or_ge n σ.next with h' | h'
    · exact h'
    · rw [wf n h'] at hr; cases hr
  have hmn := hlt _ _ hm'
  have q0 : ((σ.up 5).set (σ.next + 4) (.iter (some m) clk [] clk)).res (σ.next + 4) = some (.iter (some m) clk [] clk) := by simp
  have q1 := set_quiet wf (Nat.le_refl _) (fun _ _ h => h) (k := 5) (.iter (some m) clk [] clk) (a := σ.next + 4) (by omega)
  have q2 : σ.next + 4 ≠ m := by omega
  have q3 : σ.next ≤ σ.next + 4 := by omega
  generalize ((σ.up 5).set (σ.next + 4) (.iter (some m) clk [] clk)) = σ1 at q0 q1 ⊢
  generalize σ.next + 4 = it at q0 q2 q3 ⊢
  refine h2 _ _ ?_
  try clear h2 K_h2
  refine T.block ?_
  refine T.gh (Gh.keep [3, 10]) ?_
  refine T.loopi (fun i ρ s => ∃ is : List Nat, is.length = i ∧ is.Nodup ∧ (∀ j ∈ is, j < L.length) ∧ s.res it = some (.iter (some m) clk (is.map (tsAt ts)) clk) ∧ (∀ n x, σ.res n = some x → s.res n = some x) ∧
    ρ = [.any, .any, .any, .int .i64 (((is.map (lenAt L)).sum : Nat) : Int), .any, .any, .any, .any, .any, .any, .ptr it 0] ++ List.replicate 9 .any)
    L.length 0 (Nat.zero_le _) ⟨[], rfl, List.nodup_nil, fun j hj => (by cases hj), q0, q1, rfl⟩ ?_
  clear q0 q1
  rintro i ρ s hi ⟨is, hil, hind, hisl, q0, q1, rfl⟩
  have hms := q1 _ _ hm'
  refine T.seq_k (fun K_h2 h2 => ?_)
  refine T.regi hm ?_
  simp only [↓reduceIte, namesOf, List.any, I.names, aopsI, astep, ev, setd, List.set, List.getD, List.getElem?_cons_zero, List.getElem?_cons_succ, List.cons_append, List.nil_append, List.replicate, then_normal, Option.getD_some, Bool.or_false, Bool.false_eq_true, up_zero, ↓opt_def, eq_self, q0, hms, and_self]
  refine ⟨fun j pr t hj ht hns => ?_, fun hall => ?_⟩
  · obtain ⟨e, hej, rfl⟩ := objs_get hj
    have hjl : j < L.length := (List.getElem?_eq_some_iff.1 hej).1
    have htj : tsAt ts j = t := by simp [tsAt, ht]
    have hnj : j ∉ is := fun hm => hns (by rw [← htj]; exact List.mem_map_of_mem hm)
    have hnd' : (is ++ [j]).Nodup := List.nodup_append.2 ⟨hind, by simp, fun a ha b hb => by simp only [List.mem_singleton] at hb; subst hb; exact fun e => hnj (e ▸ ha)⟩
    have hlt' : ∀ k ∈ is ++ [j], k < L.length := fun k hk => by
      rcases List.mem_append.1 hk with hk | hk
      · exact hisl k hk
      · simp only [List.mem_singleton] at hk; subst hk; exact hjl
    obtain ⟨n1, n2⟩ := nodup_le _ _ hnd' hlt'
    have n3 := n2 (lenAt L)
    rw [← used_range, List.map_append, List.sum_append] at n3
    have hle : lenAt L j = e.2.length := by simp [lenAt, hej]
    simp only [List.map_cons, List.map_nil, List.sum_cons, List.sum_nil, Nat.add_zero, hle] at n3
    rw [List.length_append, List.length_singleton] at n1
    have r0 : (s.set it (.iter (some m) clk (is.map (tsAt ts) ++ [t]) clk)).res it = some (.iter (some m) clk (is.map (tsAt ts) ++ [t]) clk) := by simp
    have r1 : ∀ n x, σ.res n = some x → (s.set it (.iter (some m) clk (is.map (tsAt ts) ++ [t]) clk)).res n = some x := fun n x hr => by
      rw [St.set_other _ _ (by have := hlt n x hr; omega)]; exact q1 n x hr
    generalize (s.set it (.iter (some m) clk (is.map (tsAt ts) ++ [t]) clk)) = s1 at r0 r1 ⊢
    have hms1 := r1 _ _ hm'
    refine h2 _ _ ?_
    try clear h2 K_h2
    refine T.seq_k (fun K_h3 h3 => ?_)
    refine T.cond rfl (fun _ => T.skip ?_) (fun h => by cases h)
    refine h3 _ _ ?_
    try clear h3 K_h3
    refine T.block ?_
    refine T.seq_k (fun K_h3 h3 => ?_)
    refine T.regi hm ?_
    simp only [↓reduceIte, namesOf, List.any, I.names, aopsI, astep, ev, setd, List.set, List.getD, List.getElem?_cons_zero, List.getElem?_cons_succ, List.cons_append, List.nil_append, List.replicate, then_normal, Option.getD_some, Bool.or_false, Bool.false_eq_true, up_zero, ↓opt_def, eq_self, r0, hms1]
    refine ⟨j, _, t, by simp, ht, hj, ?_⟩
    refine h3 _ _ ?_
    try clear h3 K_h3
    have ew : IntKind.i64.wrap (((is.map (lenAt L)).sum : Int) + (e.2.length : Int)) = ((((is ++ [j]).map (lenAt L)).sum : Nat) : Int) := by
      rw [List.map_append, List.sum_append]
      simp only [List.map_cons, List.map_nil, List.sum_cons, List.sum_nil, Nat.add_zero, hle]
      rw [wrap64 (by omega) (by omega)]; omega
    refine T.regi hm ?_
    simp only [↓reduceIte, namesOf, List.any, I.names, aopsI, astep, ev, setd, List.set, List.getD, List.getElem?_cons_zero, List.getElem?_cons_succ, List.cons_append, List.nil_append, List.replicate, then_normal, inBlock_normal, Option.getD_some, Bool.or_false, Bool.false_eq_true, up_zero, binv, ↓opt_def, eq_self, bytesAV_len, ew]
    refine ⟨by omega, _, _, Gh.keep [3, 10], is ++ [j], by simp [hil], hnd', hlt', ?_, r1, rfl⟩
    rw [r0, List.map_append]
    simp [htj]
  · have hmem : ∀ k, k < L.length → k ∈ is := by
      intro k hk
      have hk' : k < ts.length := by omega
      have h1 := hall ts[k] (List.getElem_mem hk')
      obtain ⟨j, hj, he⟩ := List.mem_map.1 h1
      have hjl : j < ts.length := by rw [htl]; exact hisl j hj
      have e1 : tsAt ts j = ts[j] := by simp [tsAt, hjl]
      rw [e1] at he
      have : j = k := by
        rcases Nat.lt_trichotomy j k with hlt2 | heq | hgt
        · exact absurd he (List.pairwise_iff_getElem.1 hnd j k hjl hk' hlt2)
        · exact heq
        · exact absurd he.symm (List.pairwise_iff_getElem.1 hnd k j hk' hjl hgt)
      rw [← this]; exact hj
    have hperm : is.Perm (List.range L.length) := (List.perm_ext_iff_of_nodup hind List.nodup_range).2 fun k => ⟨fun h => by simpa using hisl k h, fun h => hmem k (by simpa using h)⟩
    have hsum : (is.map (lenAt L)).sum = usedO L := by rw [used_range]; exact (hperm.map _).sum_nat
    refine h2 _ _ ?_
    try clear h2 K_h2
    refine T.seq_k (fun K_h3 h3 => ?_)
    refine T.cond rfl (fun h => by cases h) (fun _ => T.exit ?_)
    try simp only [List.cons_append, List.nil_append, List.replicate, then_normal, inBlock_exit, then_exit]
    refine h1 _ _ ?_
    try clear h1 K_h1
    refine T.seq_k (fun K_h1 h1 => ?_)
    refine T.regi hm ?_
    simp only [↓reduceIte, namesOf, List.any, I.names, aopsI, astep, ev, setd, List.set, List.getD, List.getElem?_cons_zero, List.getElem?_cons_succ, then_normal, Option.getD_some, Bool.or_false, Bool.false_eq_true, up_zero]
    refine h1 _ _ ?_
    try clear h1 K_h1
    exact T.ret (Fin.quiet rfl trivial q1 ⟨by rw [hsum]; rfl, rfl⟩)
end Go.VL

/- Contracts: a store's names; a new store. -/
namespace Go.VL
open Go.Proofs

/-- is it none of those that a name may have? -/
def oddC (c : Int) : Bool := !(decide (97 ≤ c) && decide (c ≤ 122) || (decide (48 ≤ c) && decide (c ≤ 57)) || c == 47 || c == 45)
theorem named1_ok {c : Int} {σ : St} : ACalls Try.prog n_named1 [.int .i32 c] σ (fun v σ' => v = .bool (oddC c) ∧ σ' = σ) := by
  refine s_named1 (fun wf => ?_)
  unfold c_named1
  refine T.seq_k (fun K_h1 h1 => ?_)
  refine T.regi hm ?_
  simp only [↓reduceIte, namesOf, List.any, I.names, aopsI, astep, ev, setd, List.set, List.cons_append, List.nil_append, List.length_cons, List.length_nil, List.replicate, then_normal, Bool.or_false, Bool.false_eq_true, up_zero, Nat.reduceAdd, Nat.reduceSub]
  refine h1 _ _ ?_
  try clear h1 K_h1
  refine T.seq_k (fun K_h1 h1 => ?_)
  have g1 : decide (c ≥ 97) = decide (97 ≤ c) := rfl
  have g2 : decide (c ≥ 48) = decide (48 ≤ c) := rfl
  cases a1 : decide (97 ≤ c)
  · cases a3 : decide (48 ≤ c)
    · cases a5 : (c == 47)
      · refine T.regi hm ?_
        simp only [↓reduceIte, namesOf, List.any, I.names, aopsI, astep, ev, setd, List.set, List.getD, List.getElem?_cons_zero, List.getElem?_cons_succ, then_normal, Option.getD_some, Bool.or_false, Bool.false_eq_true, up_zero, binv, ↓opt_def, eq_self, g1, g2, a1, a3, a5]
        refine h1 _ _ ?_
        try clear h1 K_h1
        exact T.ret (Fin.ret rfl ⟨by simp [pack, oddC, a1, a3, a5], rfl⟩)
      · refine T.regi hm ?_
        simp only [↓reduceIte, namesOf, List.any, I.names, aopsI, astep, ev, setd, List.set, List.getD, List.getElem?_cons_zero, List.getElem?_cons_succ, then_normal, Option.getD_some, Bool.or_false, Bool.false_eq_true, up_zero, binv, ↓opt_def, eq_self, reduceCtorEq, g1, g2, a1, a3, a5, reduceCtorEq]
        refine h1 _ _ ?_
        try clear h1 K_h1
        exact T.ret (Fin.ret rfl ⟨by simp [pack, oddC, a1, a3, a5], rfl⟩)
    · cases a4 : decide (c ≤ 57)
      · cases a5 : (c == 47)
        · refine T.regi hm ?_
          simp only [↓reduceIte, namesOf, List.any, I.names, aopsI, astep, ev, setd, List.set, List.getD, List.getElem?_cons_zero, List.getElem?_cons_succ, then_normal, Option.getD_some, Bool.or_false, Bool.false_eq_true, up_zero, binv, ↓opt_def, eq_self, g1, g2, a1, a3, a4, a5]
          refine h1 _ _ ?_
          try clear h1 K_h1
          exact T.ret (Fin.ret rfl ⟨by simp [pack, oddC, a1, a3, a4, a5], rfl⟩)
        · refine T.regi hm ?_
          simp only [↓reduceIte, namesOf, List.any, I.names, aopsI, astep, ev, setd, List.set, List.getD, List.getElem?_cons_zero, List.getElem?_cons_succ, then_normal, Option.getD_some, Bool.or_false, Bool.false_eq_true, up_zero, binv, ↓opt_def, eq_self, reduceCtorEq, g1, g2, a1, a3, a4, a5, reduceCtorEq]
          refine h1 _ _ ?_
          try clear h1 K_h1
          exact T.ret (Fin.ret rfl ⟨by simp [pack, oddC, a1, a3, a4, a5], rfl⟩)
      · refine T.regi hm ?_
        simp only [↓reduceIte, namesOf, List.any, I.names, aopsI, astep, ev, setd, List.set, List.getD, List.getElem?_cons_zero, List.getElem?_cons_succ, then_normal, Option.getD_some, Bool.or_false, Bool.false_eq_true, up_zero, binv, ↓opt_def, eq_self, reduceCtorEq, g1, g2, a1, a3, a4, reduceCtorEq]
        refine h1 _ _ ?_
        try clear h1 K_h1
        exact T.ret (Fin.ret rfl ⟨by simp [pack, oddC, a1, a3, a4], rfl⟩)
  · cases a2 : decide (c ≤ 122)
    · have h97 : 97 ≤ c := by simpa using a1
      have h122 : ¬ c ≤ 122 := by simpa using a2
      have a4 : decide (48 ≤ c) = true := decide_eq_true (by omega)
      have a6 : decide (c ≤ 57) = false := decide_eq_false (by omega)
      cases a5 : (c == 47)
      · refine T.regi hm ?_
        simp only [↓reduceIte, namesOf, List.any, I.names, aopsI, astep, ev, setd, List.set, List.getD, List.getElem?_cons_zero, List.getElem?_cons_succ, then_normal, Option.getD_some, Bool.or_false, Bool.false_eq_true, up_zero, binv, ↓opt_def, eq_self, g1, g2, a1, a2, a4, a6, a5]
        refine h1 _ _ ?_
        try clear h1 K_h1
        exact T.ret (Fin.ret rfl ⟨by simp [pack, oddC, a1, a2, a4, a6, a5], rfl⟩)
      · refine T.regi hm ?_
        simp only [↓reduceIte, namesOf, List.any, I.names, aopsI, astep, ev, setd, List.set, List.getD, List.getElem?_cons_zero, List.getElem?_cons_succ, then_normal, Option.getD_some, Bool.or_false, Bool.false_eq_true, up_zero, binv, ↓opt_def, eq_self, reduceCtorEq, g1, g2, a1, a2, a4, a6, a5, reduceCtorEq]
        refine h1 _ _ ?_
        try clear h1 K_h1
        exact T.ret (Fin.ret rfl ⟨by simp [pack, oddC, a1, a2, a4, a6, a5], rfl⟩)
    · refine T.regi hm ?_
      simp only [↓reduceIte, namesOf, List.any, I.names, aopsI, astep, ev, setd, List.set, List.getD, List.getElem?_cons_zero, List.getElem?_cons_succ, then_normal, Option.getD_some, Bool.or_false, Bool.false_eq_true, up_zero, binv, ↓opt_def, eq_self, reduceCtorEq, g1, a1, a2, reduceCtorEq]
      refine h1 _ _ ?_
      try clear h1 K_h1
      exact T.ret (Fin.ret rfl ⟨by simp [pack, oddC, a1, a2], rfl⟩)

theorem decode_pos (s : ByteArray) (i : Nat) : 1 ≤ (Utf8.decode s i).2 := by
  unfold Utf8.decode
  simp only
  repeat' split
  all_goals simp

/-- no rune is odd, from a place on -/
def okFrom (s : ByteArray) : Nat → Nat → Bool
  | 0, _ => true
  | f + 1, pos => if pos < s.size then !oddC (Utf8.decode s pos).1 && okFrom s f (pos + (Utf8.decode s pos).2) else true
theorem okFrom_end (s : ByteArray) : ∀ f pos, s.size ≤ pos → okFrom s f pos = true
  | 0, _, _ => rfl
  | f + 1, pos, h => by unfold okFrom; rw [if_neg (by omega)]

set_option maxRecDepth 10000 in
theorem ixf2_ok {s : ByteArray} {σ : St} (_ : s.size ≤ 9223372036854775807) : ACalls Try.prog n_ixf2 [.str s, .func n_named1 [] [], .bool true] σ (fun v σ' => (∃ r : Int, v = .int .i64 r ∧ decide (r < 0) = okFrom s s.size 0) ∧ σ' = σ) := by
  refine s_ixf2 (fun wf => ?_)
  unfold c_ixf2
  refine T.seq_k (fun K_h1 h1 => ?_)
  refine T.regi hm ?_
  simp only [↓reduceIte, namesOf, List.any, I.names, aopsI, astep, ev, setd, List.set, List.cons_append, List.nil_append, List.length_cons, List.length_nil, List.replicate, then_normal, Bool.or_false, Bool.false_eq_true, up_zero, Nat.reduceAdd, Nat.reduceSub]
  refine h1 _ _ ?_
  try clear h1 K_h1
  refine T.seq_k (fun K_h1 h1 => ?_)
  refine T.seq_k (fun K_h2 h2 => ?_)
  refine T.regi hm ?_
  simp only [↓reduceIte, namesOf, List.any, I.names, aopsI, astep, ev, setd, List.set, List.getD, List.getElem?_cons_zero, List.getElem?_cons_succ, List.length_cons, List.length_nil, then_normal, Option.getD_some, Bool.or_false, Bool.or_true, Nat.reduceAdd, eq_self]
  have hlt : ∀ n x, σ.res n = some x → n < σ.next := fun n x hr => by
    rcases Nat.lt_or_ge n σ.next with h' | h'
    · exact h'
    · rw [wf n h'] at hr; cases hr
  have q0 : ((σ.up 2).set (σ.next + 1) (.siter s 0)).res (σ.next + 1) = some (.siter s 0) := by simp
  have q1 := set_quiet wf (Nat.le_refl _) (fun _ _ h => h) (k := 2) (.siter s 0) (a := σ.next + 1) (by omega)
  have q3 : σ.next ≤ σ.next + 1 := by omega
  generalize ((σ.up 2).set (σ.next + 1) (.siter s 0)) = σ1 at q0 q1 ⊢
  generalize σ.next + 1 = it at q0 q3 ⊢
  refine h2 _ _ ?_
  try clear h2 K_h2
  refine T.block ?_
  refine T.gh (Gh.keep [1, 2, 10]) ?_
  refine T.loopi (fun i ρ s' => ∃ pos : Nat, i ≤ pos ∧ okFrom s s.size 0 = okFrom s (s.size - i) pos ∧ s'.res it = some (.siter s pos) ∧ (∀ n x, σ.res n = some x → s'.res n = some x) ∧
    ρ = [.any, .func n_named1 [] [], .bool true, .any, .any, .any, .any, .any, .any, .any, .ptr it 0] ++ List.replicate 10 .any)
    s.size 0 (Nat.zero_le _) ⟨0, Nat.le_refl _, rfl, q0, q1, rfl⟩ ?_
  clear q0 q1
  rintro i ρ s' hi ⟨pos, hip, hok, q0, q1, rfl⟩
  refine T.seq_k (fun K_h2 h2 => ?_)
  by_cases hp : pos < s.size
  · refine T.regi hm ?_
    simp only [↓reduceIte, namesOf, List.any, I.names, aopsI, astep, ev, setd, List.set, List.getD, List.getElem?_cons_zero, List.getElem?_cons_succ, List.cons_append, List.nil_append, List.replicate, then_normal, Option.getD_some, Bool.or_false, Bool.false_eq_true, up_zero, ↓opt_def, q0, hp]
    have r0 : (s'.set it (.siter s (pos + (Utf8.decode s pos).2))).res it = some (.siter s (pos + (Utf8.decode s pos).2)) := by simp
    have r1 : ∀ n x, σ.res n = some x → (s'.set it (.siter s (pos + (Utf8.decode s pos).2))).res n = some x := fun n x hr => by
      rw [St.set_other _ _ (by have := hlt n x hr; omega)]; exact q1 n x hr
    generalize (s'.set it (.siter s (pos + (Utf8.decode s pos).2))) = s1 at r0 r1 ⊢
    refine h2 _ _ ?_
    try clear h2 K_h2
    refine T.seq_k (fun K_h3 h3 => ?_)
    refine T.cond rfl (fun _ => T.skip ?_) (fun h => by cases h)
    refine h3 _ _ ?_
    try clear h3 K_h3
    refine T.block ?_
    refine T.seq_k (fun K_h3 h3 => ?_)
    refine T.regi hm ?_
    simp only [↓reduceIte, namesOf, List.any, I.names, aopsI, astep, ev, setd, List.set, List.getD, List.getElem?_cons_zero, List.getElem?_cons_succ, List.cons_append, List.nil_append, List.replicate, then_normal, Option.getD_some, Bool.or_false, Bool.false_eq_true, up_zero, ↓opt_def]
    refine h3 _ _ ?_
    try clear h3 K_h3
    refine T.seq_k (fun K_h3 h3 => ?_)
    refine T.regi hm ?_
    simp only [↓reduceIte, namesOf, List.any, I.names, aopsI, astep, ev, setd, List.set, List.getD, List.getElem?_cons_zero, List.getElem?_cons_succ, List.cons_append, List.nil_append, List.replicate, then_normal, Option.getD_some, Bool.or_false, Bool.false_eq_true, up_zero, List.map_cons, List.map_nil]
    refine named1_ok.mono ?_
    rintro v s2 ⟨rfl, rfl⟩
    have hstep : okFrom s (s.size - i) pos = (!oddC ((Utf8.decode s pos).1 : Int) && okFrom s (s.size - (i + 1)) (pos + (Utf8.decode s pos).2)) := by
      obtain ⟨n, hn⟩ : ∃ n, s.size - i = n + 1 := ⟨s.size - i - 1, by omega⟩
      rw [hn, show s.size - (i + 1) = n by omega]
      conv => lhs; unfold okFrom
      rw [if_pos hp]
    cases ho : oddC ((Utf8.decode s pos).1 : Int) with
    | true =>
      try simp only [beq_self_eq_true, Bool.bne_false]
      refine h3 _ _ ?_
      try clear h3 K_h3
      refine T.cond rfl (fun _ => ?_) (fun h => by cases h)
      refine T.seq_k (fun K_h3 h3 => ?_)
      refine T.regi hm ?_
      simp only [↓reduceIte, namesOf, List.any, I.names, aopsI, astep, ev, setd, List.set, List.getD, List.getElem?_cons_zero, List.getElem?_cons_succ, List.cons_append, List.nil_append, List.replicate, then_normal, Option.getD_some, Bool.or_false, Bool.false_eq_true, up_zero]
      refine h3 _ _ ?_
      try clear h3 K_h3
      refine T.ret (Fin.quiet rfl trivial r1 ⟨⟨_, rfl, ?_⟩, rfl⟩)
      rw [hok, hstep, ho]
      simp
    | false =>
      have eb : ((false == true) != false) = false := rfl
      try simp only [eb]
      refine h3 _ _ ?_
      try clear h3 K_h3
      refine T.cond rfl (fun h => by cases h) (fun _ => T.skip ?_)
      have hdp := decode_pos s pos
      refine ⟨by omega, _, _, Gh.keep [1, 2, 10], pos + (Utf8.decode s pos).2, by omega, ?_, r0, r1, rfl⟩
      rw [hok, hstep, ho]; rfl
  · refine T.regi hm ?_
    simp only [↓reduceIte, namesOf, List.any, I.names, aopsI, astep, ev, setd, List.set, List.getD, List.getElem?_cons_zero, List.getElem?_cons_succ, List.cons_append, List.nil_append, List.replicate, then_normal, Option.getD_some, Bool.or_false, Bool.false_eq_true, up_zero, ↓opt_def, q0, hp]
    refine h2 _ _ ?_
    try clear h2 K_h2
    refine T.seq_k (fun K_h3 h3 => ?_)
    refine T.cond rfl (fun h => by cases h) (fun _ => T.exit ?_)
    try simp only [List.cons_append, List.nil_append, List.replicate, then_normal, inBlock_exit, then_exit]
    refine h1 _ _ ?_
    try clear h1 K_h1
    refine T.seq_k (fun K_h1 h1 => ?_)
    refine T.regi hm ?_
    simp only [↓reduceIte, namesOf, List.any, I.names, aopsI, astep, ev, setd, List.set, then_normal, Bool.or_false, Bool.false_eq_true, up_zero]
    refine h1 _ _ ?_
    try clear h1 K_h1
    refine T.ret (Fin.quiet rfl trivial q1 ⟨⟨-1, rfl, ?_⟩, rfl⟩)
    rw [hok, okFrom_end _ _ _ (by omega)]; rfl

def namedB (s : ByteArray) : Bool := decide (1 ≤ s.size) && decide (s.size ≤ 32) && okFrom s s.size 0
theorem ixf_ok {s : ByteArray} {σ : St} (hl : s.size ≤ 9223372036854775807) : ACalls Try.prog n_ixf [.str s, .func n_named1 [] []] σ (fun v σ' => (∃ r : Int, v = .int .i64 r ∧ decide (r < 0) = okFrom s s.size 0) ∧ σ' = σ) := by
  refine s_ixf (fun wf => ?_)
  unfold c_ixf
  refine T.seq_k (fun K_h1 h1 => ?_)
  refine T.regi hm ?_
  simp only [↓reduceIte, namesOf, List.any, I.names, aopsI, astep, ev, setd, List.set, List.cons_append, List.nil_append, List.length_cons, List.length_nil, List.replicate, then_normal, Bool.or_false, Bool.false_eq_true, up_zero, Nat.reduceAdd, Nat.reduceSub]
  refine h1 _ _ ?_
  try clear h1 K_h1
  refine T.seq_k (fun K_h1 h1 => ?_)
  refine T.regi hm ?_
  simp only [↓reduceIte, namesOf, List.any, I.names, aopsI, astep, ev, setd, List.set, List.getD, List.getElem?_cons_zero, List.getElem?_cons_succ, then_normal, Option.getD_some, Bool.or_false, Bool.false_eq_true, up_zero, List.map_cons, List.map_nil]
  refine (ixf2_ok hl).mono ?_
  rintro v s2 ⟨⟨r, rfl, hr⟩, rfl⟩
  try simp only [↓reduceIte, namesOf, List.any, I.names, aops, aopsI, aopsT, qstep, CPt, qget, Tbl.get, astep, ev, setd, List.set, List.getD, List.getElem?_cons_zero, List.getElem?_cons_succ, List.getElem?_nil, List.cons_append, List.nil_append, List.length_cons, List.length_nil, List.replicate, then_normal, inBlock_normal, Option.getD_some, Option.getD_none, Bool.or_false, Bool.or_true, Bool.true_or, Bool.false_or, Bool.false_eq_true, if_false, if_true, up_zero, Nat.reduceAdd, Nat.reduceSub, binv, ↓opt_def, AV.isAny, AV.cells, ldc, List.map_cons, List.map_nil, St.set_next, St.set_same, St.up_next, Int.natCast_nonneg, lt_len, le_len, Int.toNat_natCast, true_and, and_true, eq_self, reduceCtorEq, decide_true, List.length_singleton, er_int, er_bool, er_str, up_zero]
  refine h1 _ _ ?_
  try clear h1 K_h1
  exact T.ret (Fin.ret rfl ⟨⟨r, rfl, hr⟩, rfl⟩)
theorem named_ok {s : ByteArray} {σ : St} (hl : s.size ≤ 9223372036854775807) : ACalls Try.prog n_named [.str s] σ (fun v σ' => v = .bool (namedB s) ∧ σ' = σ) := by
  refine s_named (fun wf => ?_)
  unfold c_named
  refine T.seq_k (fun K_h1 h1 => ?_)
  refine T.regi hm ?_
  simp only [↓reduceIte, namesOf, List.any, I.names, aopsI, astep, ev, setd, List.set, List.cons_append, List.nil_append, List.length_cons, List.length_nil, List.replicate, then_normal, Bool.or_false, Bool.false_eq_true, up_zero, Nat.reduceAdd, Nat.reduceSub]
  refine h1 _ _ ?_
  try clear h1 K_h1
  refine T.seq_k (fun K_h1 h1 => ?_)
  refine T.regi hm ?_
  simp only [↓reduceIte, namesOf, List.any, I.names, aopsI, astep, ev, setd, List.set, then_normal, Bool.or_false, Bool.false_eq_true, up_zero]
  refine h1 _ _ ?_
  try clear h1 K_h1
  refine T.seq_k (fun K_h1 h1 => ?_)
  by_cases c1 : 1 ≤ s.size
  case neg =>
    have e1 : decide ((s.size : Int) ≥ 1) = false := decide_eq_false (by omega)
    refine T.regi hm ?_
    simp only [↓reduceIte, namesOf, List.any, I.names, aopsI, astep, ev, setd, List.set, List.getD, List.getElem?_cons_zero, List.getElem?_cons_succ, then_normal, Option.getD_some, Bool.or_false, Bool.false_eq_true, up_zero, binv, ↓opt_def, eq_self, e1]
    refine h1 _ _ ?_
    try clear h1 K_h1
    exact T.ret (Fin.ret rfl ⟨by unfold namedB; rw [decide_eq_false c1]; rfl, rfl⟩)
  have e1 : decide ((s.size : Int) ≥ 1) = true := decide_eq_true (by omega)
  by_cases c2 : s.size ≤ 32
  case neg =>
    have e2 : decide ((s.size : Int) ≤ 32) = false := decide_eq_false (by omega)
    refine T.regi hm ?_
    simp only [↓reduceIte, namesOf, List.any, I.names, aopsI, astep, ev, setd, List.set, List.getD, List.getElem?_cons_zero, List.getElem?_cons_succ, then_normal, Option.getD_some, Bool.or_false, Bool.false_eq_true, up_zero, binv, ↓opt_def, eq_self, e1, e2]
    refine h1 _ _ ?_
    try clear h1 K_h1
    exact T.ret (Fin.ret rfl ⟨by unfold namedB; rw [decide_eq_false c2, Bool.and_false]; rfl, rfl⟩)
  have e2 : decide ((s.size : Int) ≤ 32) = true := decide_eq_true (by omega)
  refine T.regi hm ?_
  simp only [↓reduceIte, namesOf, List.any, I.names, aopsI, astep, ev, setd, List.set, List.getD, List.getElem?_cons_zero, List.getElem?_cons_succ, then_normal, Option.getD_some, Bool.or_false, Bool.false_eq_true, up_zero, binv, ↓opt_def, List.map_cons, List.map_nil, eq_self, e1, e2]
  refine (ixf_ok hl).mono ?_
  rintro v s2 ⟨⟨r, rfl, hr⟩, rfl⟩
  try simp only [↓reduceIte, eq_self, hr]
  refine h1 _ _ ?_
  try clear h1 K_h1
  exact T.ret (Fin.ret rfl ⟨by unfold namedB; rw [decide_eq_true c1, decide_eq_true c2]; rfl, rfl⟩)
end Go.VL

/- Contracts: what is done with a store. -/
namespace Go.VL
open Go.Proofs

/-- an owned row that comes back, told to be a value -/
theorem Gv.freeze {σ0 σ : St} {n off len k : Nat} {cs xs : List AV} (hr : σ.res n = some (.obj cs)) (hlen : xs.length = len) (hk : ∀ x ∈ xs, x.cells.length = k)
    (hx : xs.flatMap AV.cells = (cs.drop off).take (len * k)) : Gv σ0 (.ref n off len) σ (.sl xs .none) (σ.del n) := by
  intro κ0 w0 B0 F0 F κ w v h0 hR he hd hn hv
  obtain ⟨hdm, us, rest, ty, fz, h1, h2, h3, h4⟩ := hR.own n _ hr
  have e : Ext κ w { κ with I := fun b o => κ.I b o ∨ (b = κ.φ n ∧ o < us.length) } w := ⟨fun _ _ x => .inl x, fun _ _ => rfl, fun _ _ => rfl, fun _ _ => rfl, fun _ _ => rfl, fun _ x => x, fun _ _ _ => rfl⟩
  have hlt := hR.lt hr
  have hR' : R w0.heap.size F { κ with I := fun b o => κ.I b o ∨ (b = κ.φ n ∧ o < us.length) } w (σ.del n) := by
    refine hR.step e (fun m hm => hR.dom m hm) (fun b o hi => ?_) (fun m r hm => ?_)
    · rcases hi with hi | ⟨rfl, _⟩
      · exact hR.imm b o hi
      · exact hlt
    · have hmn : m ≠ n := by intro e; subst e; simp [St.del] at hm
      have hm' : σ.res m = some r := by simpa [St.del, hmn] using hm
      refine .inl ⟨hm', rfl, fun o hi => ?_⟩
      rcases hi with hi | ⟨hx, _⟩
      · exact hi
      · exact absurd (hR.apart _ _ _ _ hm' hr hx) hmn
  obtain ⟨cap, rfl, hcap, _⟩ := hv.ref_inv
  refine ⟨_, hR', he.trans e, hd, hn, ?_⟩
  rw [← hlen]
  refine .sl _ _ cap k xs hk (by rw [hlen]; exact hcap) ?_
  rw [hx]
  refine Vs.mk (us := (us.drop off).take (len * k)) (((h3.mono e).drop off).take _) (fun i u hu => ?_)
  have hu2 : us[off + i]? = some u := by
    rw [List.getElem?_take] at hu
    split at hu
    · simpa using hu
    · cases hu
  have hil : off + i < us.length := (List.getElem?_eq_some_iff.1 hu2).1
  exact ⟨.inr ⟨rfl, hil⟩, by rw [cell_of h1, List.getElem?_append_left hil]; exact hu2⟩

abbrev BytesV (σ : St) (v : AV) (b : List UInt8) : Prop := (∃ g, v = .sl (bytesAV b) g ∧ (g = .nil → b = [])) ∨ ∃ n, v = .ref n 0 b.length ∧ σ.res n = some (.obj (bytesAV b))

theorem clone_q {b : List UInt8} {v : AV} {σ : St} (hb : b.length ≤ 1099511627776) (hv : BytesV σ v b) : ACalls Try.prog n_clone [v] σ (fun w σ' => w = .sl (bytesAV b) .none ∧ σ' = σ) := by
  refine (clone_ok hb hv).gv ?_
  rintro wf w σ' (⟨rfl, rfl, ho⟩ | ⟨n, h1, h2, rfl, h3, ho⟩)
  · exact ⟨_, _, Gv.quiet ⟨trivial, trivial⟩ ho, rfl, rfl⟩
  · refine ⟨_, _, (Gv.freeze (k := 1) h3 (xs := bytesAV b) (bytesAV_len b) (fun x hx => ?_) ?_).trans (Gv.quiet ⟨nb_bytes _ _, trivial⟩ (fun m x hm => ?_)), rfl, rfl⟩
    · obtain ⟨y, _, rfl⟩ := List.mem_map.1 hx; rfl
    · rw [bytes_flat, List.drop_zero, Nat.mul_one, List.take_of_length_le (by rw [bytesAV_len]; exact Nat.le_refl _)]
    · have hmn : m ≠ n := by
        rintro rfl
        rw [wf m h1] at hm; cases hm
      simp only [St.del]
      rw [if_neg hmn]; exact ho m x hm

/-- all else is as it was -/
structure Nx (σ σ' : St) (p m : Nat) : Prop where
  next : σ.next ≤ σ'.next
  old : ∀ n x, n ≠ p → n ≠ m → σ.res n = some x → σ'.res n = some x
theorem Nx.refl (σ : St) (p m : Nat) : Nx σ σ p m := ⟨Nat.le_refl _, fun _ _ _ _ h => h⟩
theorem Nx.trans {σ σ1 σ2 : St} {p m : Nat} (h : Nx σ σ1 p m) (k : Nx σ1 σ2 p m) : Nx σ σ2 p m := ⟨Nat.le_trans h.next k.next, fun n x h1 h2 h3 => k.old n x h1 h2 (h.old n x h1 h2 h3)⟩
theorem Nx.set {σ : St} {p m : Nat} (r : Res) : Nx σ (σ.set p r) p m := ⟨Nat.le_refl _, fun n x h1 _ h3 => by rw [St.set_other _ _ h1]; exact h3⟩
theorem Nx.setm {σ : St} {p m : Nat} (r : Res) : Nx σ (σ.set m r) p m := ⟨Nat.le_refl _, fun n x _ h2 h3 => by rw [St.set_other _ _ h2]; exact h3⟩
theorem StS.called {σ : St} {p m : Nat} {room left calls : Int} {L : Objs} (h : StS σ p m room left calls L) (l2 c2 : Int) : StS (σ.set p (.obj [.int .i64 room, .map m, .int .i64 l2, .int .i64 c2])) p m room l2 c2 L := by
  obtain ⟨ts, clk, h1, h2⟩ := h.map
  exact ⟨by simp, ⟨ts, clk, by rw [St.set_other _ _ (Ne.symm h.ne)]; exact h1, h2⟩, h.ne⟩

theorem snew_ok {room : Int} {σ : St} (hr : 1 ≤ room ∧ room ≤ 1048576) : ACalls Try.prog n_snew [.int .i64 room] σ (fun v σ' => ∃ p m, v = .tup [.ptr p 0, .nili] ∧ StS σ' p m room (-1) 0 [] ∧ σ.next ≤ p ∧ σ.next ≤ m ∧ p < σ'.next ∧ m < σ'.next ∧ ∀ n x, σ.res n = some x → σ'.res n = some x) := by
  refine s_snew (fun wf => ?_)
  unfold c_snew
  refine T.seq_k (fun K_h1 h1 => ?_)
  refine T.regi hm ?_
  simp only [↓reduceIte, namesOf, List.any, I.names, aopsI, astep, ev, setd, List.set, List.cons_append, List.nil_append, List.length_cons, List.length_nil, List.replicate, then_normal, Bool.or_false, Bool.false_eq_true, up_zero, Nat.reduceAdd, Nat.reduceSub]
  refine h1 _ _ ?_
  try clear h1 K_h1
  refine T.seq_k (fun K_h1 h1 => ?_)
  refine T.seq_k (fun K_h2 h2 => ?_)
  have e1 : decide (room < 1) = false := decide_eq_false (by omega)
  have e2 : decide (room > 1048576) = false := decide_eq_false (by omega)
  refine T.regi hm ?_
  simp only [↓reduceIte, namesOf, List.any, I.names, aopsI, astep, ev, setd, List.set, List.getD, List.getElem?_cons_zero, List.getElem?_cons_succ, then_normal, Option.getD_some, Bool.or_false, Bool.false_eq_true, up_zero, binv, ↓opt_def, eq_self, e1, e2]
  refine h2 _ _ ?_
  try clear h2 K_h2
  refine T.cond rfl (fun h => by cases h) (fun _ => T.skip ?_)
  refine h1 _ _ ?_
  try clear h1 K_h1
  refine T.seq_k (fun K_h1 h1 => ?_)
  refine T.regi hm ?_
  simp only [↓reduceIte, namesOf, List.any, I.names, aopsI, astep, ev, setd, List.set, List.getD, List.getElem?_cons_zero, List.getElem?_cons_succ, List.cons_append, List.nil_append, List.length_cons, List.length_nil, then_normal, Option.getD_some, Bool.or_false, Bool.or_true, Bool.false_eq_true, Nat.reduceAdd, ↓opt_def, AV.isAny, AV.cells, eq_self, fillA, Option.map, AV.fits, AV.one, List.all_cons, List.all_nil, Nat.reduceBEq, Bool.not_false, Bool.and_self, Nat.zero_add, splice, List.take, List.drop, Nat.reduceLeDiff, and_self]
  refine h1 _ _ ?_
  try clear h1 K_h1
  refine T.ret (Fin.ret rfl ⟨σ.next + 3, σ.next + 1, rfl, ⟨by simp, ⟨[], 0, ?_, rfl, .nil, fun _ h => by cases h⟩, by omega⟩, by omega, by omega, by simp, by simp, fun n x hx => ?_⟩)
  · rw [St.set_other _ _ (by omega)]; simp [objsAV]
  · have hn : n < σ.next := by
      rcases Nat.lt_or_ge n σ.next with h' | h'
      · exact h'
      · rw [wf n h'] at hx; cases hx
    rw [St.set_other _ _ (by omega), St.set_other _ _ (by omega)]; exact hx

theorem snew_bad {σ : St} : ACalls Try.prog n_snew [.int .i64 0] σ (fun v σ' => v = .tup [.nilp, .iface tCode (.int .i64 1)] ∧ σ' = σ) := by
  refine s_snew (fun wf => ?_)
  unfold c_snew
  refine T.seq_k (fun K_h1 h1 => ?_)
  refine T.regi hm ?_
  simp only [↓reduceIte, namesOf, List.any, I.names, aopsI, astep, ev, setd, List.set, List.cons_append, List.nil_append, List.length_cons, List.length_nil, List.replicate, then_normal, Bool.or_false, Bool.false_eq_true, up_zero, Nat.reduceAdd, Nat.reduceSub]
  refine h1 _ _ ?_
  try clear h1 K_h1
  refine T.seq_k (fun K_h1 h1 => ?_)
  refine T.seq_k (fun K_h2 h2 => ?_)
  have e1 : decide ((0 : Int) < 1) = true := rfl
  refine T.regi hm ?_
  simp only [↓reduceIte, namesOf, List.any, I.names, aopsI, astep, ev, setd, List.set, List.getD, List.getElem?_cons_zero, List.getElem?_cons_succ, then_normal, Option.getD_some, Bool.or_false, Bool.false_eq_true, up_zero, binv, ↓opt_def, eq_self, reduceCtorEq, e1, reduceCtorEq]
  refine h2 _ _ ?_
  try clear h2 K_h2
  refine T.cond rfl (fun _ => ?_) (fun h => by cases h)
  refine T.seq_k (fun K_h2 h2 => ?_)
  refine T.regi hm ?_
  simp only [↓reduceIte, namesOf, List.any, I.names, aopsI, astep, ev, setd, List.set, List.getD, List.getElem?_cons_zero, List.getElem?_cons_succ, then_normal, Option.getD_some, Bool.or_false, Bool.false_eq_true, up_zero]
  refine h2 _ _ ?_
  try clear h2 K_h2
  exact T.ret (Fin.ret rfl ⟨rfl, rfl⟩)

def sizeO (k : ByteArray) (L : Objs) : Nat := ((getO k L).getD []).length
/-- what putting tells -/
def putC (room left : Int) (L : Objs) (k : ByteArray) (b : List UInt8) : Int :=
  if left = 0 then 8 else if namedB k = false then 1 else if (b.length : Int) > room - usedO L + sizeO k L then 6 else 0

set_option maxRecDepth 10000 in
set_option maxHeartbeats 2000000 in
theorem sput_ok {p m : Nat} {room left calls : Int} {L : Objs} {k : ByteArray} {b : List UInt8} {v : AV} {σ : St} (h : StS σ p m room left calls L) (hl : -1 ≤ left ∧ left ≤ 9223372036854775807) (hc : 0 ≤ calls ∧ calls < 9223372036854775807)
    (hu : usedO L ≤ 1099511627776) (hk : k.size ≤ 9223372036854775807) (hb : b.length ≤ 1099511627776) (hz : sizeO k L ≤ 1099511627776) (hr : 0 ≤ room ∧ room ≤ 1048576) (hv : BytesV σ v b) (hvp : ∀ n, v = .ref n 0 b.length → n ≠ p) :
    ACalls Try.prog n_sput [.ptr p 0, .str k, v] σ (fun w σ' => w = errAV (putC room left L k b) ∧ StS σ' p m room (leftB left) (calls + 1) (if putC room left L k b = 0 then putO k b L else L) ∧ Nx σ σ' p m) := by
  refine s_sput (fun wf => ?_)
  unfold c_sput
  have hv1 : BytesV (σ.set p (.obj [.int .i64 room, .map m, .int .i64 (leftB left), .int .i64 (calls + 1)])) v b := by
    rcases hv with hv | ⟨n, hn, hr⟩
    · exact .inl hv
    · exact .inr ⟨n, hn, by rw [St.set_other _ _ (hvp n hn)]; exact hr⟩
  have hS := h.called (leftB left) (calls + 1)
  have hN : Nx σ (σ.set p (.obj [.int .i64 room, .map m, .int .i64 (leftB left), .int .i64 (calls + 1)])) p m := Nx.set _
  refine T.seq_k (fun K_h1 h1 => ?_)
  refine T.regi hm ?_
  simp only [↓reduceIte, namesOf, List.any, I.names, aopsI, astep, ev, setd, List.set, List.cons_append, List.nil_append, List.length_cons, List.length_nil, List.replicate, then_normal, Bool.or_false, Bool.false_eq_true, up_zero, Nat.reduceAdd, Nat.reduceSub]
  refine h1 _ _ ?_
  try clear h1 K_h1
  refine T.seq_k (fun K_h1 h1 => ?_)
  refine T.block ?_
  refine T.seq_k (fun K_h2 h2 => ?_)
  refine T.regi hm ?_
  simp only [↓reduceIte, namesOf, List.any, I.names, aopsI, astep, ev, setd, List.set, List.getD, List.getElem?_cons_zero, List.getElem?_cons_succ, then_normal, Option.getD_some, Bool.or_false, Bool.false_eq_true, up_zero, List.map_cons, List.map_nil]
  refine (scall_ok h hl hc).mono ?_
  rintro w σ1 ⟨rfl, hσ1⟩
  rw [← hσ1] at hv1 hS hN
  clear hσ1
  try simp only []
  refine h2 _ _ ?_
  try clear h2 K_h2
  have bad : ∀ c : Int, c ≠ 0 → putC room left L k b = c → ∀ ρ' : List AV, ρ'.getD 6 .any = .iface tCode (.int .i64 c) → Fin σ [.t 6] (fun w σ' => w = errAV (putC room left L k b) ∧ StS σ' p m room (leftB left) (calls + 1) (if putC room left L k b = 0 then putO k b L else L) ∧ Nx σ σ' p m) .ret ρ' σ1 := by
    intro c hc0 hpc ρ' hρ
    refine Fin.ret (xs := [ρ'.getD 6 .any]) rfl ⟨?_, by rw [hpc, if_neg hc0]; exact hS, hN⟩
    rw [hρ, hpc, errAV_eq c hc0]; rfl
  by_cases c1 : left = 0
  · refine T.cond (b := true) (by simp [ev, c1]) (fun _ => ?_) (fun h => by cases h)
    refine T.seq_k (fun K_h2 h2 => ?_)
    refine T.regi hm ?_
    simp only [↓reduceIte, namesOf, List.any, I.names, aopsI, astep, ev, setd, List.set, List.getD, List.getElem?_cons_zero, List.getElem?_cons_succ, then_normal, Option.getD_some, Bool.or_false, Bool.false_eq_true, up_zero]
    refine h2 _ _ ?_
    try clear h2 K_h2
    exact T.ret (bad 8 (by omega) (by unfold putC; rw [if_pos c1]) _ rfl)
  refine T.cond (b := false) (by simp [ev, c1]) (fun h => by cases h) (fun _ => ?_)
  refine T.seq_k (fun K_h2 h2 => ?_)
  refine T.regi hm ?_
  simp only [↓reduceIte, namesOf, List.any, I.names, aopsI, astep, ev, setd, List.set, List.getD, List.getElem?_cons_zero, List.getElem?_cons_succ, then_normal, Option.getD_some, Bool.or_false, Bool.false_eq_true, up_zero, List.map_cons, List.map_nil]
  refine (named_ok hk).mono ?_
  rintro w σ2 ⟨rfl, rfl⟩
  try simp only []
  refine h2 _ _ ?_
  try clear h2 K_h2
  cases c2 : namedB k with
  | false =>
    refine T.cond (b := true) (by simp [ev]) (fun _ => ?_) (fun h => by cases h)
    refine T.seq_k (fun K_h2 h2 => ?_)
    refine T.regi hm ?_
    simp only [↓reduceIte, namesOf, List.any, I.names, aopsI, astep, ev, setd, List.set, List.getD, List.getElem?_cons_zero, List.getElem?_cons_succ, then_normal, Option.getD_some, Bool.or_false, Bool.false_eq_true, up_zero]
    refine h2 _ _ ?_
    try clear h2 K_h2
    exact T.ret (bad 1 (by omega) (by unfold putC; rw [if_neg c1, if_pos c2]) _ rfl)
  | true =>
  refine T.cond (b := false) (by simp [ev]) (fun h => by cases h) (fun _ => ?_)
  obtain ⟨ts, clk, hm', htl, hnd, hck⟩ := hS.map
  have hf := objs_find k L
  have hw1 : IntKind.i64.wrap (room - (usedO L : Int)) = room - (usedO L : Int) := wrap64 (by omega) (by omega)
  have hw2 : IntKind.i64.wrap (room - (usedO L : Int) + (sizeO k L : Int)) = room - (usedO L : Int) + (sizeO k L : Int) := wrap64 (by omega) (by omega)
  have hv2 := hv1
  refine T.seq_k (fun K_h2 h2 => ?_)
  refine T.regt hm (tbl := []) Tbl.ok_nil ?_
  refine aopsT_cut 2 (fun K_c h_c => ?_)
  try simp only [↓reduceIte, namesOf, List.any, I.names, aopsT, qstep, astep, ev, setd, List.set, List.getD, List.getElem?_cons_zero, List.getElem?_cons_succ, Option.getD_some, Bool.or_false, Bool.false_eq_true, up_zero, List.take_succ_cons, List.take_zero]
  rcases hv1 with ⟨g, rfl, _⟩ | ⟨n, rfl, _⟩
  all_goals
    try simp only [bytesAV_len]
    refine h_c _ _ ?_
    clear h_c K_c
    simp only [List.drop_succ_cons, List.drop_zero, Nat.zero_add]
    refine aopsT_cut 6 (fun K_c h_c => ?_)
    try simp only [aopsT, qstep, qget, Tbl.get, astep, ev, setd, List.set, List.getD, List.getElem?_cons_zero, List.getElem?_cons_succ, Option.getD_some, Nat.reduceAdd, ↓opt_def, ldc, List.map_cons, List.map_nil, List.take_succ_cons, List.take_zero, hS.obj]
    refine ⟨_, sused_ok hS hu, ?_⟩
    refine h_c _ _ ?_
    clear h_c K_c
    simp only [List.drop_succ_cons, List.drop_zero, Nat.reduceAdd]
    cases hg : getO k L
    all_goals
      rw [hg] at hf
      have hsz : sizeO k L = (((getO k L).getD []).length) := rfl
      rw [hg] at hsz
      simp only [Option.getD_none, Option.getD_some, List.length_nil] at hsz
      rw [hsz] at hw2
      try simp only [↓reduceIte, aopsT, qstep, astep, ev, setd, List.set, List.getD, List.getElem?_cons_zero, List.getElem?_cons_succ, List.length_nil, then_normal, Option.getD_some, Bool.false_eq_true, Nat.reduceAdd, binv, ↓opt_def, ldc, eq_self, hS.obj, hm', kshape, hf, Option.map_none, Option.map_some, hw1, hw2, bytesAV_len, List.length_nil]
      refine h2 _ _ ?_
      try clear h2 K_h2
      by_cases c3 : (b.length : Int) > room - usedO L + sizeO k L
      · refine T.cond (b := true) (by rw [hsz] at c3; simp [ev]; omega) (fun _ => ?_) (fun h => by cases h)
        refine T.seq_k (fun K_h2 h2 => ?_)
        refine T.regi hm ?_
        simp only [↓reduceIte, namesOf, List.any, I.names, aopsI, astep, ev, setd, List.set, List.getD, List.getElem?_cons_zero, List.getElem?_cons_succ, then_normal, Option.getD_some, Bool.or_false, Bool.false_eq_true, up_zero]
        refine h2 _ _ ?_
        try clear h2 K_h2
        exact T.ret (bad 6 (by omega) (by unfold putC; rw [if_neg c1, if_neg (by rw [c2]; simp), if_pos c3]) _ rfl)
      · have hpc : putC room left L k b = 0 := by unfold putC; rw [if_neg c1, if_neg (by rw [c2]; simp), if_neg c3]
        refine T.cond (b := false) (by rw [hsz] at c3; simp [ev]; omega) (fun h => by cases h) (fun _ => T.skip ?_)
        try simp only [then_normal, inBlock_normal, inBlock_normal]
        refine h1 _ _ ?_
        try clear h1 K_h1
        refine T.seq_k (fun K_h1 h1 => ?_)
        refine T.regt hm (tbl := []) Tbl.ok_nil ?_
        refine aopsT_cut 7 (fun K_c h_c => ?_)
        try simp only [↓reduceIte, namesOf, List.any, I.names, aopsT, qstep, qget, Tbl.get, astep, ev, setd, List.set, List.getD, List.getElem?_cons_zero, List.getElem?_cons_succ, Option.getD_some, Bool.or_false, Bool.false_eq_true, up_zero, Nat.reduceAdd, ↓opt_def, ldc, List.map_cons, List.map_nil, List.take_succ_cons, List.take_zero, hS.obj, up_zero]
        refine ⟨_, clone_q hb hv2, ?_⟩
        refine h_c _ _ ?_
        clear h_c K_c
        simp only [List.drop_succ_cons, List.drop_zero, Nat.zero_add]
        try simp only [↓reduceIte, aopsT, qstep, astep, ev, setd, List.getD, List.getElem?_cons_zero, List.getElem?_cons_succ, then_normal, Option.getD_some, eq_self, hm', kshape, hf, Option.map_none, Option.map_some, objs_put]
        refine h1 _ _ ?_
        try clear h1 K_h1
        refine T.seq_k (fun K_h1 h1 => ?_)
        refine T.regi hm ?_
        simp only [↓reduceIte, namesOf, List.any, I.names, aopsI, astep, ev, setd, List.set, then_normal, Bool.or_false, Bool.false_eq_true, up_zero]
        refine h1 _ _ ?_
        try clear h1 K_h1
        refine T.ret (Fin.ret rfl ⟨by rw [hpc]; rfl, ?_, hN.trans (Nx.setm _)⟩)
        rw [if_pos hpc]
        refine ⟨by rw [St.set_other _ _ hS.ne]; exact hS.obj, ⟨_, _, by rw [St.set_same], ?_⟩, hS.ne⟩
        have hpl := put_len k b L
        rw [hg] at hpl
        simp only [Option.isSome_none, Option.isSome_some, Bool.false_eq_true, if_true, if_false] at hpl
        first
          | exact ⟨by rw [hpl]; exact htl, hnd, hck⟩
          | exact ⟨by rw [hpl, List.length_append, htl]; rfl, List.nodup_append.2 ⟨hnd, by simp, fun t ht u hu => by simp only [List.mem_singleton] at hu; subst hu; exact Nat.ne_of_lt (hck t ht)⟩,
              fun t ht => by rcases List.mem_append.1 ht with ht | ht; exact Nat.lt_succ_of_lt (hck t ht); simp only [List.mem_singleton] at ht; subst ht; exact Nat.lt_succ_self _⟩

/-- what getting tells -/
def getC (left : Int) (L : Objs) (k : ByteArray) : Int := if left = 0 then 8 else if (getO k L).isNone then 4 else 0

set_option maxRecDepth 10000 in
set_option maxHeartbeats 2000000 in
theorem sget_ok {p m : Nat} {room left calls : Int} {L : Objs} {k : ByteArray} {σ : St} (h : StS σ p m room left calls L) (hl : -1 ≤ left ∧ left ≤ 9223372036854775807) (hc : 0 ≤ calls ∧ calls < 9223372036854775807)
    (hz : ∀ b, getO k L = some b → b.length ≤ 1099511627776) :
    ACalls Try.prog n_sget [.ptr p 0, .str k] σ (fun w σ' => w = .tup [.sl (bytesAV (if getC left L k = 0 then (getO k L).getD [] else [])) .none, errAV (getC left L k)] ∧ StS σ' p m room (leftB left) (calls + 1) L ∧ Nx σ σ' p m) := by
  refine s_sget (fun wf => ?_)
  unfold c_sget
  have hS := h.called (leftB left) (calls + 1)
  have hN : Nx σ (σ.set p (.obj [.int .i64 room, .map m, .int .i64 (leftB left), .int .i64 (calls + 1)])) p m := Nx.set _
  obtain ⟨ts, clk, hm', htl, hnd, hck⟩ := h.map
  have hf := objs_find k L
  refine T.seq_k (fun K_h1 h1 => ?_)
  refine T.regi hm ?_
  simp only [↓reduceIte, namesOf, List.any, I.names, aopsI, astep, ev, setd, List.set, List.cons_append, List.nil_append, List.length_cons, List.length_nil, List.replicate, then_normal, Bool.or_false, Bool.false_eq_true, up_zero, Nat.reduceAdd, Nat.reduceSub]
  refine h1 _ _ ?_
  try clear h1 K_h1
  refine T.seq_k (fun K_h1 h1 => ?_)
  cases hg : getO k L with
  | none =>
    rw [hg] at hf
    refine T.regi hm ?_
    simp only [↓reduceIte, namesOf, List.any, I.names, aopsI, astep, ev, setd, List.set, List.getD, List.getElem?_cons_zero, List.getElem?_cons_succ, then_normal, Option.getD_some, Option.getD_none, Bool.or_false, Bool.false_eq_true, up_zero, Nat.reduceAdd, ↓opt_def, ldc, eq_self, h.obj, hm', kshape, hf, Option.map_none]
    refine h1 _ _ ?_
    try clear h1 K_h1
    refine T.seq_k (fun K_h1 h1 => ?_)
    refine T.block ?_
    refine T.seq_k (fun K_h2 h2 => ?_)
    refine T.regi hm ?_
    simp only [↓reduceIte, namesOf, List.any, I.names, aopsI, astep, ev, setd, List.set, List.getD, List.getElem?_cons_zero, List.getElem?_cons_succ, then_normal, Option.getD_some, Bool.or_false, Bool.false_eq_true, up_zero, List.map_cons, List.map_nil]
    refine (scall_ok h hl hc).mono ?_
    rintro w σ1 ⟨rfl, hσ1⟩
    rw [← hσ1] at hS hN
    clear hσ1
    try simp only []
    refine h2 _ _ ?_
    try clear h2 K_h2
    by_cases c1 : left = 0
    · have hgc : getC left L k = 8 := by unfold getC; rw [if_pos c1]
      refine T.cond (b := true) (by simp [ev, c1]) (fun _ => ?_) (fun h => by cases h)
      refine T.seq_k (fun K_h2 h2 => ?_)
      refine T.regi hm ?_
      simp only [↓reduceIte, namesOf, List.any, I.names, aopsI, astep, ev, setd, List.set, List.getD, List.getElem?_cons_zero, List.getElem?_cons_succ, then_normal, Option.getD_some, Bool.or_false, Bool.false_eq_true, up_zero]
      refine h2 _ _ ?_
      try clear h2 K_h2
      exact T.ret (Fin.retw rfl (Wk.tup2 (Wk.sl _ _)) ⟨by rw [hgc]; rfl, hS, hN⟩)
    · have hgc : getC left L k = 4 := by unfold getC; rw [if_neg c1, hg]; rfl
      refine T.cond (b := false) (by simp [ev, c1]) (fun h => by cases h) (fun _ => ?_)
      refine T.seq_k (fun K_h2 h2 => ?_)
      refine T.regi hm ?_
      simp only [↓reduceIte, namesOf, List.any, I.names, aopsI, astep, ev, setd, List.set, List.getD, List.getElem?_cons_zero, List.getElem?_cons_succ, then_normal, Option.getD_some, Bool.or_false, Bool.false_eq_true, up_zero]
      refine h2 _ _ ?_
      try clear h2 K_h2
      refine T.cond rfl (fun _ => ?_) (fun h => by cases h)
      refine T.seq_k (fun K_h2 h2 => ?_)
      refine T.regi hm ?_
      simp only [↓reduceIte, namesOf, List.any, I.names, aopsI, astep, ev, setd, List.set, List.getD, List.getElem?_cons_zero, List.getElem?_cons_succ, then_normal, Option.getD_some, Bool.or_false, Bool.false_eq_true, up_zero]
      refine h2 _ _ ?_
      try clear h2 K_h2
      exact T.ret (Fin.retw rfl (Wk.tup2 (Wk.sl _ _)) ⟨by rw [hgc]; rfl, hS, hN⟩)
  | some b =>
    rw [hg] at hf
    have hbl := hz b hg
    refine T.regi hm ?_
    simp only [↓reduceIte, namesOf, List.any, I.names, aopsI, astep, ev, setd, List.set, List.getD, List.getElem?_cons_zero, List.getElem?_cons_succ, then_normal, Option.getD_some, Bool.or_false, Bool.false_eq_true, up_zero, Nat.reduceAdd, ↓opt_def, ldc, eq_self, h.obj, hm', kshape, hf, Option.map_some]
    refine h1 _ _ ?_
    try clear h1 K_h1
    refine T.seq_k (fun K_h1 h1 => ?_)
    refine T.block ?_
    refine T.seq_k (fun K_h2 h2 => ?_)
    refine T.regi hm ?_
    simp only [↓reduceIte, namesOf, List.any, I.names, aopsI, astep, ev, setd, List.set, List.getD, List.getElem?_cons_zero, List.getElem?_cons_succ, then_normal, Option.getD_some, Bool.or_false, Bool.false_eq_true, up_zero, List.map_cons, List.map_nil]
    refine (scall_ok h hl hc).mono ?_
    rintro w σ1 ⟨rfl, hσ1⟩
    rw [← hσ1] at hS hN
    clear hσ1
    try simp only []
    refine h2 _ _ ?_
    try clear h2 K_h2
    by_cases c1 : left = 0
    · have hgc : getC left L k = 8 := by unfold getC; rw [if_pos c1]
      refine T.cond (b := true) (by simp [ev, c1]) (fun _ => ?_) (fun h => by cases h)
      refine T.seq_k (fun K_h2 h2 => ?_)
      refine T.regi hm ?_
      simp only [↓reduceIte, namesOf, List.any, I.names, aopsI, astep, ev, setd, List.set, List.getD, List.getElem?_cons_zero, List.getElem?_cons_succ, then_normal, Option.getD_some, Bool.or_false, Bool.false_eq_true, up_zero]
      refine h2 _ _ ?_
      try clear h2 K_h2
      exact T.ret (Fin.retw rfl (Wk.tup2 (Wk.sl _ _)) ⟨by rw [hgc]; rfl, hS, hN⟩)
    · have hgc : getC left L k = 0 := by unfold getC; rw [if_neg c1, hg]; rfl
      refine T.cond (b := false) (by simp [ev, c1]) (fun h => by cases h) (fun _ => ?_)
      refine T.seq_k (fun K_h2 h2 => ?_)
      refine T.regi hm ?_
      simp only [↓reduceIte, namesOf, List.any, I.names, aopsI, astep, ev, setd, List.set, List.getD, List.getElem?_cons_zero, List.getElem?_cons_succ, then_normal, Option.getD_some, Bool.or_false, Bool.false_eq_true, up_zero]
      refine h2 _ _ ?_
      try clear h2 K_h2
      refine T.cond rfl (fun h => by cases h) (fun _ => T.skip ?_)
      try simp only [then_normal, inBlock_normal, inBlock_normal]
      refine h1 _ _ ?_
      try clear h1 K_h1
      refine T.seq_k (fun K_h1 h1 => ?_)
      refine T.regi hm ?_
      simp only [↓reduceIte, namesOf, List.any, I.names, aopsI, astep, ev, setd, List.set, List.getD, List.getElem?_cons_zero, List.getElem?_cons_succ, then_normal, Option.getD_some, Bool.or_false, Bool.false_eq_true, up_zero, List.map_cons, List.map_nil]
      refine (clone_q hbl (.inl ⟨_, rfl, by simp⟩)).mono ?_
      rintro w σ2 ⟨rfl, rfl⟩
      try simp only [↓reduceIte, namesOf, List.any, I.names, aops, aopsI, aopsT, qstep, CPt, qget, Tbl.get, astep, ev, setd, List.set, List.getD, List.getElem?_cons_zero, List.getElem?_cons_succ, List.getElem?_nil, List.cons_append, List.nil_append, List.length_cons, List.length_nil, List.replicate, then_normal, inBlock_normal, Option.getD_some, Option.getD_none, Bool.or_false, Bool.or_true, Bool.true_or, Bool.false_or, Bool.false_eq_true, if_false, if_true, up_zero, Nat.reduceAdd, Nat.reduceSub, binv, ↓opt_def, AV.isAny, AV.cells, ldc, List.map_cons, List.map_nil, St.set_next, St.set_same, St.up_next, Int.natCast_nonneg, lt_len, le_len, Int.toNat_natCast, true_and, and_true, eq_self, reduceCtorEq, decide_true, List.length_singleton, er_int, er_bool, er_str, up_zero]
      refine h1 _ _ ?_
      try clear h1 K_h1
      exact T.ret (Fin.ret rfl ⟨by simp only [hgc, hg, if_true, Option.getD_some]; rfl, hS, hN⟩)
end Go.VL

/- Contracts: an object deleted; one of n. -/
namespace Go.VL
open Go.Proofs

theorem del_facts (k : ByteArray) : ∀ L : Objs, (getO k L).isSome = true → midx (.str k) (objsAV L) < L.length ∧ (delO k L).length + 1 = L.length
  | [], h => by cases h
  | e :: r, h => by
    unfold getO at h
    by_cases hk : k = e.1
    · unfold delO
      rw [if_pos hk]
      simp [objsAV, midx, keq, hk]
    · rw [if_neg hk] at h
      obtain ⟨h1, h2⟩ := del_facts k r h
      unfold delO
      rw [if_neg hk]
      unfold objsAV at h1 ⊢
      simp only [List.map_cons, midx, keq, hk, decide_false, List.length_cons]
      omega

set_option maxRecDepth 10000 in
set_option maxHeartbeats 2000000 in
theorem sdel_ok {p m : Nat} {room left calls : Int} {L : Objs} {k : ByteArray} {σ : St} (h : StS σ p m room left calls L) (hl : -1 ≤ left ∧ left ≤ 9223372036854775807) (hc : 0 ≤ calls ∧ calls < 9223372036854775807) :
    ACalls Try.prog n_sdel [.ptr p 0, .str k] σ (fun w σ' => w = errAV (getC left L k) ∧ StS σ' p m room (leftB left) (calls + 1) (if getC left L k = 0 then delO k L else L) ∧ Nx σ σ' p m) := by
  refine s_sdel (fun wf => ?_)
  unfold c_sdel
  have hS := h.called (leftB left) (calls + 1)
  have hN : Nx σ (σ.set p (.obj [.int .i64 room, .map m, .int .i64 (leftB left), .int .i64 (calls + 1)])) p m := Nx.set _
  obtain ⟨ts, clk, hm', htl, hnd, hck⟩ := h.map
  obtain ⟨ts1, clk1, hm1, htl1, hnd1, hck1⟩ := hS.map
  have hf := objs_find k L
  refine T.seq_k (fun K_h1 h1 => ?_)
  refine T.regi hm ?_
  simp only [↓reduceIte, namesOf, List.any, I.names, aopsI, astep, ev, setd, List.set, List.cons_append, List.nil_append, List.length_cons, List.length_nil, List.replicate, then_normal, Bool.or_false, Bool.false_eq_true, up_zero, Nat.reduceAdd, Nat.reduceSub]
  refine h1 _ _ ?_
  try clear h1 K_h1
  refine T.seq_k (fun K_h1 h1 => ?_)
  cases hg : getO k L
  all_goals
    rw [hg] at hf
    refine T.regi hm ?_
    simp only [↓reduceIte, namesOf, List.any, I.names, aopsI, astep, ev, setd, List.set, List.getD, List.getElem?_cons_zero, List.getElem?_cons_succ, then_normal, Option.getD_some, Bool.or_false, Bool.false_eq_true, up_zero, Nat.reduceAdd, ↓opt_def, ldc, eq_self, h.obj, hm', kshape, hf, Option.map_none, Option.map_some]
    refine h1 _ _ ?_
    try clear h1 K_h1
    refine T.seq_k (fun K_h1 h1 => ?_)
    refine T.block ?_
    refine T.seq_k (fun K_h2 h2 => ?_)
    refine T.regi hm ?_
    simp only [↓reduceIte, namesOf, List.any, I.names, aopsI, astep, ev, setd, List.set, List.getD, List.getElem?_cons_zero, List.getElem?_cons_succ, then_normal, Option.getD_some, Bool.or_false, Bool.false_eq_true, up_zero, List.map_cons, List.map_nil]
    refine (scall_ok h hl hc).mono ?_
    rintro w σ1 ⟨rfl, hσ1⟩
    rw [← hσ1] at hS hN hm1
    clear hσ1
    try simp only []
    refine h2 _ _ ?_
    try clear h2 K_h2
    by_cases c1 : left = 0
    · have hgc : getC left L k = 8 := by unfold getC; rw [if_pos c1]
      refine T.cond (b := true) (by simp [ev, c1]) (fun _ => ?_) (fun h => by cases h)
      refine T.seq_k (fun K_h2 h2 => ?_)
      refine T.regi hm ?_
      simp only [↓reduceIte, namesOf, List.any, I.names, aopsI, astep, ev, setd, List.set, List.getD, List.getElem?_cons_zero, List.getElem?_cons_succ, then_normal, Option.getD_some, Bool.or_false, Bool.false_eq_true, up_zero]
      refine h2 _ _ ?_
      try clear h2 K_h2
      exact T.ret (Fin.ret rfl ⟨by rw [hgc]; rfl, by rw [hgc, if_neg (by decide)]; exact hS, hN⟩)
    refine T.cond (b := false) (by simp [ev, c1]) (fun h => by cases h) (fun _ => ?_)
    refine T.seq_k (fun K_h2 h2 => ?_)
    refine T.regi hm ?_
    simp only [↓reduceIte, namesOf, List.any, I.names, aopsI, astep, ev, setd, List.set, List.getD, List.getElem?_cons_zero, List.getElem?_cons_succ, then_normal, Option.getD_some, Bool.or_false, Bool.false_eq_true, up_zero]
    refine h2 _ _ ?_
    try clear h2 K_h2
  · have hgc : getC left L k = 4 := by unfold getC; rw [if_neg c1, hg]; rfl
    refine T.cond rfl (fun _ => ?_) (fun h => by cases h)
    refine T.seq_k (fun K_h2 h2 => ?_)
    refine T.regi hm ?_
    simp only [↓reduceIte, namesOf, List.any, I.names, aopsI, astep, ev, setd, List.set, List.getD, List.getElem?_cons_zero, List.getElem?_cons_succ, then_normal, Option.getD_some, Bool.or_false, Bool.false_eq_true, up_zero]
    refine h2 _ _ ?_
    try clear h2 K_h2
    exact T.ret (Fin.ret rfl ⟨by rw [hgc]; rfl, by rw [hgc, if_neg (by decide)]; exact hS, hN⟩)
  · have hgc : getC left L k = 0 := by unfold getC; rw [if_neg c1, hg]; rfl
    refine T.cond rfl (fun h => by cases h) (fun _ => T.skip ?_)
    try simp only [then_normal, inBlock_normal, inBlock_normal]
    refine h1 _ _ ?_
    try clear h1 K_h1
    refine T.seq_k (fun K_h1 h1 => ?_)
    refine T.regi hm ?_
    simp only [↓reduceIte, namesOf, List.any, I.names, aopsI, astep, ev, setd, List.set, List.getD, List.getElem?_cons_zero, List.getElem?_cons_succ, then_normal, Option.getD_some, Bool.or_false, Bool.false_eq_true, up_zero, Nat.reduceAdd, ↓opt_def, ldc, eq_self, hS.obj, hm1, kshape, hf, Option.map_some, objs_del]
    refine h1 _ _ ?_
    try clear h1 K_h1
    refine T.seq_k (fun K_h1 h1 => ?_)
    refine T.regi hm ?_
    simp only [↓reduceIte, namesOf, List.any, I.names, aopsI, astep, ev, setd, List.set, then_normal, Bool.or_false, Bool.false_eq_true, up_zero]
    refine h1 _ _ ?_
    try clear h1 K_h1
    obtain ⟨d1, d2⟩ := del_facts k L (by rw [hg]; rfl)
    refine T.ret (Fin.ret rfl ⟨by rw [hgc]; rfl, ?_, hN.trans (Nx.setm _)⟩)
    rw [if_pos hgc]
    refine ⟨by rw [St.set_other _ _ hS.ne]; exact hS.obj, ⟨_, _, by rw [St.set_same], ?_, hnd1.sublist (List.eraseIdx_sublist _ _), fun t ht => hck1 t (List.mem_of_mem_eraseIdx ht)⟩, hS.ne⟩
    rw [List.length_eraseIdx, if_pos (by omega)]; omega

theorem pick_ok {c n : Int} {σ : St} (_ : -9223372036854775808 ≤ c ∧ c ≤ 9223372036854775807) (hn : 0 < n ∧ n ≤ 1000) : ACalls Try.prog n_pick [.int .i64 c, .int .i64 n] σ (fun v σ' => (∃ r : Int, v = .int .i64 r) ∧ σ' = σ) := by
  refine s_pick (fun wf => ?_)
  unfold c_pick
  refine T.seq_k (fun K_h1 h1 => ?_)
  refine T.regi hm ?_
  simp only [↓reduceIte, namesOf, List.any, I.names, aopsI, astep, ev, setd, List.set, List.cons_append, List.nil_append, List.length_cons, List.length_nil, List.replicate, then_normal, Bool.or_false, Bool.false_eq_true, up_zero, Nat.reduceAdd, Nat.reduceSub]
  refine h1 _ _ ?_
  try clear h1 K_h1
  refine T.seq_k (fun K_h1 h1 => ?_)
  refine T.seq_k (fun K_h2 h2 => ?_)
  refine T.regi hm ?_
  simp only [↓reduceIte, namesOf, List.any, I.names, aopsI, astep, ev, setd, List.set, List.getD, List.getElem?_cons_zero, List.getElem?_cons_succ, then_normal, Option.getD_some, Bool.or_false, Bool.false_eq_true, up_zero, binv, ↓opt_def, eq_self]
  refine h2 _ _ ?_
  try clear h2 K_h2
  have hn0 : ¬ n = 0 := by omega
  by_cases c1 : c < 0
  · refine T.cond (b := true) (by simp [ev, c1]) (fun _ => ?_) (fun h => by cases h)
    refine T.regi hm ?_
    simp only [↓reduceIte, namesOf, List.any, I.names, aopsI, astep, ev, setd, List.set, List.getD, List.getElem?_cons_zero, List.getElem?_cons_succ, then_normal, Option.getD_some, Bool.or_false, Bool.false_eq_true, up_zero, binv, ↓opt_def, eq_self]
    refine h1 _ _ ?_
    try clear h1 K_h1
    refine T.seq_k (fun K_h1 h1 => ?_)
    refine T.regi hm ?_
    simp only [↓reduceIte, namesOf, List.any, I.names, aopsI, astep, ev, setd, List.set, List.getD, List.getElem?_cons_zero, List.getElem?_cons_succ, then_normal, Option.getD_some, Bool.or_false, Bool.false_eq_true, up_zero, binv, ↓opt_def, eq_self, hn0]
    refine h1 _ _ ?_
    try clear h1 K_h1
    exact T.ret (Fin.ret rfl ⟨⟨_, rfl⟩, rfl⟩)
  · refine T.cond (b := false) (by simp [ev, c1]) (fun h => by cases h) (fun _ => T.skip ?_)
    refine h1 _ _ ?_
    try clear h1 K_h1
    refine T.seq_k (fun K_h1 h1 => ?_)
    refine T.regi hm ?_
    simp only [↓reduceIte, namesOf, List.any, I.names, aopsI, astep, ev, setd, List.set, List.getD, List.getElem?_cons_zero, List.getElem?_cons_succ, then_normal, Option.getD_some, Bool.or_false, Bool.false_eq_true, up_zero, binv, ↓opt_def, eq_self, hn0]
    refine h1 _ _ ?_
    try clear h1 K_h1
    exact T.ret (Fin.ret rfl ⟨⟨_, rfl⟩, rfl⟩)
end Go.VL

/- Contracts: the head of the store's laws. -/
namespace Go.VL
open Go.Proofs

def tb06 : FTab := [(n_up06, ⟨c_up06, 69, [(.t 0)]⟩), (n_snew, ⟨c_snew, 15, [(.t 2), (.t 3)]⟩), (n_sfail, ⟨c_sfail, 9, []⟩), (n_sput, ⟨c_sput, 44, [(.t 6)]⟩), (n_scall, ⟨c_scall, 32, [(.t 2)]⟩), (n_named, ⟨c_named, 18, [(.t 2)]⟩), (n_ixf, ⟨c_ixf, 8, [(.t 4)]⟩), (n_ixf2, ⟨c_ixf2, 21, [(.t 6)]⟩), (n_named1, ⟨c_named1, 26, [(.t 2)]⟩), (n_clone, ⟨c_clone, 8, [(.t 2)]⟩), (n_sget, ⟨c_sget, 28, [(.t 4), (.t 5)]⟩), (n_scalls, ⟨c_scalls, 7, [(.t 2)]⟩), (n_sused, ⟨c_sused, 20, [(.t 2)]⟩)]
theorem tb06_ok : FTab.ok Try.prog tb06 := FTab.ok_cons s_up06 (FTab.ok_cons s_snew (FTab.ok_cons s_sfail (FTab.ok_cons s_sput (FTab.ok_cons s_scall (FTab.ok_cons s_named (FTab.ok_cons s_ixf (FTab.ok_cons s_ixf2 (FTab.ok_cons s_named1 (FTab.ok_cons s_clone (FTab.ok_cons s_sget (FTab.ok_cons s_scalls (FTab.ok_cons s_sused FTab.ok_nil))))))))))))
set_option maxRecDepth 100000 in
theorem up06_ok {σ : St} : ACalls Try.prog n_up06 [] σ (fun v σ' => v = .bool true ∧ σ' = σ) :=
  head_ok hm tb06_ok noOr_ok 100 (by kernel_rfl) (by kernel_rfl) σ
end Go.VL
