/- ExpireMarks (layer 21): whatever the room, the metas, the tick, the retention and the call that fails, the law returns true, and the arguments read as they did. Conditions: the package variables math/bits.deBruijn32tab, math/bits.deBruijn64tab and internal/strconv.uint64pow10 hold what the program's text lays (tied). -/
import Derived.Test.YtnifkggcldalbaaDoorKExpireMarksCard5
import Derived.Test.YtnifkggcldalbaaDoorRows
import Derived.Test.YtnifkggcldalbaaDoorTie
import Derived.Test.YtnifkggcldalbaaDoorCards

set_option linter.unusedSimpArgs false
set_option linter.unusedVariables false

namespace Go.VL

open Go.Proofs

def nmX (id : Nat) : ByteArray := ⟨(nmF id [120] 0).toArray⟩

/-- how many are marked, an error's number, and what comes of the store -/
def exF (room now : Int) : List Mt → Int → Int → Objs → Nat × Int × Int × Int × Objs
  | [], left, calls, L => (0, 0, left, calls, L)
  | m :: r, left, calls, L =>
    if putC room left L (nmX m.id) (markB ⟨m.id, now, 0⟩) = 0 then
      let q := exF room now r (leftB left) (calls + 1) (putO (nmX m.id) (markB ⟨m.id, now, 0⟩) L)
      (q.1 + 1, q.2)
    else (0, putC room left L (nmX m.id) (markB ⟨m.id, now, 0⟩), leftB left, calls + 1, L)

theorem exF_app {room now : Int} {b : List Mt} : ∀ {a : List Mt} {left calls left' calls' : Int} {L L' : Objs}, exF room now a left calls L = (a.length, 0, left', calls', L') →
    exF room now (a ++ b) left calls L = (a.length + (exF room now b left' calls' L').1, (exF room now b left' calls' L').2)
  | [], left, calls, left', calls', L, L', h => by
    simp only [exF, Prod.mk.injEq] at h
    obtain ⟨_, _, rfl, rfl, rfl⟩ := h
    simp
  | m :: a, left, calls, left', calls', L, L', h => by
    rw [exF] at h
    split at h
    · rename_i hc
      have h1 := Prod.mk.inj h
      have e : exF room now a (leftB left) (calls + 1) (putO (nmX m.id) (markB ⟨m.id, now, 0⟩) L) = (a.length, 0, left', calls', L') :=
        Prod.ext (by have := h1.1; rw [List.length_cons] at this; show _ = a.length; omega) h1.2
      rw [List.cons_append, exF, if_pos hc, exF_app e]
      exact Prod.ext (by rw [List.length_cons]; show a.length + _ + 1 = a.length + 1 + _; omega) rfl
    · have h1 := (Prod.mk.inj h).1
      rw [List.length_cons] at h1
      omega

theorem mark_len (k : Mk) : (markB k).length = 28 := by
  unfold markB sealB
  rw [List.length_append, w8s_len, beB_len]; rfl

theorem sz_nmX (id : Nat) : (nmX id).size = 20 := by
  unfold nmX nmF
  rw [sz_mk, if_neg (by decide), if_pos (by simp)]
  simp [head_len]

theorem putC_used {room left : Int} {L : Objs} {k : ByteArray} {b : List UInt8} (hr : 0 ≤ room) (h : putC room left L k b = 0) (hu : (usedO L : Int) ≤ room) : (usedO (putO k b L) : Int) ≤ room := by
  have h1 := used_put k b L
  have h2 := size_le k L
  unfold putC at h
  split at h
  · omega
  · split at h
    · omega
    · split at h
      · omega
      · omega

theorem Nx.tabs {σ t : St} {p m : Nat} {room left calls : Int} {L : Objs} (hN : Nx σ t p m) (hT : Tabs σ) (h : StS σ p m room left calls L) : Tabs t := by
  refine ⟨hN.old _ _ ?_ ?_ hT.p10, hN.old _ _ ?_ ?_ hT.d64⟩
  · rintro rfl; have := h.obj; rw [hT.p10] at this; cases this
  · rintro rfl; obtain ⟨ts, clk, h1, _⟩ := h.map; rw [hT.p10] at h1; cases h1
  · rintro rfl; have := h.obj; rw [hT.d64] at this; cases this
  · rintro rfl; obtain ⟨ts, clk, h1, _⟩ := h.map; rw [hT.d64] at h1; cases h1

set_option maxRecDepth 10000 in
set_option maxHeartbeats 2000000 in
theorem exMark_ok {p m : Nat} {room left calls now ret : Int} {L : Objs} {l : List Mt} {g : Ver} {σ : St} (hT : Tabs σ) (h : StS σ p m room left calls L) (hlt : p < σ.next ∧ m < σ.next) (hlf : -1 ≤ left ∧ left ≤ 9223372036854775807) (hc : 0 ≤ calls ∧ calls ≤ 1000000000)
    (hr : 0 ≤ room ∧ room ≤ 1048576) (hu : (usedO L : Int) ≤ room) (hl : l.length ≤ 1000000) (hid : ∀ x ∈ l, x.id < 18446744073709551616) :
    ACalls Tryd.prog n_exMark [.ptr p 0, .sl (mtsAV l) g, .int .i64 now, .int .i64 ret] σ (fun v σ' =>
      ((¬ (∀ x ∈ l, mayM x) ∨ outBad now ret) ∧ v = .tup [.int .i64 0, .iface tCode (.int .i64 1)] ∧ σ' = σ) ∨
      ((∀ x ∈ l, mayM x) ∧ ¬ outBad now ret ∧ ∃ n c left' calls' L', exF room now (outM l (now - ret)) left calls L = (n, c, left', calls', L') ∧ v = .tup [.int .i64 (n : Int), errAV c] ∧
        StS σ' p m room left' calls' L' ∧ Nx σ σ' p m ∧ (-1 ≤ left' ∧ left' ≤ 9223372036854775807) ∧ (0 ≤ calls' ∧ calls' ≤ calls + l.length) ∧ (usedO L' : Int) ≤ room)) := by
  refine s_exMark (fun wf => ?_)
  unfold c_exMark
  refine T.seq_k (fun K_h0 h0 => ?_)
  refine T.regi hm ?_
  simp only [↓reduceIte, namesOf, List.any, I.names, aopsI, astep, ev, setd, List.set, List.cons_append, List.nil_append, List.length_cons, List.length_nil, List.replicate, then_normal, Bool.or_false, Bool.false_eq_true, up_zero, Nat.reduceAdd, Nat.reduceSub]
  refine h0 _ _ ?_
  try clear h0 K_h0
  refine T.seq_k (fun K_h0 h0 => ?_)
  refine T.regi hm ?_
  simp only [↓reduceIte, namesOf, List.any, I.names, aopsI, astep, ev, setd, List.set, then_normal, Bool.or_false, Bool.false_eq_true, up_zero]
  refine h0 _ _ ?_
  try clear h0 K_h0
  refine T.seq_k (fun K_h1 h1 => ?_)
  have hnp : eqPv (.ptr p 0) .nilp = some false := rfl
  refine T.seq_k (fun K_h2 h2 => ?_)
  refine T.regi hm ?_
  simp only [↓reduceIte, namesOf, List.any, I.names, aopsI, astep, ev, setd, List.set, List.getD, List.getElem?_cons_zero, List.getElem?_cons_succ, then_normal, Option.getD_some, Bool.or_false, Bool.false_eq_true, up_zero, List.map_cons, List.map_nil, eq_self, hnp, Bool.bne_false]
  refine (mcontF_ok hl).mono ?_
  rintro v σ1 ⟨rfl, rfl⟩
  try simp only [↓reduceIte, namesOf, List.any, I.names, aops, aopsI, aopsT, qstep, CPt, qget, Tbl.get, astep, ev, setd, List.set, List.getD, List.getElem?_cons_zero, List.getElem?_cons_succ, List.getElem?_nil, List.cons_append, List.nil_append, List.length_cons, List.length_nil, List.replicate, then_normal, inBlock_normal, Option.getD_some, Option.getD_none, Bool.or_false, Bool.or_true, Bool.true_or, Bool.false_or, Bool.false_eq_true, if_false, if_true, up_zero, Nat.reduceAdd, Nat.reduceSub, binv, ↓opt_def, AV.isAny, AV.cells, ldc, List.map_cons, List.map_nil, St.set_next, St.set_same, St.up_next, Int.natCast_nonneg, lt_len, le_len, Int.toNat_natCast, true_and, and_true, eq_self, reduceCtorEq, decide_true, List.length_singleton, er_int, er_bool, er_str, srcR, up_zero]
  refine h2 _ _ ?_
  try clear h2 K_h2
  by_cases hmay : ∀ x ∈ l, mayM x
  case neg =>
    have e1 : (!decide (∀ x ∈ l, mayM x)) = true := by rw [decide_eq_false hmay]; rfl
    rw [e1]
    refine T.cond rfl (fun _ => ?_) (fun h => by cases h)
    refine T.seq_k (fun K_h0 h0 => ?_)
    refine T.regi hm ?_
    simp only [↓reduceIte, namesOf, List.any, I.names, aopsI, astep, ev, setd, List.set, List.getD, List.getElem?_cons_zero, List.getElem?_cons_succ, then_normal, Option.getD_some, Bool.or_false, Bool.false_eq_true, up_zero]
    refine h0 _ _ ?_
    try clear h0 K_h0
    exact T.ret (Fin.ret rfl (.inl ⟨.inl hmay, rfl, rfl⟩))
  have e1 : (!decide (∀ x ∈ l, mayM x)) = false := by rw [decide_eq_true hmay]; rfl
  rw [e1]
  refine T.cond rfl (fun h => by cases h) (fun _ => T.skip ?_)
  refine h1 _ _ ?_
  try clear h1 K_h1
  refine T.seq_k (fun K_h1 h1 => ?_)
  refine T.regi hm ?_
  simp only [↓reduceIte, namesOf, List.any, I.names, aopsI, astep, ev, setd, List.set, List.getD, List.getElem?_cons_zero, List.getElem?_cons_succ, then_normal, Option.getD_some, Bool.or_false, Bool.false_eq_true, up_zero, ↓opt_def, List.map_cons, List.map_nil]
  refine (plOut_ok hl).mono ?_
  rintro v σ1 ⟨rfl, hv⟩
  rcases hv with ⟨hbad, rfl⟩ | ⟨hbad, rfl⟩
  · try simp only [List.getElem?_cons_zero, List.getElem?_cons_succ]
    refine h1 _ _ ?_
    try clear h1 K_h1
    refine T.seq_k (fun K_h1 h1 => ?_)
    refine T.seq_k (fun K_h0 h0 => ?_)
    refine T.regi hm ?_
    simp only [↓reduceIte, namesOf, List.any, I.names, aopsI, astep, ev, setd, List.set, List.getD, List.getElem?_cons_zero, List.getElem?_cons_succ, then_normal, Option.getD_some, Bool.or_false, Bool.false_eq_true, up_zero, eqIv, Bool.bne_true, Bool.not_false]
    refine h0 _ _ ?_
    try clear h0 K_h0
    refine T.cond rfl (fun _ => ?_) (fun h => by cases h)
    refine T.seq_k (fun K_h0 h0 => ?_)
    refine T.regi hm ?_
    simp only [↓reduceIte, namesOf, List.any, I.names, aopsI, astep, ev, setd, List.set, List.getD, List.getElem?_cons_zero, List.getElem?_cons_succ, then_normal, Option.getD_some, Bool.or_false, Bool.false_eq_true, up_zero]
    refine h0 _ _ ?_
    try clear h0 K_h0
    exact T.ret (Fin.ret rfl (.inl ⟨.inr hbad, rfl, rfl⟩))
  have hol : (outM l (now - ret)).length ≤ l.length := out_len _ _
  have hoid : ∀ x ∈ outM l (now - ret), x.id < 18446744073709551616 := fun x hx => hid x (List.mem_filter.1 hx).1
  have homay : ∀ x ∈ outM l (now - ret), mayM x := fun x hx => hmay x (List.mem_filter.1 hx).1
  generalize hO : outM l (now - ret) = out at hol hoid homay ⊢
  try simp only [List.getElem?_cons_zero, List.getElem?_cons_succ]
  refine h1 _ _ ?_
  try clear h1 K_h1
  refine T.seq_k (fun K_h1 h1 => ?_)
  refine T.seq_k (fun K_h0 h0 => ?_)
  refine T.regi hm ?_
  simp only [↓reduceIte, namesOf, List.any, I.names, aopsI, astep, ev, setd, List.set, List.getD, List.getElem?_cons_zero, List.getElem?_cons_succ, then_normal, Option.getD_some, Bool.or_false, Bool.false_eq_true, up_zero, eq_self, eqIv, bne_self_eq_false]
  refine h0 _ _ ?_
  try clear h0 K_h0
  refine T.cond rfl (fun h => by cases h) (fun _ => T.skip ?_)
  refine h1 _ _ ?_
  try clear h1 K_h1
  refine T.seq_k (fun K_h1 h1 => ?_)
  refine T.seq_k (fun K_h0 h0 => ?_)
  refine T.regi hm ?_
  simp only [↓reduceIte, namesOf, List.any, I.names, aopsI, astep, ev, setd, List.set, List.getD, List.getElem?_cons_zero, List.getElem?_cons_succ, then_normal, Option.getD_some, Bool.or_false, Bool.false_eq_true, up_zero, mts_len]
  refine h0 _ _ ?_
  try clear h0 K_h0
  refine T.block ?_
  refine T.gh (Gh.keep [0, 2, 11, 36, 37, 38]) ?_
  refine T.loopi (fun i ρ t => ∃ left' calls' L', exF room now (out.take i) left calls L = (i, 0, left', calls', L') ∧ StS t p m room left' calls' L' ∧ Nx σ1 t p m ∧ (-1 ≤ left' ∧ left' ≤ 9223372036854775807) ∧ (0 ≤ calls' ∧ calls' = calls + i) ∧ (usedO L' : Int) ≤ room ∧
      ρ = [.ptr p 0, .any, .int .i64 now, .any, .any, .any, .any, .any, .any, .any, .any, .sl (mtsAV out) .none] ++ List.replicate 24 .any ++ [.sl (mtsAV out) .none, .int .i64 (out.length : Int), .int .i64 (i : Int)] ++ List.replicate 29 .any)
    out.length 0 (Nat.zero_le _) ⟨left, calls, L, rfl, h, .refl _ _ _, hlf, ⟨hc.1, by simp⟩, hu, rfl⟩ ?_
  rintro i ρ t hi ⟨left', calls', L', hF, hS, hN, hlf', ⟨hc1, hc2⟩, hu', rfl⟩
  refine T.seq_k (fun K_h0 h0 => ?_)
  refine T.regi hm ?_
  simp only [↓reduceIte, namesOf, List.any, I.names, aopsI, astep, ev, setd, List.set, List.getD, List.getElem?_cons_zero, List.getElem?_cons_succ, List.cons_append, List.nil_append, List.replicate, then_normal, Option.getD_some, Bool.or_false, Bool.false_eq_true, up_zero, binv, ↓opt_def, lt_len, eq_self]
  refine h0 _ _ ?_
  try clear h0 K_h0
  refine T.seq_k (fun K_h2 h2 => ?_)
  by_cases hil : i < out.length
  case neg =>
    refine T.cond (b := false) (by simp [ev]; omega) (fun h => by cases h) (fun _ => T.exit ?_)
    have hie : i = out.length := by omega
    subst hie
    rw [List.take_length] at hF
    try simp only [List.cons_append, List.nil_append, List.replicate, then_normal, inBlock_exit, then_exit]
    refine h1 _ _ ?_
    try clear h1 K_h1
    refine T.seq_k (fun K_h0 h0 => ?_)
    refine T.regi hm ?_
    simp only [↓reduceIte, namesOf, List.any, I.names, aopsI, astep, ev, setd, List.set, List.getD, List.getElem?_cons_zero, List.getElem?_cons_succ, then_normal, Option.getD_some, Bool.or_false, Bool.false_eq_true, up_zero, mts_len]
    refine h0 _ _ ?_
    try clear h0 K_h0
    exact T.ret (Fin.ret rfl (.inr ⟨hmay, hbad, out.length, 0, left', calls', L', by rw [hO]; exact hF, rfl, hS, hN, hlf', ⟨hc1, by omega⟩, hu'⟩))
  refine T.cond (b := true) (by simp [ev]; omega) (fun _ => T.skip ?_) (fun h => by cases h)
  refine h2 _ _ ?_
  try clear h2 K_h2
  obtain ⟨x, hx⟩ : ∃ x, out[i]? = some x := ⟨_, List.getElem?_eq_getElem hil⟩
  have hgx := mts_get hx
  have hw := inc64' hil (by omega)
  have hts : out.take (i + 1) = out.take i ++ [x] := by
    rw [List.take_succ_eq_append_getElem hil]
    rw [List.getElem?_eq_getElem hil] at hx
    cases hx; rfl
  have hxl := hoid x (List.mem_of_getElem? hx)
  have hxm := homay x (List.mem_of_getElem? hx)
  have hn1 : now ≥ 0 := Int.not_lt.1 fun h => hbad (.inl h)
  have hn2 : now ≤ 1099511627776 := Int.not_lt.1 fun h => hbad (.inr (.inl h))
  have hx1 := hxm.1
  have hfair : fairM ⟨x.id, now, 0⟩ := ⟨hx1, hn1, hn2, by show (0 : Nat) ≠ x.id; omega⟩
  have hFx := exF_app (b := [x]) (show exF room now (out.take i) left calls L = ((out.take i).length, 0, left', calls', L') by rw [hF, List.length_take, Nat.min_eq_left (by omega)])
  rw [← hts, List.length_take, Nat.min_eq_left (by omega : i ≤ out.length)] at hFx
  have hFo := exF_app (b := out.drop i) (show exF room now (out.take i) left calls L = ((out.take i).length, 0, left', calls', L') by rw [hF, List.length_take, Nat.min_eq_left (by omega)])
  rw [List.take_append_drop, List.length_take, Nat.min_eq_left (by omega : i ≤ out.length)] at hFo
  have hdrop : out.drop i = x :: out.drop (i + 1) := by
    rw [List.drop_eq_getElem_cons hil]
    rw [List.getElem?_eq_getElem hil] at hx
    cases hx; rfl
  rw [hdrop] at hFo
  have hpm : p < t.next ∧ m < t.next := by have := hN.next; omega
  refine T.seq_k (fun K_h3 h3 => ?_)
  refine T.block ?_
  refine T.seq_k (fun K_h0 h0 => ?_)
  refine T.regi hm ?_
  simp only [↓reduceIte, namesOf, List.any, I.names, aopsI, astep, ev, setd, List.set, List.getD, List.getElem?_cons_zero, List.getElem?_cons_succ, List.cons_append, List.nil_append, List.length_cons, List.length_nil, List.replicate, then_normal, Option.getD_some, Bool.or_false, Bool.or_true, Nat.reduceAdd, ↓opt_def, AV.isAny, AV.cells, ldc, St.set_same, Int.natCast_nonneg, lt_len, Int.toNat_natCast, true_and, and_true, eq_self, decide_true, hil, mts_len, hgx, AV.fits, AV.one, List.all_cons, List.all_nil, Nat.reduceBEq, Bool.not_false, Bool.and_self, Nat.zero_add, splice, List.take, List.drop, Nat.reduceLeDiff, St.set_set]
  refine h0 _ _ ?_
  try clear h0 K_h0
  have hS1 : StS ((t.up 6).set (t.next + 3) (.obj (mtC x))) p m room left' calls' L' := by
    obtain ⟨ts, clk, h1, h2⟩ := hS.map
    exact ⟨by rw [St.set_other _ _ (by omega)]; exact hS.obj, ⟨ts, clk, by rw [St.set_other _ _ (by omega)]; exact h1, h2⟩, hS.ne⟩
  have hN1 : Nx σ1 ((t.up 6).set (t.next + 3) (.obj (mtC x))) p m := ⟨by have := hN.next; simp; omega, fun n y h1 h2 hy => by
    rw [St.set_other _ _ (by have := wf.lt hy; have := hN.next; omega)]
    exact hN.old n y h1 h2 hy⟩
  have hT1 : Tabs ((t.up 6).set (t.next + 3) (.obj (mtC x))) := hN1.tabs hT h
  have hb : ((t.up 6).set (t.next + 3) (.obj (mtC x))).res (t.next + 3) = some (.obj (mtC x)) := St.set_same _ _ _
  have hbn : t.next + 3 ≠ p ∧ t.next + 3 ≠ m := by omega
  generalize ((t.up 6).set (t.next + 3) (.obj (mtC x))) = u at hS1 hN1 hT1 hb ⊢
  generalize t.next + 3 = b at hb hbn ⊢
  clear hS hN
  have hlb : -1 ≤ leftB left' ∧ leftB left' ≤ 9223372036854775807 := by unfold leftB; split <;> omega
  have hcall := sput_ok (k := nmX x.id) (b := markB ⟨x.id, now, 0⟩) (v := .sl (bytesAV (markB ⟨x.id, now, 0⟩)) .none) hS1 hlf' ⟨hc1, by omega⟩ (by omega) (by rw [sz_nmX]; omega) (by rw [mark_len]; omega) (by have := size_le (nmX x.id) L'; omega) hr (.inl ⟨.none, rfl, fun h => by cases h⟩) (fun n h => by cases h)
  generalize hcode : putC room left' L' (nmX x.id) (markB ⟨x.id, now, 0⟩) = code at hcall
  have hnm : (⟨(nmF x.id [120] 0).toArray⟩ : ByteArray) = nmX x.id := rfl
  generalize hmb : markB ⟨x.id, now, 0⟩ = mb at hcall hcode
  refine T.seq_k (fun K_h4 h4 => ?_)
  refine T.regi hm ?_
  simp only [↓reduceIte, namesOf, List.any, I.names, aopsI, astep, ev, setd, List.set, List.getD, List.getElem?_cons_zero, List.getElem?_cons_succ, List.cons_append, List.nil_append, List.length_cons, List.length_nil, List.replicate, then_normal, Option.getD_some, Bool.or_false, Bool.false_eq_true, up_zero, Nat.reduceAdd, ↓opt_def, AV.isAny, AV.cells, ldc, List.map_cons, List.map_nil, and_true, eq_self, hb, Nat.zero_add, fillA, ↓Option.map_some, AV.fits, AV.one, List.all_cons, List.all_nil, Nat.reduceBEq, Bool.not_false, Bool.and_self, Nat.zero_add, splice, List.take, List.drop, Nat.reduceLeDiff]
  refine (mMark_ok (k := ⟨x.id, now, 0⟩) hfair).mono ?_
  rintro v σ2 ⟨rfl, rfl⟩
  rw [hmb]
  try simp only [List.getElem?_cons_zero, List.getElem?_cons_succ]
  refine h4 _ _ ?_
  try clear h4 K_h4
  refine T.seq_k (fun K_h4 h4 => ?_)
  refine T.seq_k (fun K_h0 h0 => ?_)
  refine T.regi hm ?_
  simp only [↓reduceIte, namesOf, List.any, I.names, aopsI, astep, ev, setd, List.set, List.getD, List.getElem?_cons_zero, List.getElem?_cons_succ, List.cons_append, List.nil_append, List.replicate, then_normal, Option.getD_some, Bool.or_false, Bool.false_eq_true, up_zero, eq_self, eqIv, bne_self_eq_false]
  refine h0 _ _ ?_
  try clear h0 K_h0
  refine T.cond rfl (fun h => by cases h) (fun _ => T.skip ?_)
  refine h4 _ _ ?_
  try clear h4 K_h4
  refine T.seq_k (fun K_h4 h4 => ?_)
  refine T.regi hm ?_
  simp only [↓reduceIte, namesOf, List.any, I.names, aopsI, astep, ev, setd, List.set, List.getD, List.getElem?_cons_zero, List.getElem?_cons_succ, List.cons_append, List.nil_append, List.replicate, then_normal, Option.getD_some, Bool.or_false, Bool.false_eq_true, up_zero, ↓opt_def, ldc, List.map_cons, List.map_nil, hb, Nat.zero_add]
  refine (mName_ok (what := [120]) (page := 0) hT1 hxl (by omega) (by simp)).mono ?_
  rintro v σ3 ⟨rfl, rfl⟩
  rw [hnm]
  try simp only [↓reduceIte, namesOf, List.any, I.names, aops, aopsI, aopsT, qstep, CPt, qget, Tbl.get, astep, ev, setd, List.set, List.getD, List.getElem?_cons_zero, List.getElem?_cons_succ, List.getElem?_nil, List.cons_append, List.nil_append, List.length_cons, List.length_nil, List.replicate, then_normal, inBlock_normal, Option.getD_some, Option.getD_none, Bool.or_false, Bool.or_true, Bool.true_or, Bool.false_or, Bool.false_eq_true, if_false, if_true, up_zero, Nat.reduceAdd, Nat.reduceSub, binv, ↓opt_def, AV.isAny, AV.cells, ldc, List.map_cons, List.map_nil, St.set_next, St.set_same, St.up_next, Int.natCast_nonneg, lt_len, le_len, Int.toNat_natCast, true_and, and_true, eq_self, reduceCtorEq, decide_true, List.length_singleton, er_int, er_bool, er_str, srcR, up_zero]
  refine hcall.mono ?_
  rintro v σ4 ⟨rfl, hS4, hN4⟩
  try simp only [↓reduceIte, namesOf, List.any, I.names, aops, aopsI, aopsT, qstep, CPt, qget, Tbl.get, astep, ev, setd, List.set, List.getD, List.getElem?_cons_zero, List.getElem?_cons_succ, List.getElem?_nil, List.cons_append, List.nil_append, List.length_cons, List.length_nil, List.replicate, then_normal, inBlock_normal, Option.getD_some, Option.getD_none, Bool.or_false, Bool.or_true, Bool.true_or, Bool.false_or, Bool.false_eq_true, if_false, if_true, up_zero, Nat.reduceAdd, Nat.reduceSub, binv, ↓opt_def, AV.isAny, AV.cells, ldc, List.map_cons, List.map_nil, St.set_next, St.set_same, St.up_next, Int.natCast_nonneg, lt_len, le_len, Int.toNat_natCast, true_and, and_true, eq_self, reduceCtorEq, decide_true, List.length_singleton, er_int, er_bool, er_str, srcR, up_zero]
  refine h4 _ _ ?_
  try clear h4 K_h4
  by_cases hc0 : code = 0
  · subst hc0
    have er : errAV 0 = .nili := rfl
    rw [er]
    refine T.seq_k (fun K_h0 h0 => ?_)
    refine T.regi hm ?_
    simp only [↓reduceIte, namesOf, List.any, I.names, aopsI, astep, ev, setd, List.set, List.getD, List.getElem?_cons_zero, List.getElem?_cons_succ, List.cons_append, List.nil_append, List.replicate, then_normal, Option.getD_some, Bool.or_false, Bool.false_eq_true, up_zero, eq_self, eqIv, bne_self_eq_false]
    refine h0 _ _ ?_
    try clear h0 K_h0
    refine T.cond rfl (fun h => by cases h) (fun _ => T.skip ?_)
    try simp only [List.cons_append, List.nil_append, List.replicate, then_normal, inBlock_normal, inBlock_normal]
    refine h3 _ _ ?_
    try clear h3 K_h3
    refine T.regi hm ?_
    simp only [↓reduceIte, namesOf, List.any, I.names, aopsI, astep, ev, setd, List.set, List.getD, List.getElem?_cons_zero, List.getElem?_cons_succ, List.cons_append, List.nil_append, List.replicate, then_normal, Option.getD_some, Bool.or_false, Bool.false_eq_true, up_zero, binv, ↓opt_def, eq_self, hw]
    refine ⟨hil, _, _, Gh.keep [0, 2, 11, 36, 37, 38], leftB left', calls' + 1, putO (nmX x.id) mb L', ?_, by simpa using hS4, hN1.trans hN4, hlb, ⟨by omega, by omega⟩, ?_, rfl⟩
    · rw [hFx]; simp only [exF, hmb, hcode, if_true]
    · exact putC_used hr.1 hcode hu'
  · have er : errAV code = .iface tCode (.int .i64 code) := if_neg hc0
    rw [er]
    refine T.seq_k (fun K_h0 h0 => ?_)
    refine T.regi hm ?_
    simp only [↓reduceIte, namesOf, List.any, I.names, aopsI, astep, ev, setd, List.set, List.getD, List.getElem?_cons_zero, List.getElem?_cons_succ, List.cons_append, List.nil_append, List.replicate, then_normal, Option.getD_some, Bool.or_false, Bool.false_eq_true, up_zero, eqIv, Bool.bne_true, Bool.not_false]
    refine h0 _ _ ?_
    try clear h0 K_h0
    refine T.cond rfl (fun _ => ?_) (fun h => by cases h)
    refine T.seq_k (fun K_h0 h0 => ?_)
    refine T.regi hm ?_
    simp only [↓reduceIte, namesOf, List.any, I.names, aopsI, astep, ev, setd, List.set, List.getD, List.getElem?_cons_zero, List.getElem?_cons_succ, List.cons_append, List.nil_append, List.replicate, then_normal, Option.getD_some, Bool.or_false, Bool.false_eq_true, up_zero]
    refine h0 _ _ ?_
    try clear h0 K_h0
    rw [if_neg hc0] at hS4
    refine T.ret (Fin.ret rfl (.inr ⟨hmay, hbad, i, code, leftB left', calls' + 1, L', ?_, by rw [er]; rfl, hS4, hN1.trans hN4, hlb, ⟨by omega, by omega⟩, hu'⟩))
    rw [hO, hFo]; simp only [exF, hmb, hcode, if_neg hc0]; rfl

end Go.VL

namespace Go.VL

open Go.Proofs

/-- an owned thing nm, and a row that grows -/
structure RS (σ σ' : St) (nm : Nat) (r : Res) (k : Nat) (v : Ver) : Prop where
  old : ∀ m, m < σ.next → σ'.res m = σ.res m
  lo : σ.next ≤ nm
  hi : nm < σ'.next
  at_ : σ'.res nm = some r
  ver : v = .nil ∨ ∃ g, v = .tip g ∧ g ≠ nm ∧ σ.next ≤ g ∧ g < σ'.next ∧ σ'.res g = some (.tip k)

theorem RS.set {σ σ' : St} {nm k : Nat} {r : Res} {v : Ver} (h : RS σ σ' nm r k v) (r' : Res) : RS σ (σ'.set nm r') nm r' k v where
  old := fun m hm => by rw [St.set_other _ _ (by have := h.lo; omega)]; exact h.old m hm
  lo := h.lo
  hi := h.hi
  at_ := by simp
  ver := h.ver.imp id fun ⟨g, h1, h2, h3, h4, h5⟩ => ⟨g, h1, h2, h3, h4, by rw [St.set_other _ _ h2]; exact h5⟩

theorem RS.up {σ σ' : St} {nm k : Nat} {r : Res} {v : Ver} (h : RS σ σ' nm r k v) (n : Nat) : RS σ (σ'.up n) nm r k v :=
  ⟨h.old, h.lo, Nat.lt_of_lt_of_le h.hi (Nat.le_add_right _ _), h.at_, h.ver.imp id fun ⟨g, h1, h2, h3, h4, h5⟩ => ⟨g, h1, h2, h3, Nat.lt_of_lt_of_le h4 (Nat.le_add_right _ _), h5⟩⟩

theorem RS.nil {σ σ' : St} {nm k g2 : Nat} {r : Res} (h : RS σ σ' nm r k .nil) (h1 : nm < g2) (h2 : g2 < σ'.next) : RS σ (σ'.set g2 (.tip k)) nm r k (.tip g2) where
  old := fun m hm => by rw [St.set_other _ _ (by have := h.lo; omega)]; exact h.old m hm
  lo := h.lo
  hi := h.hi
  at_ := by rw [St.set_other _ _ (by omega)]; exact h.at_
  ver := .inr ⟨g2, rfl, by omega, by have := h.lo; omega, h2, by simp⟩

theorem RS.tip {σ σ' : St} {nm k g g2 : Nat} {r : Res} (h : RS σ σ' nm r k (.tip g)) (h1 : nm < g2) (h2 : g2 < σ'.next) : RS σ ((σ'.del g).set g2 (.tip k)) nm r k (.tip g2) := by
  obtain ⟨g', e, a1, a2, a3, a4⟩ := h.ver.resolve_left (by simp)
  cases e
  refine ⟨fun m hm => ?_, h.lo, h.hi, ?_, .inr ⟨g2, rfl, by omega, by have := h.lo; omega, h2, by simp⟩⟩
  · rw [St.set_other _ _ (by have := h.lo; omega)]
    simp only [St.del]
    rw [if_neg (by omega)]; exact h.old m hm
  · rw [St.set_other _ _ (by omega)]
    simp only [St.del]
    rw [if_neg (fun e => a1 e.symm)]; exact h.at_

theorem RS.quiet {σ σ' : St} {nm k : Nat} {r : Res} {v : Ver} (wf : WF σ) (h : RS σ σ' nm r k v) : ∀ m s, σ.res m = some s → σ'.res m = some s := by
  intro m s hm
  have : m < σ.next := by
    rcases Nat.lt_or_ge m σ.next with h | h
    · exact h
    · rw [wf m h] at hm; cases hm
  rw [h.old m this]; exact hm

end Go.VL

namespace Go.VL

open Go.Proofs

theorem exMark_nil {now ret : Int} {l : List Mt} {g : Ver} {σ : St} : ACalls Tryd.prog n_exMark [.nilp, .sl (mtsAV l) g, .int .i64 now, .int .i64 ret] σ (fun v σ' => v = .tup [.int .i64 0, .iface tCode (.int .i64 1)] ∧ σ' = σ) := by
  refine s_exMark (fun wf => ?_)
  unfold c_exMark
  have hnp : eqPv .nilp .nilp = some true := rfl
  refine T.seq_k (fun K_h0 h0 => ?_)
  refine T.regi hm ?_
  simp only [↓reduceIte, namesOf, List.any, I.names, aopsI, astep, ev, setd, List.set, List.cons_append, List.nil_append, List.length_cons, List.length_nil, List.replicate, then_normal, Bool.or_false, Bool.false_eq_true, up_zero, Nat.reduceAdd, Nat.reduceSub]
  refine h0 _ _ ?_
  try clear h0 K_h0
  refine T.seq_k (fun K_h0 h0 => ?_)
  refine T.regi hm ?_
  simp only [↓reduceIte, namesOf, List.any, I.names, aopsI, astep, ev, setd, List.set, then_normal, Bool.or_false, Bool.false_eq_true, up_zero]
  refine h0 _ _ ?_
  try clear h0 K_h0
  refine T.seq_k (fun K_h1 h1 => ?_)
  refine T.seq_k (fun K_h0 h0 => ?_)
  refine T.regi hm ?_
  simp only [↓reduceIte, namesOf, List.any, I.names, aopsI, astep, ev, setd, List.set, List.getD, List.getElem?_cons_zero, List.getElem?_cons_succ, then_normal, Option.getD_some, Bool.or_false, Bool.false_eq_true, up_zero, eq_self, reduceCtorEq, hnp, Bool.bne_false]
  refine h0 _ _ ?_
  try clear h0 K_h0
  refine T.cond rfl (fun _ => ?_) (fun h => by cases h)
  refine T.seq_k (fun K_h0 h0 => ?_)
  refine T.regi hm ?_
  simp only [↓reduceIte, namesOf, List.any, I.names, aopsI, astep, ev, setd, List.set, List.getD, List.getElem?_cons_zero, List.getElem?_cons_succ, then_normal, Option.getD_some, Bool.or_false, Bool.false_eq_true, up_zero]
  refine h0 _ _ ?_
  try clear h0 K_h0
  exact T.ret (Fin.ret rfl ⟨rfl, rfl⟩)

abbrev m21 : Mt := ⟨1, 0, 0, 3, 1, 1⟩

theorem named21 : namedB (nmX 1) = true := by decide +kernel

theorem ex21 : ∃ left' calls' L', exF 1000 5 (outM [m21] (5 - 2)) (-1) 0 [] = (1, 0, left', calls', L') := by
  have ho : outM [m21] (5 - 2) = [m21] := by decide
  have hc : putC 1000 (-1) [] (nmX 1) (markB ⟨1, 5, 0⟩) = 0 := by
    unfold putC
    rw [if_neg (by decide), if_neg (by rw [named21]; simp), if_neg ?_]
    rw [mark_len]; simp [usedO, sizeO, getO]
  rw [ho]
  simp only [exF, hc, if_true]
  exact ⟨_, _, _, rfl⟩

set_option maxRecDepth 10000 in
theorem up21_ok {σ : St} (hT : Tabs σ) : ACalls Tryd.prog n_up21 [] σ (fun v σ' => v = .bool true ∧ σ' = σ) := by
  refine s_up21 (fun wf => ?_)
  unfold c_up21
  refine T.seq_k (fun K_h0 h0 => ?_)
  refine T.regi hm ?_
  simp only [↓reduceIte, namesOf, List.any, I.names, aopsI, astep, ev, setd, List.set, List.nil_append, List.length_nil, List.replicate, then_normal, Bool.or_false, Bool.false_eq_true, up_zero, Nat.reduceSub]
  refine h0 _ _ ?_
  try clear h0 K_h0
  refine T.seq_k (fun K_h1 h1 => ?_)
  refine T.regi hm ?_
  simp only [↓reduceIte, namesOf, List.any, I.names, aopsI, astep, ev, setd, List.set, List.getD, List.getElem?_cons_zero, List.getElem?_cons_succ, then_normal, Option.getD_some, Bool.or_false, Bool.false_eq_true, up_zero, ↓opt_def, List.map_cons, List.map_nil]
  refine (snew_ok (room := 1000) (by omega)).mono ?_
  rintro v σ1 ⟨p, m, rfl, hS, hp, hm2, hpl, hml, hq⟩
  try simp only [List.getElem?_cons_zero, List.getElem?_cons_succ]
  refine h1 _ _ ?_
  try clear h1 K_h1
  have hnp : eqPv (.ptr p 0) .nilp = some false := rfl
  have hT1 : Tabs σ1 := hT.mono hq
  refine T.seq_k (fun K_h1 h1 => ?_)
  refine T.seq_k (fun K_h0 h0 => ?_)
  refine T.regi hm ?_
  simp only [↓reduceIte, namesOf, List.any, I.names, aopsI, astep, ev, setd, List.set, List.getD, List.getElem?_cons_zero, List.getElem?_cons_succ, then_normal, Option.getD_some, Bool.or_false, Bool.false_eq_true, up_zero, eq_self, hnp, eqIv, bne_self_eq_false]
  refine h0 _ _ ?_
  try clear h0 K_h0
  refine T.cond rfl (fun h => by cases h) (fun _ => T.skip ?_)
  refine h1 _ _ ?_
  try clear h1 K_h1
  have hmf : [AV.agg [.int .u64 1, .int .i64 0, .int .i64 0, .int .i64 3, .int .i64 1, .int .i64 1]] = mtsAV [m21] := rfl
  obtain ⟨l9, k9, L9, hex⟩ := ex21
  have hcall := exMark_ok (now := 5) (ret := 2) (l := [m21]) (g := .none) hT1 hS ⟨hpl, hml⟩ (by omega) (by omega) (by omega) (by simp [usedO]) (by simp) (by simp)
  have hmay : ∀ x ∈ [m21], mayM x := by
    intro x hx
    rw [List.mem_singleton] at hx
    subst hx
    decide
  have hbad : ¬ outBad 5 2 := by decide
  refine T.seq_k (fun K_h1 h1 => ?_)
  refine T.regi hm ?_
  simp only [↓reduceIte, namesOf, List.any, I.names, aopsI, astep, ev, setd, List.set, List.getD, List.getElem?_cons_zero, List.getElem?_cons_succ, List.cons_append, List.nil_append, List.length_cons, List.length_nil, then_normal, Option.getD_some, Bool.or_false, Bool.false_eq_true, up_zero, Nat.reduceAdd, ↓opt_def, AV.isAny, AV.cells, List.map_cons, List.map_nil, and_true, eq_self, fillA, ↓Option.map_some, held, hmf, AV.fits, AV.one, List.all_cons, List.all_nil, Nat.reduceBEq, Bool.not_false, Bool.and_self, Nat.zero_add, splice, List.take, List.drop, Nat.reduceLeDiff]
  refine hcall.mono ?_
  rintro v σ2 (⟨hno, _, _⟩ | ⟨_, _, n, c, l2, k2, L2, hF, rfl, hS2, hN2, _⟩)
  · rcases hno with h | h
    · exact absurd hmay h
    · exact absurd h hbad
  rw [hex] at hF
  simp only [Prod.mk.injEq] at hF
  obtain ⟨rfl, rfl, _⟩ := hF
  try simp only [List.getElem?_cons_zero, List.getElem?_cons_succ]
  refine h1 _ _ ?_
  try clear h1 K_h1
  have hnil : AV.sl ([] : List AV) .nil = .sl (mtsAV []) .nil := rfl
  refine T.seq_k (fun K_h1 h1 => ?_)
  refine T.regi hm ?_
  simp only [↓reduceIte, namesOf, List.any, I.names, aopsI, astep, ev, setd, List.set, List.getD, List.getElem?_cons_zero, List.getElem?_cons_succ, then_normal, Option.getD_some, Bool.or_false, Bool.false_eq_true, up_zero, ↓opt_def, List.map_cons, List.map_nil]
  rw [hnil]
  refine exMark_nil.mono ?_
  rintro v σ3 ⟨rfl, rfl⟩
  try simp only [List.getElem?_cons_zero, List.getElem?_cons_succ]
  refine h1 _ _ ?_
  try clear h1 K_h1
  have er0 : errAV 0 = .nili := rfl
  have e11 : (((1 : Nat) : Int) == 1) = true := rfl
  rw [er0]
  refine T.seq_k (fun K_h0 h0 => ?_)
  refine T.regi hm ?_
  simp only [↓reduceIte, namesOf, List.any, I.names, aopsI, astep, ev, setd, List.set, List.getD, List.getElem?_cons_zero, List.getElem?_cons_succ, then_normal, Option.getD_some, Bool.or_false, Bool.false_eq_true, up_zero, binv, ↓opt_def, eq_self, decide_true, e11, eqIv, beq_self_eq_true, Bool.and_self, Bool.bne_false]
  refine h0 _ _ ?_
  try clear h0 K_h0
  exact T.ret (Fin.quiet rfl trivial (fun n r hr => hN2.old n r (by have := wf.lt hr; omega) (by have := wf.lt hr; omega) (hq n r hr)) ⟨rfl, rfl⟩)

end Go.VL

namespace Go.VL

open Go.Proofs

/-- but for a store of the document's, and what is new, all is as it was -/
structure Nz (σ t : St) (q : Nat) (G G' : Option Nat) : Prop where
  next : σ.next ≤ t.next
  old : ∀ n x, n ≠ q → G ≠ some n → σ.res n = some x → t.res n = some x
  row : G' = G ∨ ∃ g, G' = some g ∧ σ.next ≤ g

theorem Nz.refl (σ : St) (q : Nat) (G : Option Nat) : Nz σ σ q G G := ⟨Nat.le_refl _, fun _ _ _ _ h => h, .inl rfl⟩

theorem Nz.step {σ t u : St} {q : Nat} {G G1 G2 : Option Nat} (wf : WF σ) (h : Nz σ t q G G1) (k : Ny t u q G1) (e : G2 = G1 ∨ ∃ g, G2 = some g ∧ t.next ≤ g ∧ g < u.next) : Nz σ u q G G2 := by
  refine ⟨Nat.le_trans h.next k.next, fun n x h1 h2 h3 => ?_, ?_⟩
  · refine k.old n x h1 (fun e => ?_) (h.old n x h1 h2 h3)
    rcases h.row with h4 | ⟨g, h4, h5⟩
    · exact h2 (by rw [← h4]; exact e)
    · rw [h4] at e; cases e
      have := wf.lt h3; omega
  · rcases e with rfl | ⟨g, h4, h5, _⟩
    · exact h.row
    · exact .inr ⟨g, h4, Nat.le_trans h.next h5⟩

theorem Nz.box {σ t : St} {q : Nat} {G G1 : Option Nat} (wf : WF σ) (h : Nz σ t q G G1) {n i : Nat} (r : Res) : Nz σ ((t.up n).set (t.next + i) r) q G G1 :=
  ⟨by have := h.next; simp; omega, fun m x h1 h2 h3 => by rw [St.set_other _ _ (by have := wf.lt h3; have := h.next; omega)]; exact h.old m x h1 h2 h3, h.row⟩

theorem RSt.box {t : St} {q : Nat} {G : Option Nat} {room left calls : Int} {L : Objs} (hq : q < t.next) (hg : ∀ g, G = some g → g < t.next) (h : RSt t q G room left calls L) {n i : Nat} (r : Res) : RSt ((t.up n).set (t.next + i) r) q G room left calls L :=
  ⟨by rw [St.set_other _ _ (by omega)]; exact h.obj, h.nil, fun n hn => ⟨(h.row n hn).1, by have := hg n hn; rw [St.set_other _ _ (by omega)]; exact (h.row n hn).2⟩⟩

set_option maxRecDepth 10000 in
set_option maxHeartbeats 2000000 in
theorem rExp19_ok {q : Nat} {G : Option Nat} {room left calls now ret : Int} {L M : Objs} {l : List Mt} {g : Ver} {σ : St} (h : RSt σ q G room left calls M) (hA : Alike L M) (hlf : -1 ≤ left ∧ left ≤ 9223372036854775807) (hc : 0 ≤ calls ∧ calls ≤ 1000000000)
    (hr : 0 ≤ room ∧ room ≤ 1048576) (hu : (usedO L : Int) ≤ room) (hl : M.length + l.length ≤ 1000000) (hid : ∀ x ∈ l, x.id < 18446744073709551616) :
    ACalls Tryd.prog n_rExp19 [.ptr q 0, .sl (mtsAV l) g, .int .i64 now, .int .i64 ret] σ (fun v σ' =>
      (outBad now ret ∧ v = .tup [.int .i64 0, .int .i64 1] ∧ σ' = σ) ∨
      (¬ outBad now ret ∧ ∃ n c left' calls' L' M' G', exF room now (outM l (now - ret)) left calls L = (n, c, left', calls', L') ∧ v = .tup [.int .i64 (n : Int), .int .i64 c] ∧
        RSt σ' q G' room left' calls' M' ∧ Alike L' M' ∧ M'.length ≤ M.length + l.length ∧ Nz σ σ' q G G')) := by
  refine s_rExp19 (fun wf => ?_)
  unfold c_rExp19
  refine T.seq_k (fun K_h0 h0 => ?_)
  refine T.regi hm ?_
  simp only [↓reduceIte, namesOf, List.any, I.names, aopsI, astep, ev, setd, List.set, List.cons_append, List.nil_append, List.length_cons, List.length_nil, List.replicate, then_normal, Bool.or_false, Bool.false_eq_true, up_zero, Nat.reduceAdd, Nat.reduceSub]
  refine h0 _ _ ?_
  try clear h0 K_h0
  refine T.seq_k (fun K_h1 h1 => ?_)
  by_cases c1 : now < 0
  · have e1 : decide (now < 0) = true := decide_eq_true c1
    refine T.seq_k (fun K_h0 h0 => ?_)
    refine T.regi hm ?_
    simp only [↓reduceIte, namesOf, List.any, I.names, aopsI, astep, ev, setd, List.set, List.getD, List.getElem?_cons_zero, List.getElem?_cons_succ, then_normal, Option.getD_some, Bool.or_false, Bool.false_eq_true, up_zero, binv, ↓opt_def, eq_self, reduceCtorEq, e1]
    refine h0 _ _ ?_
    try clear h0 K_h0
    refine T.cond rfl (fun _ => ?_) (fun h => by cases h)
    refine T.seq_k (fun K_h0 h0 => ?_)
    refine T.regi hm ?_
    simp only [↓reduceIte, namesOf, List.any, I.names, aopsI, astep, ev, setd, List.set, then_normal, Bool.or_false, Bool.false_eq_true, up_zero]
    refine h0 _ _ ?_
    try clear h0 K_h0
    exact T.ret (Fin.ret rfl (.inl ⟨.inl c1, rfl, rfl⟩))
  have e1 : decide (now < 0) = false := decide_eq_false c1
  by_cases c2 : now > 1099511627776
  · have e2 : decide (now > 1099511627776) = true := decide_eq_true c2
    refine T.seq_k (fun K_h0 h0 => ?_)
    refine T.regi hm ?_
    simp only [↓reduceIte, namesOf, List.any, I.names, aopsI, astep, ev, setd, List.set, List.getD, List.getElem?_cons_zero, List.getElem?_cons_succ, then_normal, Option.getD_some, Bool.or_false, Bool.false_eq_true, up_zero, binv, ↓opt_def, eq_self, reduceCtorEq, e1, e2]
    refine h0 _ _ ?_
    try clear h0 K_h0
    refine T.cond rfl (fun _ => ?_) (fun h => by cases h)
    refine T.seq_k (fun K_h0 h0 => ?_)
    refine T.regi hm ?_
    simp only [↓reduceIte, namesOf, List.any, I.names, aopsI, astep, ev, setd, List.set, then_normal, Bool.or_false, Bool.false_eq_true, up_zero]
    refine h0 _ _ ?_
    try clear h0 K_h0
    exact T.ret (Fin.ret rfl (.inl ⟨.inr (.inl c2), rfl, rfl⟩))
  have e2 : decide (now > 1099511627776) = false := decide_eq_false c2
  by_cases c3 : ret < 0
  · have e3 : decide (ret < 0) = true := decide_eq_true c3
    refine T.seq_k (fun K_h0 h0 => ?_)
    refine T.regi hm ?_
    simp only [↓reduceIte, namesOf, List.any, I.names, aopsI, astep, ev, setd, List.set, List.getD, List.getElem?_cons_zero, List.getElem?_cons_succ, then_normal, Option.getD_some, Bool.or_false, Bool.false_eq_true, up_zero, binv, ↓opt_def, eq_self, reduceCtorEq, e1, e2, e3]
    refine h0 _ _ ?_
    try clear h0 K_h0
    refine T.cond rfl (fun _ => ?_) (fun h => by cases h)
    refine T.seq_k (fun K_h0 h0 => ?_)
    refine T.regi hm ?_
    simp only [↓reduceIte, namesOf, List.any, I.names, aopsI, astep, ev, setd, List.set, then_normal, Bool.or_false, Bool.false_eq_true, up_zero]
    refine h0 _ _ ?_
    try clear h0 K_h0
    exact T.ret (Fin.ret rfl (.inl ⟨.inr (.inr (.inl c3)), rfl, rfl⟩))
  have e3 : decide (ret < 0) = false := decide_eq_false c3
  by_cases c4 : ret > 1099511627776
  · have e4 : decide (ret > 1099511627776) = true := decide_eq_true c4
    refine T.seq_k (fun K_h0 h0 => ?_)
    refine T.regi hm ?_
    simp only [↓reduceIte, namesOf, List.any, I.names, aopsI, astep, ev, setd, List.set, List.getD, List.getElem?_cons_zero, List.getElem?_cons_succ, then_normal, Option.getD_some, Bool.or_false, Bool.false_eq_true, up_zero, binv, ↓opt_def, eq_self, e1, e2, e3, e4]
    refine h0 _ _ ?_
    try clear h0 K_h0
    refine T.cond rfl (fun _ => ?_) (fun h => by cases h)
    refine T.seq_k (fun K_h0 h0 => ?_)
    refine T.regi hm ?_
    simp only [↓reduceIte, namesOf, List.any, I.names, aopsI, astep, ev, setd, List.set, then_normal, Bool.or_false, Bool.false_eq_true, up_zero]
    refine h0 _ _ ?_
    try clear h0 K_h0
    exact T.ret (Fin.ret rfl (.inl ⟨.inr (.inr (.inr c4)), rfl, rfl⟩))
  have e4 : decide (ret > 1099511627776) = false := decide_eq_false c4
  have hbad : ¬ outBad now ret := by rintro (h | h | h | h) <;> omega
  refine T.seq_k (fun K_h0 h0 => ?_)
  refine T.regi hm ?_
  simp only [↓reduceIte, namesOf, List.any, I.names, aopsI, astep, ev, setd, List.set, List.getD, List.getElem?_cons_zero, List.getElem?_cons_succ, then_normal, Option.getD_some, Bool.or_false, Bool.false_eq_true, up_zero, binv, ↓opt_def, eq_self, e1, e2, e3, e4]
  refine h0 _ _ ?_
  try clear h0 K_h0
  refine T.cond rfl (fun h => by cases h) (fun _ => T.skip ?_)
  refine h1 _ _ ?_
  try clear h1 K_h1
  refine T.seq_k (fun K_h1 h1 => ?_)
  refine T.regi hm ?_
  simp only [↓reduceIte, namesOf, List.any, I.names, aopsI, astep, ev, setd, List.set, List.getD, List.getElem?_cons_zero, List.getElem?_cons_succ, then_normal, Option.getD_some, Bool.or_false, Bool.false_eq_true, up_zero, List.map_cons, List.map_nil]
  refine (rOut19_ok (by omega) hbad).mono ?_
  rintro v σ1 ⟨rfl, rfl⟩
  have hol : (outM l (now - ret)).length ≤ l.length := out_len _ _
  have hoid : ∀ x ∈ outM l (now - ret), x.id < 18446744073709551616 := fun x hx => hid x (List.mem_filter.1 hx).1
  generalize hO : outM l (now - ret) = out at hol hoid ⊢
  try simp only [↓reduceIte, namesOf, List.any, I.names, aops, aopsI, aopsT, qstep, CPt, qget, Tbl.get, astep, ev, setd, List.set, List.getD, List.getElem?_cons_zero, List.getElem?_cons_succ, List.getElem?_nil, List.cons_append, List.nil_append, List.length_cons, List.length_nil, List.replicate, then_normal, inBlock_normal, Option.getD_some, Option.getD_none, Bool.or_false, Bool.or_true, Bool.true_or, Bool.false_or, Bool.false_eq_true, if_false, if_true, up_zero, Nat.reduceAdd, Nat.reduceSub, binv, ↓opt_def, AV.isAny, AV.cells, ldc, List.map_cons, List.map_nil, St.set_next, St.set_same, St.up_next, Int.natCast_nonneg, lt_len, le_len, Int.toNat_natCast, true_and, and_true, eq_self, reduceCtorEq, decide_true, List.length_singleton, er_int, er_bool, er_str, srcR, up_zero]
  refine h1 _ _ ?_
  try clear h1 K_h1
  refine T.seq_k (fun K_h1 h1 => ?_)
  refine T.seq_k (fun K_h0 h0 => ?_)
  refine T.regi hm ?_
  simp only [↓reduceIte, namesOf, List.any, I.names, aopsI, astep, ev, setd, List.set, then_normal, Bool.or_false, Bool.false_eq_true, up_zero]
  refine h0 _ _ ?_
  try clear h0 K_h0
  refine T.block ?_
  refine T.gh (Gh.keep [0, 2, 10, 11]) ?_
  refine T.loopi (fun i ρ t => ∃ left' calls' L' M' G', exF room now (out.take i) left calls L = (i, 0, left', calls', L') ∧ RSt t q G' room left' calls' M' ∧ Alike L' M' ∧ M'.length ≤ M.length + i ∧ Nz σ1 t q G G' ∧ (q < t.next ∧ ∀ g, G' = some g → g < t.next) ∧ (-1 ≤ left' ∧ left' ≤ 9223372036854775807) ∧ (0 ≤ calls' ∧ calls' = calls + i) ∧ (usedO L' : Int) ≤ room ∧
      ρ = [.ptr q 0, .any, .int .i64 now, .any, .any, .any, .any, .any, .any, .any, .sl (mtsAV out) .none, .int .i64 (i : Int)] ++ List.replicate 48 .any)
    out.length 0 (Nat.zero_le _) ⟨left, calls, L, M, G, rfl, h, hA, Nat.le_refl _, .refl _ _ _, ⟨wf.lt h.obj, fun g hg => wf.lt (h.row g hg).2⟩, hlf, ⟨hc.1, by simp⟩, hu, rfl⟩ ?_
  rintro i ρ t hi ⟨left', calls', L', M', G', hF, hS, hA', hM, hN, ⟨hqn, hgn⟩, hlf', ⟨hc1, hc2⟩, hu', rfl⟩
  refine T.seq_k (fun K_h2 h2 => ?_)
  refine T.seq_k (fun K_h0 h0 => ?_)
  refine T.regi hm ?_
  simp only [↓reduceIte, namesOf, List.any, I.names, aopsI, astep, ev, setd, List.set, List.getD, List.getElem?_cons_zero, List.getElem?_cons_succ, List.cons_append, List.nil_append, List.replicate, then_normal, Option.getD_some, Bool.or_false, Bool.false_eq_true, up_zero, binv, ↓opt_def, lt_len, eq_self, mts_len]
  refine h0 _ _ ?_
  try clear h0 K_h0
  by_cases hil : i < out.length
  case neg =>
    refine T.cond (b := false) (by simp [ev]; omega) (fun h => by cases h) (fun _ => T.exit ?_)
    have hie : i = out.length := by omega
    subst hie
    rw [List.take_length] at hF
    try simp only [List.cons_append, List.nil_append, List.replicate, then_normal, inBlock_exit, then_exit]
    refine h1 _ _ ?_
    try clear h1 K_h1
    refine T.seq_k (fun K_h0 h0 => ?_)
    refine T.regi hm ?_
    simp only [↓reduceIte, namesOf, List.any, I.names, aopsI, astep, ev, setd, List.set, List.getD, List.getElem?_cons_zero, List.getElem?_cons_succ, then_normal, Option.getD_some, Bool.or_false, Bool.false_eq_true, up_zero, mts_len]
    refine h0 _ _ ?_
    try clear h0 K_h0
    exact T.ret (Fin.ret rfl (.inr ⟨hbad, out.length, 0, left', calls', L', M', G', by rw [hO]; exact hF, rfl, hS, hA', by omega, hN⟩))
  refine T.cond (b := true) (by simp [ev]; omega) (fun _ => T.skip ?_) (fun h => by cases h)
  refine h2 _ _ ?_
  try clear h2 K_h2
  obtain ⟨x, hx⟩ : ∃ x, out[i]? = some x := ⟨_, List.getElem?_eq_getElem hil⟩
  have hgx := mts_get hx
  have hw := inc64' hil (by omega)
  have hts : out.take (i + 1) = out.take i ++ [x] := by
    rw [List.take_succ_eq_append_getElem hil]
    rw [List.getElem?_eq_getElem hil] at hx
    cases hx; rfl
  have hxl := hoid x (List.mem_of_getElem? hx)
  have hn1 : now ≥ 0 := Int.not_lt.1 fun h => hbad (.inl h)
  have hn2 : now ≤ 1099511627776 := Int.not_lt.1 fun h => hbad (.inr (.inl h))
  have hFx := exF_app (b := [x]) (show exF room now (out.take i) left calls L = ((out.take i).length, 0, left', calls', L') by rw [hF, List.length_take, Nat.min_eq_left (by omega)])
  rw [← hts, List.length_take, Nat.min_eq_left (by omega : i ≤ out.length)] at hFx
  have hFo := exF_app (b := out.drop i) (show exF room now (out.take i) left calls L = ((out.take i).length, 0, left', calls', L') by rw [hF, List.length_take, Nat.min_eq_left (by omega)])
  rw [List.take_append_drop, List.length_take, Nat.min_eq_left (by omega : i ≤ out.length)] at hFo
  have hdrop : out.drop i = x :: out.drop (i + 1) := by
    rw [List.drop_eq_getElem_cons hil]
    rw [List.getElem?_eq_getElem hil] at hx
    cases hx; rfl
  rw [hdrop] at hFo
  refine T.seq_k (fun K_h3 h3 => ?_)
  refine T.block ?_
  refine T.seq_k (fun K_h0 h0 => ?_)
  refine T.regi hm ?_
  simp only [↓reduceIte, namesOf, List.any, I.names, aopsI, astep, ev, setd, List.set, List.getD, List.getElem?_cons_zero, List.getElem?_cons_succ, List.cons_append, List.nil_append, List.length_cons, List.length_nil, List.replicate, then_normal, Option.getD_some, Bool.or_false, Bool.or_true, Nat.reduceAdd, ↓opt_def, AV.isAny, AV.cells, ldc, St.set_same, Int.natCast_nonneg, lt_len, Int.toNat_natCast, true_and, and_true, eq_self, decide_true, hil, mts_len, hgx, fillA, ↓Option.map_some, AV.fits, AV.one, List.all_cons, List.all_nil, Nat.reduceBEq, Bool.not_false, Bool.and_self, Nat.zero_add, splice, List.take, List.drop, Nat.reduceLeDiff, St.set_set]
  refine h0 _ _ ?_
  try clear h0 K_h0
  have hS1 := hS.box hqn hgn (n := 9) (i := 7) (.obj [.int .u64 (x.id : Int), .int .i64 now, .int .u64 0])
  have hN1 := hN.box wf (n := 9) (i := 7) (.obj [.int .u64 (x.id : Int), .int .i64 now, .int .u64 0])
  have hb : ((t.up 9).set (t.next + 7) (.obj [.int .u64 (x.id : Int), .int .i64 now, .int .u64 0])).res (t.next + 7) = some (.obj [.int .u64 (x.id : Int), .int .i64 now, .int .u64 0]) := St.set_same _ _ _
  have hqn1 : q < ((t.up 9).set (t.next + 7) (.obj [.int .u64 (x.id : Int), .int .i64 now, .int .u64 0])).next := by simp; omega
  have hgn1 : ∀ g, G' = some g → g < ((t.up 9).set (t.next + 7) (.obj [.int .u64 (x.id : Int), .int .i64 now, .int .u64 0])).next := fun g hg => by have := hgn g hg; simp; omega
  generalize ((t.up 9).set (t.next + 7) (.obj [.int .u64 (x.id : Int), .int .i64 now, .int .u64 0])) = u at hS1 hN1 hb hqn1 hgn1 ⊢
  generalize t.next + 7 = b at hb ⊢
  clear hS hN hqn hgn
  have hlb : -1 ≤ leftB left' ∧ leftB left' ≤ 9223372036854775807 := by unfold leftB; split <;> omega
  have hput := rsPut_ok (k := nmX x.id) (b := markB ⟨x.id, now, 0⟩) hS1 hlf' ⟨hc1, by omega⟩ (by omega) (by have := hA'.used; omega) (by rw [sz_nmX]; omega) (by rw [mark_len]; omega)
  have hcd := hA'.code room left' (nmX x.id) (markB ⟨x.id, now, 0⟩)
  rw [hcd] at hput
  have hpu := hA'.put (nmX x.id) (markB ⟨x.id, now, 0⟩)
  have hpl := rput_len (nmX x.id) (markB ⟨x.id, now, 0⟩) M'
  generalize hcode : putC room left' L' (nmX x.id) (markB ⟨x.id, now, 0⟩) = code at hput
  have hnm : (⟨(nmF x.id [120] 0).toArray⟩ : ByteArray) = nmX x.id := rfl
  have hms : sealB (w8s [x.id, now.toNat, 0]) = markB ⟨x.id, now, 0⟩ := rfl
  generalize hmb : markB ⟨x.id, now, 0⟩ = mb at hput hcode hms hpu hpl
  refine T.seq_k (fun K_h4 h4 => ?_)
  refine T.regi hm ?_
  simp only [↓reduceIte, namesOf, List.any, I.names, aopsI, astep, ev, setd, List.set, List.getD, List.getElem?_cons_zero, List.getElem?_cons_succ, List.cons_append, List.nil_append, List.length_cons, List.length_nil, List.replicate, then_normal, Option.getD_some, Bool.or_false, Bool.false_eq_true, up_zero, Nat.reduceAdd, ↓opt_def, ldc, List.map_cons, List.map_nil, hb, Nat.zero_add, Nat.add_zero, Nat.zero_add, List.take, List.drop, Nat.reduceLeDiff, Nat.reduceAdd, List.length_cons, List.length_nil]
  refine ⟨_, rName_ok (what := [120]) (page := 0) hxl (by omega) (by simp), ?_⟩
  rw [hnm]
  try simp only [↓reduceIte, namesOf, List.any, I.names, aops, aopsI, aopsT, qstep, CPt, qget, Tbl.get, astep, ev, setd, List.set, List.getD, List.getElem?_cons_zero, List.getElem?_cons_succ, List.getElem?_nil, List.cons_append, List.nil_append, List.length_cons, List.length_nil, List.replicate, then_normal, inBlock_normal, Option.getD_some, Option.getD_none, Bool.or_false, Bool.or_true, Bool.true_or, Bool.false_or, Bool.false_eq_true, if_false, if_true, up_zero, Nat.reduceAdd, Nat.reduceSub, binv, ↓opt_def, AV.isAny, AV.cells, ldc, List.map_cons, List.map_nil, St.set_next, St.set_same, St.up_next, Int.natCast_nonneg, lt_len, le_len, Int.toNat_natCast, true_and, and_true, eq_self, reduceCtorEq, decide_true, List.length_singleton, er_int, er_bool, er_str, srcR, hb, Nat.zero_add, Nat.add_zero, AV.fits, AV.one, List.all_cons, List.all_nil, Nat.reduceBEq, Bool.and_true, Bool.not_false, Bool.and_self, Nat.zero_add, splice, List.take, List.drop, Nat.reduceLeDiff]
  refine ⟨_, rBare_ok (k := ⟨x.id, now, 0⟩) hxl (show (0 : Nat) < 18446744073709551616 by decide) ⟨hn1, hn2⟩, ?_⟩
  try simp only []
  refine ⟨_, rseal_q (l := w8s [x.id, now.toNat, 0]) (by rw [w8s_len]; simp), ?_⟩
  rw [hms]
  try simp only [toBytes_bytes]
  refine hput.mono ?_
  rintro v u' ⟨rfl, G2, hS2, hN2, hG2⟩
  have hN3 := hN1.step wf hN2 hG2
  have hqn2 : q < u'.next := Nat.lt_of_lt_of_le hqn1 hN2.next
  have hgn2 : ∀ g, G2 = some g → g < u'.next := fun g hg => by
    rcases hG2 with rfl | ⟨g', h4, h5, h6⟩
    · exact Nat.lt_of_lt_of_le (hgn1 g hg) hN2.next
    · rw [h4] at hg; cases hg; exact h6
  try simp only [↓reduceIte, namesOf, List.any, I.names, aops, aopsI, aopsT, qstep, CPt, qget, Tbl.get, astep, ev, setd, List.set, List.getD, List.getElem?_cons_zero, List.getElem?_cons_succ, List.getElem?_nil, List.cons_append, List.nil_append, List.length_cons, List.length_nil, List.replicate, then_normal, inBlock_normal, Option.getD_some, Option.getD_none, Bool.or_false, Bool.or_true, Bool.true_or, Bool.false_or, Bool.false_eq_true, if_false, if_true, up_zero, Nat.reduceAdd, Nat.reduceSub, binv, ↓opt_def, AV.isAny, AV.cells, ldc, List.map_cons, List.map_nil, St.set_next, St.set_same, St.up_next, Int.natCast_nonneg, lt_len, le_len, Int.toNat_natCast, true_and, and_true, eq_self, reduceCtorEq, decide_true, List.length_singleton, er_int, er_bool, er_str, srcR, up_zero]
  refine h4 _ _ ?_
  try clear h4 K_h4
  by_cases hc0 : code = 0
  · subst hc0
    refine T.seq_k (fun K_h0 h0 => ?_)
    refine T.regi hm ?_
    simp only [↓reduceIte, namesOf, List.any, I.names, aopsI, astep, ev, setd, List.set, List.getD, List.getElem?_cons_zero, List.getElem?_cons_succ, List.cons_append, List.nil_append, List.replicate, then_normal, Option.getD_some, Bool.or_false, Bool.false_eq_true, up_zero, binv, ↓opt_def, eq_self, bne_self_eq_false]
    refine h0 _ _ ?_
    try clear h0 K_h0
    refine T.cond rfl (fun h => by cases h) (fun _ => T.skip ?_)
    try simp only [List.cons_append, List.nil_append, List.replicate, then_normal, inBlock_normal, inBlock_normal]
    refine h3 _ _ ?_
    try clear h3 K_h3
    refine T.regi hm ?_
    simp only [↓reduceIte, namesOf, List.any, I.names, aopsI, astep, ev, setd, List.set, List.getD, List.getElem?_cons_zero, List.getElem?_cons_succ, List.cons_append, List.nil_append, List.replicate, then_normal, Option.getD_some, Bool.or_false, Bool.false_eq_true, up_zero, binv, ↓opt_def, eq_self, hw]
    refine ⟨hil, _, _, Gh.keep [0, 2, 10, 11], leftB left', calls' + 1, putO (nmX x.id) mb L', rput (nmX x.id) mb M', G2, ?_, by simpa using hS2, hpu, by omega, hN3, ⟨hqn2, hgn2⟩, hlb, ⟨by omega, by omega⟩, ?_, rfl⟩
    · rw [hFx]; simp only [exF, hmb, hcode, if_true]
    · exact putC_used hr.1 hcode hu'
  · have hne : (code != 0) = true := by simpa using hc0
    refine T.seq_k (fun K_h0 h0 => ?_)
    refine T.regi hm ?_
    simp only [↓reduceIte, namesOf, List.any, I.names, aopsI, astep, ev, setd, List.set, List.getD, List.getElem?_cons_zero, List.getElem?_cons_succ, List.cons_append, List.nil_append, List.replicate, then_normal, Option.getD_some, Bool.or_false, Bool.false_eq_true, up_zero, binv, ↓opt_def, eq_self, hne]
    refine h0 _ _ ?_
    try clear h0 K_h0
    refine T.cond rfl (fun _ => ?_) (fun h => by cases h)
    refine T.seq_k (fun K_h0 h0 => ?_)
    refine T.regi hm ?_
    simp only [↓reduceIte, namesOf, List.any, I.names, aopsI, astep, ev, setd, List.set, List.getD, List.getElem?_cons_zero, List.getElem?_cons_succ, List.cons_append, List.nil_append, List.replicate, then_normal, Option.getD_some, Bool.or_false, Bool.false_eq_true, up_zero]
    refine h0 _ _ ?_
    try clear h0 K_h0
    rw [if_neg hc0] at hS2
    refine T.ret (Fin.ret rfl (.inr ⟨hbad, i, code, leftB left', calls' + 1, L', M', G2, ?_, rfl, hS2, hA', by omega, hN3⟩))
    rw [hO, hFo]; simp only [exF, hmb, hcode, if_neg hc0]; rfl

end Go.VL

namespace Go.VL

open Go.Proofs

theorem snew_out {room : Int} {σ : St} (hr : room < 1 ∨ room > 1048576) : ACalls Tryd.prog n_snew [.int .i64 room] σ (fun v σ' => v = .tup [.nilp, .iface tCode (.int .i64 1)] ∧ σ' = σ) := by
  refine s_snew (fun wf => ?_)
  unfold c_snew
  refine T.seq_k (fun K_h1 h1 => ?_)
  refine T.regi hm ?_
  simp only [↓reduceIte, namesOf, List.any, I.names, aopsI, astep, ev, setd, List.set, List.cons_append, List.nil_append, List.length_cons, List.length_nil, List.replicate, then_normal, Bool.or_false, Bool.false_eq_true, up_zero, Nat.reduceAdd, Nat.reduceSub]
  refine h1 _ _ ?_
  try clear h1 K_h1
  refine T.seq_k (fun K_h1 h1 => ?_)
  refine T.seq_k (fun K_h2 h2 => ?_)
  by_cases c1 : room < 1
  · have e1 : decide (room < 1) = true := decide_eq_true c1
    refine T.regi hm ?_
    simp only [↓reduceIte, namesOf, List.any, I.names, aopsI, astep, ev, setd, List.set, List.getD, List.getElem?_cons_zero, List.getElem?_cons_succ, then_normal, Option.getD_some, Bool.or_false, Bool.false_eq_true, up_zero, binv, ↓opt_def, eq_self, reduceCtorEq, e1, reduceCtorEq]
    refine h2 _ _ ?_
    try clear h2 K_h2
    refine T.cond rfl (fun _ => ?_) (fun h => by cases h)
    refine T.seq_k (fun K_h2 h2 => ?_)
    refine T.regi hm ?_
    simp only [↓reduceIte, namesOf, List.any, I.names, aopsI, astep, ev, setd, List.set, List.getD, List.getElem?_cons_zero, List.getElem?_cons_succ, then_normal, Option.getD_some, Bool.or_false, Bool.false_eq_true, up_zero]
    refine h2 _ _ ?_
    try clear h2 K_h2
    exact T.ret (Fin.ret rfl ⟨rfl, rfl⟩)
  · have e1 : decide (room < 1) = false := decide_eq_false c1
    have e2 : decide (room > 1048576) = true := decide_eq_true (hr.resolve_left c1)
    refine T.regi hm ?_
    simp only [↓reduceIte, namesOf, List.any, I.names, aopsI, astep, ev, setd, List.set, List.getD, List.getElem?_cons_zero, List.getElem?_cons_succ, then_normal, Option.getD_some, Bool.or_false, Bool.false_eq_true, up_zero, binv, ↓opt_def, eq_self, e1, e2]
    refine h2 _ _ ?_
    try clear h2 K_h2
    refine T.cond rfl (fun _ => ?_) (fun h => by cases h)
    refine T.seq_k (fun K_h2 h2 => ?_)
    refine T.regi hm ?_
    simp only [↓reduceIte, namesOf, List.any, I.names, aopsI, astep, ev, setd, List.set, List.getD, List.getElem?_cons_zero, List.getElem?_cons_succ, then_normal, Option.getD_some, Bool.or_false, Bool.false_eq_true, up_zero]
    refine h2 _ _ ?_
    try clear h2 K_h2
    exact T.ret (Fin.ret rfl ⟨rfl, rfl⟩)

theorem StS.other {σ σ' : St} {p m : Nat} {room left calls : Int} {L : Objs} (h : StS σ p m room left calls L) (hk : ∀ n x, (n = p ∨ n = m) → σ.res n = some x → σ'.res n = some x) : StS σ' p m room left calls L := by
  obtain ⟨ts, clk, h1, h2⟩ := h.map
  exact ⟨hk _ _ (.inl rfl) h.obj, ⟨ts, clk, hk _ _ (.inr rfl) h1, h2⟩, h.ne⟩

theorem RSt.other {σ σ' : St} {q : Nat} {G : Option Nat} {room left calls : Int} {L : Objs} (h : RSt σ q G room left calls L) (hk : ∀ n x, (n = q ∨ G = some n) → σ.res n = some x → σ'.res n = some x) : RSt σ' q G room left calls L :=
  ⟨hk _ _ (.inl rfl) h.obj, h.nil, fun n hn => ⟨(h.row n hn).1, hk _ _ (.inr hn) (h.row n hn).2⟩⟩

theorem exF_code {room now : Int} : ∀ {out : List Mt} {left calls left' calls' : Int} {L L' : Objs} {n : Nat} {c : Int}, exF room now out left calls L = (n, c, left', calls', L') → ∃ k : Nat, k ≤ 10 ∧ c = (k : Int)
  | [], left, calls, left', calls', L, L', n, c, h => by
    simp only [exF, Prod.mk.injEq] at h; exact ⟨0, by omega, h.2.1.symm⟩
  | m :: r, left, calls, left', calls', L, L', n, c, h => by
    rw [exF] at h
    split at h
    · exact exF_code (out := r) (left := leftB left) (calls := calls + 1) (L := putO (nmX m.id) (markB ⟨m.id, now, 0⟩) L) (n := (exF room now r (leftB left) (calls + 1) (putO (nmX m.id) (markB ⟨m.id, now, 0⟩) L)).1) (Prod.ext rfl (Prod.mk.inj h).2)
    · have h1 := (Prod.mk.inj (Prod.mk.inj h).2).1
      rw [← h1]
      unfold putC
      split
      · exact ⟨8, by omega, rfl⟩
      · split
        · exact ⟨1, by omega, rfl⟩
        · split
          · exact ⟨6, by omega, rfl⟩
          · exact ⟨0, by omega, rfl⟩

set_option maxRecDepth 10000 in
set_option maxHeartbeats 4000000 in
theorem expireMarks_ok {room : Int} {l : List Mt} {g : Ver} {now ret fails : Int} {σ : St} (hT : Tabs σ) (hl : l.length ≤ 9223372036854775807) (hid : ∀ x ∈ l, x.id < 18446744073709551616) (hf : -9223372036854775808 ≤ fails ∧ fails ≤ 9223372036854775807) :
    ACalls Tryd.prog n_expireMarks [.int .i64 room, .sl (mtsAV l) g, .int .i64 now, .int .i64 ret, .int .i64 fails] σ (fun v σ' => v = .bool true ∧ σ' = σ) := by
  refine s_expireMarks (fun wf => ?_)
  unfold c_expireMarks
  refine T.seq_k (fun K_h0 h0 => ?_)
  refine T.regi hm ?_
  simp only [↓reduceIte, namesOf, List.any, I.names, aopsI, astep, ev, setd, List.set, List.cons_append, List.nil_append, List.length_cons, List.length_nil, List.replicate, then_normal, Bool.or_false, Bool.false_eq_true, up_zero, Nat.reduceAdd, Nat.reduceSub]
  refine h0 _ _ ?_
  try clear h0 K_h0
  refine T.seq_k (fun K_h1 h1 => ?_)
  refine T.regi hm ?_
  simp only [↓reduceIte, namesOf, List.any, I.names, aopsI, astep, ev, setd, List.set, List.getD, List.getElem?_cons_zero, List.getElem?_cons_succ, then_normal, Option.getD_some, Bool.or_false, Bool.false_eq_true, up_zero, List.map_nil]
  refine (up21_ok hT).mono ?_
  rintro v σ1 ⟨rfl, rfl⟩
  try simp only [↓reduceIte, namesOf, List.any, I.names, aops, aopsI, aopsT, qstep, CPt, qget, Tbl.get, astep, ev, setd, List.set, List.getD, List.getElem?_cons_zero, List.getElem?_cons_succ, List.getElem?_nil, List.cons_append, List.nil_append, List.length_cons, List.length_nil, List.replicate, then_normal, inBlock_normal, Option.getD_some, Option.getD_none, Bool.or_false, Bool.or_true, Bool.true_or, Bool.false_or, Bool.false_eq_true, if_false, if_true, up_zero, Nat.reduceAdd, Nat.reduceSub, binv, ↓opt_def, AV.isAny, AV.cells, ldc, List.map_cons, List.map_nil, St.set_next, St.set_same, St.up_next, Int.natCast_nonneg, lt_len, le_len, Int.toNat_natCast, true_and, and_true, eq_self, reduceCtorEq, decide_true, List.length_singleton, er_int, er_bool, er_str, srcR, up_zero]
  refine h1 _ _ ?_
  try clear h1 K_h1
  by_cases hroom : room < 1 ∨ room > 1048576
  · refine T.seq_k (fun K_h1 h1 => ?_)
    refine T.regi hm ?_
    simp only [↓reduceIte, namesOf, List.any, I.names, aopsI, astep, ev, setd, List.set, List.getD, List.getElem?_cons_zero, List.getElem?_cons_succ, then_normal, Option.getD_some, Bool.or_false, Bool.false_eq_true, up_zero, ↓opt_def, List.map_cons, List.map_nil]
    refine (snew_out hroom).mono ?_
    rintro v σ2 ⟨rfl, rfl⟩
    try simp only [List.getElem?_cons_zero, List.getElem?_cons_succ]
    refine h1 _ _ ?_
    try clear h1 K_h1
    have hn1 : eqPv .nilp .nilp = some true := rfl
    have hn2 : eqIv true [(tCode, .i64)] (.iface tCode (.int .i64 1)) .nili = some false := rfl
    refine T.seq_k (fun K_h1 h1 => ?_)
    refine T.seq_k (fun K_h0 h0 => ?_)
    refine T.regi hm ?_
    simp only [↓reduceIte, namesOf, List.any, I.names, aopsI, astep, ev, setd, List.set, List.getD, List.getElem?_cons_zero, List.getElem?_cons_succ, then_normal, Option.getD_some, Bool.or_false, Bool.false_eq_true, up_zero, eq_self, reduceCtorEq, hn1, Bool.bne_false]
    refine h0 _ _ ?_
    try clear h0 K_h0
    refine T.cond rfl (fun _ => ?_) (fun h => by cases h)
    refine T.seq_k (fun K_h0 h0 => ?_)
    refine T.regi hm ?_
    simp only [↓reduceIte, namesOf, List.any, I.names, aopsI, astep, ev, setd, List.set, List.getD, List.getElem?_cons_zero, List.getElem?_cons_succ, then_normal, Option.getD_some, Bool.or_false, Bool.false_eq_true, up_zero, eq_self, hn1, eqIv, Bool.bne_false, beq_self_eq_true, bne_self_eq_false]
    refine h0 _ _ ?_
    try clear h0 K_h0
    exact T.ret (Fin.ret rfl ⟨rfl, rfl⟩)
  have hroom' : 1 ≤ room ∧ room ≤ 1048576 := by omega
  refine T.seq_k (fun K_h1 h1 => ?_)
  refine T.regi hm ?_
  simp only [↓reduceIte, namesOf, List.any, I.names, aopsI, astep, ev, setd, List.set, List.getD, List.getElem?_cons_zero, List.getElem?_cons_succ, then_normal, Option.getD_some, Bool.or_false, Bool.false_eq_true, up_zero, ↓opt_def, List.map_cons, List.map_nil]
  refine (snew_ok hroom').mono ?_
  rintro v σ2 ⟨p, m, rfl, hS, hp, hm2, hpl, hml, hq⟩
  try simp only [List.getElem?_cons_zero, List.getElem?_cons_succ]
  refine h1 _ _ ?_
  try clear h1 K_h1
  have hnp : eqPv (.ptr p 0) .nilp = some false := rfl
  have hT2 : Tabs σ2 := hT.mono hq
  refine T.seq_k (fun K_h1 h1 => ?_)
  by_cases hl50 : l.length ≤ 50
  case neg =>
    have e1 : decide ((l.length : Int) > 50) = true := decide_eq_true (by omega)
    refine T.seq_k (fun K_h0 h0 => ?_)
    refine T.regi hm ?_
    simp only [↓reduceIte, namesOf, List.any, I.names, aopsI, astep, ev, setd, List.set, List.getD, List.getElem?_cons_zero, List.getElem?_cons_succ, then_normal, Option.getD_some, Bool.or_false, Bool.false_eq_true, up_zero, binv, ↓opt_def, eq_self, hnp, eqIv, bne_self_eq_false, mts_len, e1]
    refine h0 _ _ ?_
    try clear h0 K_h0
    refine T.cond rfl (fun _ => ?_) (fun h => by cases h)
    refine T.seq_k (fun K_h0 h0 => ?_)
    refine T.regi hm ?_
    simp only [↓reduceIte, namesOf, List.any, I.names, aopsI, astep, ev, setd, List.set, List.getD, List.getElem?_cons_zero, List.getElem?_cons_succ, then_normal, Option.getD_some, Bool.or_false, Bool.false_eq_true, up_zero, eq_self, hnp, eqIv, Bool.bne_true, Bool.not_false, Bool.bne_false, beq_self_eq_true]
    refine h0 _ _ ?_
    try clear h0 K_h0
    exact T.ret (Fin.quiet rfl trivial hq ⟨rfl, rfl⟩)
  have e1 : decide ((l.length : Int) > 50) = false := decide_eq_false (by omega)
  refine T.seq_k (fun K_h0 h0 => ?_)
  refine T.regi hm ?_
  simp only [↓reduceIte, namesOf, List.any, I.names, aopsI, astep, ev, setd, List.set, List.getD, List.getElem?_cons_zero, List.getElem?_cons_succ, then_normal, Option.getD_some, Bool.or_false, Bool.false_eq_true, up_zero, binv, ↓opt_def, eq_self, hnp, eqIv, bne_self_eq_false, mts_len, e1]
  refine h0 _ _ ?_
  try clear h0 K_h0
  refine T.cond rfl (fun h => by cases h) (fun _ => T.skip ?_)
  refine h1 _ _ ?_
  try clear h1 K_h1
  refine T.seq_k (fun K_h0 h0 => ?_)
  refine T.regi hm ?_
  simp only [↓reduceIte, namesOf, List.any, I.names, aopsI, astep, ev, setd, List.set, List.getD, List.getElem?_cons_zero, List.getElem?_cons_succ, List.cons_append, List.nil_append, List.length_cons, List.length_nil, then_normal, Option.getD_some, Bool.or_false, Bool.or_true, Bool.false_eq_true, Nat.reduceAdd, ↓opt_def, AV.isAny, AV.cells, and_true, eq_self, fillA, ↓Option.map_some, AV.fits, AV.one, List.all_cons, List.all_nil, Nat.reduceBEq, Bool.not_false, Bool.and_self, Nat.zero_add, splice, List.take, List.drop, Nat.reduceLeDiff]
  refine h0 _ _ ?_
  try clear h0 K_h0
  have hSa : StS ((σ2.up 4).set (σ2.next + 2) (.obj [.int .i64 room, .int .i64 (-1), .int .i64 0, .sl [] .nil])) p m room (-1) 0 [] := hS.other fun n x hn hx => by
    rw [St.set_other _ _ (by rcases hn with rfl | rfl <;> omega)]; exact hx
  have hRa : RSt ((σ2.up 4).set (σ2.next + 2) (.obj [.int .i64 room, .int .i64 (-1), .int .i64 0, .sl [] .nil])) (σ2.next + 2) none room (-1) 0 [] := ⟨St.set_same _ _ _, fun _ => rfl, fun n e => by cases e⟩
  have hqa : ∀ n x, σ1.res n = some x → ((σ2.up 4).set (σ2.next + 2) (.obj [.int .i64 room, .int .i64 (-1), .int .i64 0, .sl [] .nil])).res n = some x := fun n x hx => by
    rw [St.set_other _ _ (by have := wf.lt hx; omega)]; exact hq n x hx
  have hpq : p ≠ σ2.next + 2 ∧ m ≠ σ2.next + 2 := by omega
  have hqlo : σ1.next ≤ σ2.next + 2 := by omega
  have hlt : p < ((σ2.up 4).set (σ2.next + 2) (.obj [.int .i64 room, .int .i64 (-1), .int .i64 0, .sl [] .nil])).next ∧ m < ((σ2.up 4).set (σ2.next + 2) (.obj [.int .i64 room, .int .i64 (-1), .int .i64 0, .sl [] .nil])).next ∧ σ2.next + 2 < ((σ2.up 4).set (σ2.next + 2) (.obj [.int .i64 room, .int .i64 (-1), .int .i64 0, .sl [] .nil])).next := by simp; omega
  generalize ((σ2.up 4).set (σ2.next + 2) (.obj [.int .i64 room, .int .i64 (-1), .int .i64 0, .sl [] .nil])) = t at hSa hRa hqa hlt ⊢
  generalize σ2.next + 2 = q at hRa hpq hqlo hlt ⊢
  have hlb : -1 ≤ (if (-1 : Int) > fails then -1 else fails) ∧ (if (-1 : Int) > fails then -1 else fails) ≤ 9223372036854775807 := by split <;> omega
  refine T.seq_k (fun K_h1 h1 => ?_)
  refine T.regi hm ?_
  simp only [↓reduceIte, namesOf, List.any, I.names, aopsI, astep, ev, setd, List.set, List.getD, List.getElem?_cons_zero, List.getElem?_cons_succ, then_normal, Option.getD_some, Bool.or_false, Bool.false_eq_true, up_zero, List.map_cons, List.map_nil]
  refine (sfail_ok (n := fails) hSa).mono ?_
  rintro v S1 ⟨hS1, hS1e⟩
  have hN1 : Nx t S1 p m := by rw [hS1e]; exact .set _
  have hRb : RSt S1 q none room (-1) 0 [] := hRa.other fun n x hn hx => hN1.old n x (by rcases hn with rfl | h; exact Ne.symm hpq.1; cases h) (by rcases hn with rfl | h; exact Ne.symm hpq.2; cases h) hx
  clear hS1e
  try simp only [↓reduceIte, namesOf, List.any, I.names, aops, aopsI, aopsT, qstep, CPt, qget, Tbl.get, astep, ev, setd, List.set, List.getD, List.getElem?_cons_zero, List.getElem?_cons_succ, List.getElem?_nil, List.cons_append, List.nil_append, List.length_cons, List.length_nil, List.replicate, then_normal, inBlock_normal, Option.getD_some, Option.getD_none, Bool.or_false, Bool.or_true, Bool.true_or, Bool.false_or, Bool.false_eq_true, if_false, if_true, up_zero, Nat.reduceAdd, Nat.reduceSub, binv, ↓opt_def, AV.isAny, AV.cells, ldc, List.map_cons, List.map_nil, St.set_next, St.set_same, St.up_next, Int.natCast_nonneg, lt_len, le_len, Int.toNat_natCast, true_and, and_true, eq_self, reduceCtorEq, decide_true, List.length_singleton, er_int, er_bool, er_str, srcR, up_zero]
  refine h1 _ _ ?_
  try clear h1 K_h1
  refine T.seq_k (fun K_h1 h1 => ?_)
  refine T.regi hm ?_
  simp only [↓reduceIte, namesOf, List.any, I.names, aopsI, astep, ev, setd, List.set, List.getD, List.getElem?_cons_zero, List.getElem?_cons_succ, then_normal, Option.getD_some, Bool.or_false, Bool.false_eq_true, up_zero, List.map_cons, List.map_nil]
  refine (rsFail_ok (n := fails) hRb).mono ?_
  rintro v S2 ⟨hR2, hN2⟩
  have hS2 : StS S2 p m room (if (-1 : Int) > fails then -1 else fails) 0 [] := hS1.other fun n x hn hx => hN2.old n x (by rcases hn with rfl | rfl; exact hpq.1; exact hpq.2) (by simp) hx
  generalize (if (-1 : Int) > fails then -1 else fails) = lf at hlb hS1 hR2 hS2
  have hQ2 : ∀ n x, σ1.res n = some x → S2.res n = some x := fun n x hx => by
    have := wf.lt hx
    exact hN2.old n x (by omega) (by simp) (hN1.old n x (by omega) (by omega) (hqa n x hx))
  have hlt2 : p < S2.next ∧ m < S2.next ∧ q < S2.next := by have := hN1.next; have := hN2.next; omega
  clear hN1 hN2 hRb hS1 hSa hRa hqa hlt hS hq
  try simp only [↓reduceIte, namesOf, List.any, I.names, aops, aopsI, aopsT, qstep, CPt, qget, Tbl.get, astep, ev, setd, List.set, List.getD, List.getElem?_cons_zero, List.getElem?_cons_succ, List.getElem?_nil, List.cons_append, List.nil_append, List.length_cons, List.length_nil, List.replicate, then_normal, inBlock_normal, Option.getD_some, Option.getD_none, Bool.or_false, Bool.or_true, Bool.true_or, Bool.false_or, Bool.false_eq_true, if_false, if_true, up_zero, Nat.reduceAdd, Nat.reduceSub, binv, ↓opt_def, AV.isAny, AV.cells, ldc, List.map_cons, List.map_nil, St.set_next, St.set_same, St.up_next, Int.natCast_nonneg, lt_len, le_len, Int.toNat_natCast, true_and, and_true, eq_self, reduceCtorEq, decide_true, List.length_singleton, er_int, er_bool, er_str, srcR, up_zero]
  refine h1 _ _ ?_
  try clear h1 K_h1
  refine T.seq_k (fun K_h1 h1 => ?_)
  refine T.regi hm ?_
  simp only [↓reduceIte, namesOf, List.any, I.names, aopsI, astep, ev, setd, List.set, List.getD, List.getElem?_cons_zero, List.getElem?_cons_succ, then_normal, Option.getD_some, Bool.or_false, Bool.false_eq_true, up_zero, ↓opt_def, List.map_cons, List.map_nil]
  refine (exMark_ok (hT.mono hQ2) hS2 ⟨hlt2.1, hlt2.2.1⟩ hlb (by omega) ⟨by omega, hroom'.2⟩ (by simp [usedO]; omega) (by omega) hid).mono ?_
  rintro v S3 hv
  obtain ⟨n, c, left3, calls3, L3, rfl, hS3, hN3, hc3, hu3, hX⟩ : ∃ (n : Nat) (c left3 calls3 : Int) (L3 : Objs), v = .tup [.int .i64 (n : Int), errAV c] ∧ StS S3 p m room left3 calls3 L3 ∧ Nx S2 S3 p m ∧ (0 ≤ calls3 ∧ calls3 ≤ 100) ∧ (usedO L3 : Int) ≤ room ∧
      (((¬ (∀ x ∈ l, mayM x) ∨ outBad now ret) ∧ n = 0 ∧ c = 1 ∧ L3 = [] ∧ calls3 = 0 ∧ left3 = lf) ∨ ((∀ x ∈ l, mayM x) ∧ ¬ outBad now ret ∧ exF room now (outM l (now - ret)) lf 0 [] = (n, c, left3, calls3, L3))) := by
    rcases hv with ⟨hb, rfl, rfl⟩ | ⟨hmay, hb, n, c, left', calls', L', hF, rfl, hS', hN', _, hc', hu'⟩
    · exact ⟨0, 1, lf, 0, [], rfl, hS2, .refl _ _ _, by omega, by simp [usedO]; omega, .inl ⟨hb, rfl, rfl, rfl, rfl, rfl⟩⟩
    · exact ⟨n, c, left', calls', L', rfl, hS', hN', by omega, hu', .inr ⟨hmay, hb, hF⟩⟩
  clear hv
  try simp only [List.getElem?_cons_zero, List.getElem?_cons_succ]
  refine h1 _ _ ?_
  try clear h1 K_h1
  have hQ3 : ∀ n x, σ1.res n = some x → S3.res n = some x := fun n x hx => by
    have := wf.lt hx
    exact hN3.old n x (by omega) (by omega) (hQ2 n x hx)
  have hR3 : RSt S3 q none room lf 0 [] := hR2.other fun n x hn hx => hN3.old n x (by rcases hn with rfl | h; exact Ne.symm hpq.1; cases h) (by rcases hn with rfl | h; exact Ne.symm hpq.2; cases h) hx
  have hlt3 : p < S3.next ∧ m < S3.next ∧ q < S3.next := by have := hN3.next; omega
  refine T.seq_k (fun K_h1 h1 => ?_)
  refine T.seq_k (fun K_h0 h0 => ?_)
  refine T.regi hm ?_
  simp only [↓reduceIte, namesOf, List.any, I.names, aopsI, astep, ev, setd, List.set, then_normal, Bool.or_false, Bool.false_eq_true, up_zero]
  refine h0 _ _ ?_
  try clear h0 K_h0
  refine T.block ?_
  refine T.gh (Gh.keep [0, 1, 2, 3, 11, 12, 14, 15, 16, 17]) ?_
  refine T.loopi (fun i ρ u => u = S3 ∧ (∀ (j : Nat) (y : Mt), j < i → l[j]? = some y → mayM y) ∧ ρ = [.int .i64 room, .sl (mtsAV l) g, .int .i64 now, .int .i64 ret, .any, .any, .any, .any, .any, .any, .any, .bool true, .ptr p 0, .any, .ptr q 0, .int .i64 (n : Int), errAV c, .int .i64 (i : Int)] ++ List.replicate 144 .any)
    l.length 0 (Nat.zero_le _) ⟨rfl, fun j y h => by omega, rfl⟩ ?_
  rintro i ρ u hi ⟨rfl, hmy, rfl⟩
  refine T.seq_k (fun K_h2 h2 => ?_)
  by_cases hil : i < l.length
  case pos =>
    obtain ⟨x, hx⟩ : ∃ x, l[i]? = some x := ⟨_, List.getElem?_eq_getElem hil⟩
    have hgx := mts_get hx
    have hw := inc64' hil (by omega)
    refine T.seq_k (fun K_h0 h0 => ?_)
    refine T.regi hm ?_
    simp only [↓reduceIte, namesOf, List.any, I.names, aopsI, astep, ev, setd, List.set, List.getD, List.getElem?_cons_zero, List.getElem?_cons_succ, List.cons_append, List.nil_append, List.replicate, then_normal, Option.getD_some, Bool.or_false, Bool.false_eq_true, up_zero, binv, ↓opt_def, lt_len, true_and, eq_self, decide_true, mts_len, hil]
    refine h0 _ _ ?_
    try clear h0 K_h0
    refine T.cond rfl (fun _ => T.skip ?_) (fun h => by cases h)
    refine h2 _ _ ?_
    try clear h2 K_h2
    refine T.seq_k (fun K_h3 h3 => ?_)
    refine T.block ?_
    refine T.seq_k (fun K_h4 h4 => ?_)
    refine T.regi hm ?_
    simp only [↓reduceIte, namesOf, List.any, I.names, aopsI, astep, ev, setd, List.set, List.getD, List.getElem?_cons_zero, List.getElem?_cons_succ, List.cons_append, List.nil_append, List.length_cons, List.length_nil, List.replicate, then_normal, Option.getD_some, Bool.or_false, Bool.false_eq_true, up_zero, Nat.reduceAdd, ↓opt_def, AV.cells, ldc, List.map_cons, List.map_nil, Int.natCast_nonneg, lt_len, Int.toNat_natCast, true_and, and_true, eq_self, hil, mts_len, hgx, Nat.zero_add, List.take, List.drop, Nat.reduceLeDiff]
    refine (rMay_ok (m := x)).mono ?_
    rintro v u ⟨rfl, rfl⟩
    try simp only [↓reduceIte, namesOf, List.any, I.names, aops, aopsI, aopsT, qstep, CPt, qget, Tbl.get, astep, ev, setd, List.set, List.getD, List.getElem?_cons_zero, List.getElem?_cons_succ, List.getElem?_nil, List.cons_append, List.nil_append, List.length_cons, List.length_nil, List.replicate, then_normal, inBlock_normal, Option.getD_some, Option.getD_none, Bool.or_false, Bool.or_true, Bool.true_or, Bool.false_or, Bool.false_eq_true, if_false, if_true, up_zero, Nat.reduceAdd, Nat.reduceSub, binv, ↓opt_def, AV.isAny, AV.cells, ldc, List.map_cons, List.map_nil, St.set_next, St.set_same, St.up_next, Int.natCast_nonneg, lt_len, le_len, Int.toNat_natCast, true_and, and_true, eq_self, reduceCtorEq, decide_true, List.length_singleton, er_int, er_bool, er_str, srcR, up_zero]
    refine h4 _ _ ?_
    try clear h4 K_h4
    by_cases hmx : mayM x
    · have f1 : decide (mayM x) = true := decide_eq_true hmx
      refine T.seq_k (fun K_h0 h0 => ?_)
      refine T.regi hm ?_
      simp only [↓reduceIte, namesOf, List.any, I.names, aopsI, astep, ev, setd, List.set, List.getD, List.getElem?_cons_zero, List.getElem?_cons_succ, List.cons_append, List.nil_append, List.replicate, then_normal, Option.getD_some, Bool.or_false, Bool.false_eq_true, up_zero, f1, Bool.not_true]
      refine h0 _ _ ?_
      try clear h0 K_h0
      refine T.cond rfl (fun h => by cases h) (fun _ => T.skip ?_)
      try simp only [List.cons_append, List.nil_append, List.replicate, then_normal, inBlock_normal, inBlock_normal]
      refine h3 _ _ ?_
      try clear h3 K_h3
      refine T.regi hm ?_
      simp only [↓reduceIte, namesOf, List.any, I.names, aopsI, astep, ev, setd, List.set, List.getD, List.getElem?_cons_zero, List.getElem?_cons_succ, List.cons_append, List.nil_append, List.replicate, then_normal, Option.getD_some, Bool.or_false, Bool.false_eq_true, up_zero, binv, ↓opt_def, eq_self, hw]
      refine ⟨hil, _, _, Gh.keep [0, 1, 2, 3, 11, 12, 14, 15, 16, 17], rfl, fun j y hj hy => ?_, rfl⟩
      rcases Nat.lt_or_ge j i with h | h
      · exact hmy j y h hy
      · have : j = i := by omega
        subst this
        rw [hx] at hy; cases hy; exact hmx
    · have f1 : decide (mayM x) = false := decide_eq_false hmx
      rcases hX with ⟨_, rfl, rfl, _, _, _⟩ | ⟨hall, _, _⟩
      case inr => exact absurd (hall x (List.mem_of_getElem? hx)) hmx
      have er : errAV 1 = .iface tCode (.int .i64 1) := rfl
      have ei : eqIv false [(tCode, .i64)] (.iface tCode (.int .i64 1)) (.iface tCode (.int .i64 1)) = some true := rfl
      refine T.seq_k (fun K_h0 h0 => ?_)
      refine T.regi hm ?_
      simp only [↓reduceIte, namesOf, List.any, I.names, aopsI, astep, ev, setd, List.set, List.getD, List.getElem?_cons_zero, List.getElem?_cons_succ, List.cons_append, List.nil_append, List.replicate, then_normal, Option.getD_some, Bool.or_false, Bool.false_eq_true, up_zero, f1, Bool.not_false]
      refine h0 _ _ ?_
      try clear h0 K_h0
      refine T.cond rfl (fun _ => ?_) (fun h => by cases h)
      refine T.seq_k (fun K_h0 h0 => ?_)
      refine T.regi hm ?_
      simp only [↓reduceIte, namesOf, List.any, I.names, aopsI, astep, ev, setd, List.set, List.getD, List.getElem?_cons_zero, List.getElem?_cons_succ, List.cons_append, List.nil_append, List.replicate, then_normal, Option.getD_some, Bool.or_false, Bool.false_eq_true, up_zero, binv, ↓opt_def, eq_self, er, ei, beq_self_eq_true, Int.natCast_zero]
      refine h0 _ _ ?_
      try clear h0 K_h0
      exact T.ret (Fin.quiet rfl trivial hQ3 ⟨rfl, rfl⟩)
  refine T.seq_k (fun K_h0 h0 => ?_)
  refine T.regi hm ?_
  simp only [↓reduceIte, namesOf, List.any, I.names, aopsI, astep, ev, setd, List.set, List.getD, List.getElem?_cons_zero, List.getElem?_cons_succ, List.cons_append, List.nil_append, List.replicate, then_normal, Option.getD_some, Bool.or_false, Bool.false_eq_true, up_zero, binv, ↓opt_def, lt_len, eq_self, mts_len, hil, decide_false]
  refine h0 _ _ ?_
  try clear h0 K_h0
  refine T.cond rfl (fun h => by cases h) (fun _ => T.exit ?_)
  try simp only [List.cons_append, List.nil_append, List.replicate, then_normal, inBlock_exit, then_exit]
  refine h1 _ _ ?_
  try clear h1 K_h1
  have hall : ∀ x ∈ l, mayM x := fun x hx => by
    obtain ⟨j, hj, rfl⟩ := List.getElem_of_mem hx
    exact hmy j _ (by omega) (List.getElem?_eq_getElem hj)
  refine T.gh (Gh.keep [0, 1, 2, 3, 11, 12, 14, 15, 16]) ?_
  show T _ _ _ _ ([.int .i64 room, .sl (mtsAV l) g, .int .i64 now, .int .i64 ret, .any, .any, .any, .any, .any, .any, .any, .bool true, .ptr p 0, .any, .ptr q 0, .int .i64 (n : Int), errAV c] ++ List.replicate 145 .any) u
  have hA0 : Alike [] [] := ⟨fun _ => rfl, rfl, by simp⟩
  refine T.seq_k (fun K_h1 h1 => ?_)
  refine T.regi hm ?_
  simp only [↓reduceIte, namesOf, List.any, I.names, aopsI, astep, ev, setd, List.set, List.getD, List.getElem?_cons_zero, List.getElem?_cons_succ, List.cons_append, List.nil_append, List.replicate, then_normal, Option.getD_some, Bool.or_false, Bool.false_eq_true, up_zero, ↓opt_def, List.map_cons, List.map_nil]
  refine (rExp19_ok hR3 hA0 hlb (by omega) ⟨by omega, hroom'.2⟩ (by simp [usedO]; omega) (by simp; omega) hid).mono ?_
  rintro v S4 hv
  obtain ⟨M4, G4, rfl, hS4, hR4, hA4, hM4, hN4⟩ : ∃ (M4 : Objs) (G4 : Option Nat), v = .tup [.int .i64 (n : Int), .int .i64 c] ∧ (∀ n x, σ1.res n = some x → S4.res n = some x) ∧ RSt S4 q G4 room left3 calls3 M4 ∧ Alike L3 M4 ∧ M4.length ≤ 50 ∧ Nz u S4 q none G4 := by
    rcases hv with ⟨hb, rfl, rfl⟩ | ⟨hb, n', c', left', calls', L', M', G', hF, rfl, hR', hA', hM', hN'⟩
    · rcases hX with ⟨_, rfl, rfl, rfl, rfl, rfl⟩ | ⟨_, hnb, _⟩
      · exact ⟨[], none, rfl, hQ3, hR3, hA0, by simp, .refl _ _ _⟩
      · exact absurd hb hnb
    · rcases hX with ⟨hbad, _⟩ | ⟨_, _, hF2⟩
      · rcases hbad with h | h
        · exact absurd hall h
        · exact absurd h hb
      · rw [hF] at hF2; cases hF2
        exact ⟨M', G', rfl, fun n x hx => hN'.old n x (by have := wf.lt hx; omega) (by simp) (hQ3 n x hx), hR', hA', by simp at hM'; omega, hN'⟩
  clear hv
  try simp only [List.getElem?_cons_zero, List.getElem?_cons_succ]
  refine h1 _ _ ?_
  try clear h1 K_h1
  obtain ⟨ck, hck, rfl⟩ : ∃ k : Nat, k ≤ 10 ∧ c = (k : Int) := by
    rcases hX with ⟨_, _, rfl, _⟩ | ⟨_, _, hF⟩
    · exact ⟨1, by omega, rfl⟩
    · exact exF_code hF
  have hSt4 : StS S4 p m room left3 calls3 L3 := hS3.other fun n x hn hx => hN4.old n x (by rcases hn with rfl | rfl; exact hpq.1; exact hpq.2) (by simp) hx
  have hob := hR4.obj
  have hb1 : ((n : Int) != (n : Int)) = false := by simp
  have hb2 : ((ck : Int) != (ck : Int)) = false := by simp
  have hb3 : (calls3 != calls3) = false := by simp
  have hb4 : ((usedO L3 : Int) != (usedO L3 : Int)) = false := by simp
  have hus := rsUsed_ok hR4 (by omega) (by have := hA4.used; omega)
  rw [← hA4.used] at hus
  refine T.seq_k (fun K_h1 h1 => ?_)
  refine T.seq_k (fun K_h2 h2 => ?_)
  refine T.regt hm (tbl := []) Tbl.ok_nil ?_
  refine aopsT_cut 6 (fun K_c h_c => ?_)
  try simp only [↓reduceIte, namesOf, List.any, I.names, aopsT, qstep, qget, Tbl.get, astep, ev, setd, List.set, List.getD, List.getElem?_cons_zero, List.getElem?_cons_succ, Option.getD_some, Bool.or_false, Bool.false_eq_true, up_zero, binv, ↓opt_def, List.map_cons, List.map_nil, eq_self, List.take_succ_cons, List.take_zero, hb1]
  refine ⟨_, code_ok hck, ?_⟩
  refine h_c _ _ ?_
  clear h_c K_c
  simp only [List.drop_succ_cons, List.drop_zero, Nat.zero_add]
  refine aopsT_cut 6 (fun K_c h_c => ?_)
  try simp only [↓reduceIte, aopsT, qstep, qget, Tbl.get, astep, ev, setd, List.set, List.getD, List.getElem?_cons_zero, List.getElem?_cons_succ, Option.getD_some, Bool.false_eq_true, binv, ↓opt_def, List.map_cons, List.map_nil, eq_self, List.take_succ_cons, List.take_zero, hb2]
  refine ⟨_, scalls_ok hSt4, ?_⟩
  refine h_c _ _ ?_
  clear h_c K_c
  simp only [List.drop_succ_cons, List.drop_zero, Nat.reduceAdd]
  refine aopsT_cut 9 (fun K_c h_c => ?_)
  try simp only [↓reduceIte, aopsT, qstep, qget, Tbl.get, astep, ev, setd, List.set, List.getD, List.getElem?_cons_zero, List.getElem?_cons_succ, Option.getD_some, Bool.false_eq_true, Nat.reduceAdd, binv, ↓opt_def, ldc, List.map_cons, List.map_nil, eq_self, List.take_succ_cons, List.take_zero, hb3, hob]
  refine ⟨_, sused_ok hSt4 (by omega), ?_⟩
  refine h_c _ _ ?_
  clear h_c K_c
  simp only [List.drop_succ_cons, List.drop_zero, Nat.reduceAdd]
  refine aopsT_cut 2 (fun K_c h_c => ?_)
  try simp only [↓reduceIte, aopsT, qstep, qget, Tbl.get, astep, ev, setd, List.set, List.getD, List.getElem?_cons_zero, List.getElem?_cons_succ, Option.getD_some, List.map_cons, List.map_nil, eq_self, List.take_succ_cons, List.take_zero]
  refine ⟨_, hus, ?_⟩
  refine h_c _ _ ?_
  clear h_c K_c
  simp only [List.drop_succ_cons, List.drop_zero, Nat.reduceAdd]
  try simp only [↓reduceIte, aopsT, qstep, astep, ev, setd, List.set, List.getD, List.getElem?_cons_zero, List.getElem?_cons_succ, then_normal, Option.getD_some, Bool.false_eq_true, binv, ↓opt_def, eq_self, hb4]
  refine h2 _ _ ?_
  try clear h2 K_h2
  refine T.cond rfl (fun h => by cases h) (fun _ => T.skip ?_)
  refine h1 _ _ ?_
  try clear h1 K_h1
  refine T.gh (Gh.keep [11, 12, 14]) ?_
  show T _ _ _ _ ([.any, .any, .any, .any, .any, .any, .any, .any, .any, .any, .any, .bool true, .ptr p 0, .any, .ptr q 0] ++ List.replicate 147 .any) S4
  have hm1 : (if (-1 : Int) > -1 then (-1 : Int) else -1) = -1 := by decide
  have hG4 : ∀ g', G4 = some g' → g' ≠ p ∧ g' ≠ m := fun g' hg => by
    rcases hN4.row with h | ⟨g2, h, h2⟩
    · rw [h] at hg; cases hg
    · rw [h] at hg; cases hg; omega
  have hN4n := hN4.next
  refine T.seq_k (fun K_h1 h1 => ?_)
  refine T.regi hm ?_
  simp only [↓reduceIte, namesOf, List.any, I.names, aopsI, astep, ev, setd, List.set, List.getD, List.getElem?_cons_zero, List.getElem?_cons_succ, List.cons_append, List.nil_append, List.replicate, then_normal, Option.getD_some, Bool.or_false, Bool.false_eq_true, up_zero, List.map_cons, List.map_nil]
  refine (sfail_ok (n := -1) hSt4).mono ?_
  rintro v S5 ⟨hS5, hS5e⟩
  have hN5 : Nx S4 S5 p m := by rw [hS5e]; exact .set _
  rw [hm1] at hS5
  have hoth : ∀ S6, Nx S4 S6 p m → RSt S6 q G4 room left3 calls3 M4 ∧ ∀ n x, σ1.res n = some x → S6.res n = some x := fun S6 hN6 =>
    ⟨hR4.other fun n x hn hx => hN6.old n x (by rcases hn with rfl | h; exact Ne.symm hpq.1; exact (hG4 _ h).1) (by rcases hn with rfl | h; exact Ne.symm hpq.2; exact (hG4 _ h).2) hx,
     fun n x hx => hN6.old n x (by have := wf.lt hx; omega) (by have := wf.lt hx; omega) (hS4 n x hx)⟩
  clear hS5e
  try simp only [↓reduceIte, namesOf, List.any, I.names, aops, aopsI, aopsT, qstep, CPt, qget, Tbl.get, astep, ev, setd, List.set, List.getD, List.getElem?_cons_zero, List.getElem?_cons_succ, List.getElem?_nil, List.cons_append, List.nil_append, List.length_cons, List.length_nil, List.replicate, then_normal, inBlock_normal, Option.getD_some, Option.getD_none, Bool.or_false, Bool.or_true, Bool.true_or, Bool.false_or, Bool.false_eq_true, if_false, if_true, up_zero, Nat.reduceAdd, Nat.reduceSub, binv, ↓opt_def, AV.isAny, AV.cells, ldc, List.map_cons, List.map_nil, St.set_next, St.set_same, St.up_next, Int.natCast_nonneg, lt_len, le_len, Int.toNat_natCast, true_and, and_true, eq_self, reduceCtorEq, decide_true, List.length_singleton, er_int, er_bool, er_str, srcR, up_zero]
  refine h1 _ _ ?_
  try clear h1 K_h1
  refine T.seq_k (fun K_h1 h1 => ?_)
  refine T.seq_k (fun K_h0 h0 => ?_)
  refine T.regi hm ?_
  simp only [↓reduceIte, namesOf, List.any, I.names, aopsI, astep, ev, setd, List.set, then_normal, Bool.or_false, Bool.false_eq_true, up_zero]
  refine h0 _ _ ?_
  try clear h0 K_h0
  refine T.block ?_
  refine T.gh (Gh.keep [11, 12, 14, 21]) ?_
  refine T.loopi (fun i ρ u => ∃ calls5, StS u p m room (-1) calls5 L3 ∧ Nx S4 u p m ∧ (0 ≤ calls5 ∧ calls5 = calls3 + i) ∧
      ρ = [.any, .any, .any, .any, .any, .any, .any, .any, .any, .any, .any, .bool true, .ptr p 0, .any, .ptr q 0, .any, .any, .any, .any, .any, .any, .int .i64 (i : Int)] ++ List.replicate 140 .any)
    M4.length 0 (Nat.zero_le _) ⟨calls3, hS5, hN5, by omega, rfl⟩ ?_
  rintro i ρ u hi ⟨calls5, hSu, hNu, hc5, rfl⟩
  obtain ⟨hRu, hQu⟩ := hoth u hNu
  have hou := hRu.obj
  refine T.seq_k (fun K_h2 h2 => ?_)
  by_cases hil : i < M4.length
  case neg =>
    cases G4 with
    | none =>
      have hnil := hRu.nil rfl
      subst hnil
      simp only [rsl] at hou
      have hi0 : i = 0 := by simpa using hi
      subst hi0
      refine T.seq_k (fun K_h0 h0 => ?_)
      refine T.regi hm ?_
      simp only [↓reduceIte, namesOf, List.any, I.names, aopsI, astep, ev, setd, List.set, List.getD, List.getElem?_cons_zero, List.getElem?_cons_succ, List.cons_append, List.nil_append, List.length_nil, List.replicate, then_normal, Option.getD_some, Bool.or_false, Bool.false_eq_true, up_zero, Nat.reduceAdd, binv, ↓opt_def, ldc, eq_self, hou]
      refine h0 _ _ ?_
      try clear h0 K_h0
      refine T.cond rfl (fun h => by cases h) (fun _ => T.exit ?_)
      try simp only [List.cons_append, List.nil_append, List.length_nil, List.replicate, then_normal, Nat.reduceAdd, inBlock_exit, then_exit]
      refine h1 _ _ ?_
      try clear h1 K_h1
      refine T.seq_k (fun K_h0 h0 => ?_)
      refine T.regi hm ?_
      simp only [↓reduceIte, namesOf, List.any, I.names, aopsI, astep, ev, setd, List.set, List.getD, List.getElem?_cons_zero, List.getElem?_cons_succ, then_normal, Option.getD_some, Bool.or_false, Bool.false_eq_true, up_zero]
      refine h0 _ _ ?_
      try clear h0 K_h0
      exact T.ret (Fin.quiet rfl trivial hQu ⟨rfl, rfl⟩)
    | some n4 =>
      simp only [rsl] at hou
      refine T.seq_k (fun K_h0 h0 => ?_)
      refine T.regi hm ?_
      simp only [↓reduceIte, namesOf, List.any, I.names, aopsI, astep, ev, setd, List.set, List.getD, List.getElem?_cons_zero, List.getElem?_cons_succ, List.cons_append, List.nil_append, List.replicate, then_normal, Option.getD_some, Bool.or_false, Bool.false_eq_true, up_zero, Nat.reduceAdd, binv, ↓opt_def, ldc, lt_len, eq_self, hou, hil, decide_false]
      refine h0 _ _ ?_
      try clear h0 K_h0
      refine T.cond rfl (fun h => by cases h) (fun _ => T.exit ?_)
      try simp only [List.cons_append, List.nil_append, List.replicate, then_normal, inBlock_exit, then_exit]
      refine h1 _ _ ?_
      try clear h1 K_h1
      refine T.seq_k (fun K_h0 h0 => ?_)
      refine T.regi hm ?_
      simp only [↓reduceIte, namesOf, List.any, I.names, aopsI, astep, ev, setd, List.set, List.getD, List.getElem?_cons_zero, List.getElem?_cons_succ, then_normal, Option.getD_some, Bool.or_false, Bool.false_eq_true, up_zero]
      refine h0 _ _ ?_
      try clear h0 K_h0
      exact T.ret (Fin.quiet rfl trivial hQu ⟨rfl, rfl⟩)
  obtain ⟨n4, rfl⟩ : ∃ n, G4 = some n := by
    cases G4 with
    | none => have := hRu.nil rfl; subst this; simp at hil
    | some n => exact ⟨n, rfl⟩
  have hrn := (hRu.row n4 rfl).2
  simp only [rsl] at hou
  obtain ⟨e, hx⟩ : ∃ e, M4[i]? = some e := ⟨_, List.getElem?_eq_getElem hil⟩
  have hg0 := cR_get0 hx
  have hg1 := cR_get1 hx
  have hw := inc64' hil (by omega)
  have hgt : getO e.1 L3 = some e.2 := by rw [hA4.get]; exact get_of_nd hA4.nd hx
  have hgc : getC (-1) L3 e.1 = 0 := by unfold getC; rw [if_neg (by decide), hgt]; rfl
  have hget := sget_ok (k := e.1) hSu (by omega) ⟨hc5.1, by omega⟩ (fun b hb => by have := get_le hb; omega)
  have hlm : leftB (-1) = -1 := by decide
  have er0 : errAV 0 = .nili := rfl
  rw [hlm, hgc, er0, if_pos rfl, hgt, Option.getD_some] at hget
  refine T.seq_k (fun K_h0 h0 => ?_)
  refine T.regi hm ?_
  simp only [↓reduceIte, namesOf, List.any, I.names, aopsI, astep, ev, setd, List.set, List.getD, List.getElem?_cons_zero, List.getElem?_cons_succ, List.cons_append, List.nil_append, List.replicate, then_normal, Option.getD_some, Bool.or_false, Bool.false_eq_true, up_zero, Nat.reduceAdd, binv, ↓opt_def, ldc, lt_len, true_and, eq_self, decide_true, hou, hil]
  refine h0 _ _ ?_
  try clear h0 K_h0
  refine T.cond rfl (fun _ => T.skip ?_) (fun h => by cases h)
  refine h2 _ _ ?_
  try clear h2 K_h2
  refine T.seq_k (fun K_h3 h3 => ?_)
  refine T.block ?_
  refine T.seq_k (fun K_h4 h4 => ?_)
  refine T.regi hm ?_
  simp only [↓reduceIte, namesOf, List.any, I.names, aopsI, astep, ev, setd, List.set, List.getD, List.getElem?_cons_zero, List.getElem?_cons_succ, List.cons_append, List.nil_append, List.replicate, then_normal, Option.getD_some, Bool.or_false, Bool.false_eq_true, up_zero, Nat.reduceAdd, ↓opt_def, ldc, List.map_cons, List.map_nil, Int.natCast_nonneg, lt_len, Int.toNat_natCast, true_and, and_true, hou, hil, hrn, hg0, Nat.add_zero]
  refine hget.mono ?_
  rintro v u2 ⟨rfl, hS6, hN6⟩
  obtain ⟨hR6, hQ6⟩ := hoth u2 (hNu.trans hN6)
  have ho6 := hR6.obj
  simp only [rsl] at ho6
  have hr6 := (hR6.row n4 rfl).2
  try simp only [List.getElem?_cons_zero, List.getElem?_cons_succ]
  refine h4 _ _ ?_
  try clear h4 K_h4
  have enn : eqIv true [(tCode, .i64)] .nili .nili = some true := rfl
  have hee : (!decide ((⟨e.2.toArray⟩ : ByteArray) = ⟨e.2.toArray⟩)) = false := by simp
  refine T.seq_k (fun K_h0 h0 => ?_)
  refine T.regi hm ?_
  simp only [↓reduceIte, namesOf, List.any, I.names, aopsI, astep, ev, setd, List.set, List.getD, List.getElem?_cons_zero, List.getElem?_cons_succ, List.cons_append, List.nil_append, List.replicate, then_normal, Option.getD_some, Bool.or_false, Bool.false_eq_true, up_zero, Nat.reduceAdd, ↓opt_def, ldc, Int.natCast_nonneg, lt_len, Int.toNat_natCast, true_and, and_true, eq_self, decide_true, enn, bne_self_eq_false, ho6, hil, hr6, hg1, toBytes_bytes, sbinv]
  refine h0 _ _ ?_
  try clear h0 K_h0
  refine T.cond rfl (fun h => by cases h) (fun _ => T.skip ?_)
  try simp only [List.cons_append, List.nil_append, List.replicate, then_normal, inBlock_normal, inBlock_normal]
  refine h3 _ _ ?_
  try clear h3 K_h3
  refine T.regi hm ?_
  simp only [↓reduceIte, namesOf, List.any, I.names, aopsI, astep, ev, setd, List.set, List.getD, List.getElem?_cons_zero, List.getElem?_cons_succ, List.cons_append, List.nil_append, List.replicate, then_normal, Option.getD_some, Bool.or_false, Bool.false_eq_true, up_zero, binv, ↓opt_def, eq_self, hw]
  exact ⟨hil, _, _, Gh.keep [11, 12, 14, 21], calls5 + 1, hS6, hNu.trans hN6, by omega, rfl⟩

end Go.VL

namespace Go.VL

open Go.Proofs

def fts (P : Program) (t : TypeId) : Option (List TypeId) := match P.underlying t with
  | some (.struct fs) => some (fs.toList.map (·.type))
  | _ => none

def HasTs (P : Program) (n : Nat) : List TypeId → List AV → Prop
  | [], xs => xs = []
  | t :: r, xs => ∃ ys zs, xs = ys ++ zs ∧ HasT P n t ys ∧ HasTs P n r zs

theorem hasTs_of {P : Program} {n : Nat} : ∀ {fs : List Field} {xs : List AV}, HasF P n fs xs → HasTs P n (fs.map (·.type)) xs
  | [], xs, h => by rw [hasF_nil] at h; exact h
  | f :: r, xs, h => by
    rw [hasF_cons] at h
    obtain ⟨ys, zs, e, h1, h2⟩ := h
    exact ⟨ys, zs, e, h1, hasTs_of h2⟩

theorem has_fields {P : Program} {n : Nat} {t : TypeId} {ts : List TypeId} {y : AV} (hf : fts P t = some ts) (h : HasE P (n + 1) t y) : ∃ zs, y = .agg zs ∧ HasTs P n ts zs := by
  unfold fts at hf
  split at hf
  · rename_i fs hu
    simp only [Option.some.injEq] at hf; subst hf
    rw [hasE_iff] at h
    obtain ⟨h1, h2, _⟩ := h
    obtain ⟨zs, rfl⟩ := h2 (by unfold isStruct; rw [hu])
    rw [hasT_succ, hu] at h1
    exact ⟨zs, rfl, hasTs_of h1⟩
  · cases hf

theorem hasT_int {P : Program} {n : Nat} {t : TypeId} {k : IntKind} {xs : List AV} (hu : P.underlying t = some (.int k)) (h : HasT P (n + 1) t xs) : ∃ m, xs = [.int k m] ∧ k.min ≤ m ∧ m ≤ k.max := by
  rw [hasT_succ, hu] at h; exact h

theorem maxLen_eq : maxLen = 9223372036854775807 := by decide

theorem u64_nat {m : Int} (h1 : IntKind.u64.min ≤ m) (h2 : m ≤ IntKind.u64.max) : ∃ n : Nat, m = (n : Int) ∧ n < 18446744073709551616 := by
  have h1' : 0 ≤ m := h1
  have h2' : m ≤ 18446744073709551615 := h2
  exact ⟨m.toNat, by omega, by omega⟩

end Go.VL

namespace Go.Proofs.YtnifkggcldalbaaDoor

open Go.RowKit Go.VL

theorem own : ownKnob Tryd.prog.godebug = none := by kernel_rfl

theorem laidOut : laidOutB Tryd.prog = true := by kernel_rfl

end Go.Proofs.YtnifkggcldalbaaDoor

namespace Go.VL

open Go.Proofs

/-- a span whose numbers fit -/
def Sp.ok (s : Sp) : Prop := s.tr < 18446744073709551616 ∧ s.id < 18446744073709551616 ∧ (-9223372036854775808 ≤ s.st ∧ s.st ≤ 9223372036854775807) ∧ (-9223372036854775808 ≤ s.en ∧ s.en ≤ 9223372036854775807) ∧ s.da.length ≤ 9223372036854775807

def Tc.ok (t : Tc) : Prop := t.id < 18446744073709551616 ∧ t.sp.length ≤ 9223372036854775807 ∧ ∀ s ∈ t.sp, s.ok

end Go.VL

namespace Go.VL

open Go.RowKit Go.Proofs

def κT (W : World) : Kx := ⟨fun b _ => b < W.heap.size, fun n => n, fun _ => 0, fun _ => 0, fun _ => 0, fun n => n = g_pow10 ∨ n = g_deB64⟩

def σT : St := ⟨g_pow10 + g_deB64 + 1, fun n => if n = g_pow10 then some (.gl g_pow10 pow10L) else if n = g_deB64 then some (.gl g_deB64 deB64) else none⟩

theorem σT_only {n : Nat} {r : Res} (h : σT.res n = some r) : (n = g_pow10 ∧ r = .gl g_pow10 pow10L) ∨ (n = g_deB64 ∧ r = .gl g_deB64 deB64) := by
  unfold σT at h
  simp only at h
  split at h
  · rename_i e; exact .inl ⟨e, (Option.some.inj h).symm⟩
  · split at h
    · rename_i e; exact .inr ⟨e, (Option.some.inj h).symm⟩
    · cases h

theorem σT_real {n : Nat} {r : Res} (h : σT.res n = some r) (hr : r.real = true) : False := by
  rcases σT_only h with ⟨_, rfl⟩ | ⟨_, rfl⟩ <;> cases hr

theorem tabsT : Tabs σT := ⟨by unfold σT; simp, by
  show (if g_deB64 = g_pow10 then some (Res.gl g_pow10 pow10L) else if g_deB64 = g_deB64 then some (Res.gl g_deB64 deB64) else none) = _
  rw [if_neg (by decide), if_pos rfl]⟩

def deBZ : List Int := [0, 1, 56, 2, 57, 49, 28, 3, 61, 58, 42, 50, 38, 29, 17, 4, 62, 47, 59, 36, 45, 43, 51, 22, 53, 39, 33, 30, 24, 18, 12, 5, 63, 55, 48, 27, 60, 41, 37, 16, 46, 35, 44, 21, 52, 32, 23, 11, 54, 26, 40, 15, 34, 20, 31, 10, 25, 14, 19, 9, 13, 8, 7, 6]

def powZ : List Int := (List.range 20).map fun i => ((10 ^ i : Nat) : Int)

theorem pow_eq : pow10L = powZ.map (AV.int .u64) := by unfold pow10L powZ; rw [List.map_map]; rfl

theorem vs_tab {κ : Kx} {w : World} {b : Nat} {k : IntKind} : ∀ (zs : List Int) (o : Nat), (∀ i, i < zs.length → w.cell? ⟨b, o + i, none⟩ = some (.int k (zs.getD i 0))) → (∀ i, κ.I b i) → Vs κ w b o (zs.map (AV.int k))
  | [], o, _, _ => .nil _ _
  | z :: zs, o, h, hI => .cons _ _ _ _ _ (hI o) (by have := h 0 (by simp); simpa using this) (.int k z) (vs_tab zs (o + 1) (fun i hi => by have := h (i + 1) (by simpa using hi); rw [show o + 1 + i = o + (i + 1) by omega]; simpa using this) hI)

section

variable {H : Type} {enc : TypeId × Value → H} {P : Program} {W : World}

def TabsW (W : World) : Prop := (∀ i, i < powZ.length → W.cell? ⟨g_pow10, i, none⟩ = some (.int .u64 (powZ.getD i 0))) ∧ (∀ i, i < deBZ.length → W.cell? ⟨g_deB64, i, none⟩ = some (.int .u8 (deBZ.getD i 0)))

theorem cell_lt {b i : Nat} {v : Value} (h : W.cell? ⟨b, i, none⟩ = some v) : b < W.heap.size := by
  rcases Nat.lt_or_ge b W.heap.size with h1 | h1
  · exact h1
  · simp [World.cell?, Array.getElem?_eq_none h1] at h

theorem RT (h : TabsW W) : R 0 (fun _ => False) (κT W) W σT := by
  have l1 := cell_lt (h.1 0 (by decide))
  have l2 := cell_lt (h.2 0 (by decide))
  refine ⟨fun n hn => ?_, fun n r hr => ?_, fun n m r s _ _ hx => hx, fun _ _ h => h, fun n r hr hrl => (σT_real hr hrl).elim⟩
  · have hn' : n = g_pow10 ∨ n = g_deB64 := hn
    show n < g_pow10 + g_deB64 + 1
    omega
  · rcases σT_only hr with ⟨rfl, rfl⟩ | ⟨rfl, rfl⟩
    · refine ⟨.inl rfl, rfl, l1, ?_⟩
      rw [pow_eq]
      exact vs_tab powZ 0 (fun i hi => by rw [Nat.zero_add]; exact h.1 i hi) (fun _ => l1)
    · refine ⟨.inr rfl, rfl, l2, ?_⟩
      exact vs_tab deBZ 0 (fun i hi => by rw [Nat.zero_add]; exact h.2 i hi) (fun _ => l2)

theorem ExtT (W : World) : Ext (κ0 W) W (κT W) W := ⟨fun _ _ h => h, fun _ h => h.elim, fun _ h => h.elim, fun _ h => h.elim, fun _ h => h.elim, fun _ h => h.elim, fun _ _ _ => rfl⟩

/-- THE ROW's CONTRACT, where the tables' cells are known -/
theorem law_calls_tabs (n : Nat) {f : FuncId} {fn : Func} {s : ChangeSpec} {tb : TypeId} (hl : laidOutB P = true)
    (hps : fn.params.toList.all (fun t => goodT P n t && P.readableRec t && decide (t < P.types.size)) = true) (hvars : s.vars = []) (hrt : fn.resultTypes = #[tb]) (hb : P.underlying tb = some .bool)
    (hfn : ∀ ds : List (DataW H), ds.length = fn.params.toList.length → s.fn H ds = { results := [.lit (.bool true)], args := ds })
    (hwalk : ∀ xs, HasAll P n fn.params.toList xs → ACalls P f xs σT (fun v _ => v = .bool true))
    {base : Nat} {args : Array Value} {ds gs : List (DataW H)} {before : List MemPlace}
    (hval : ∀ (j : Nat) t v, fn.params[j]? = some t → args[j]? = some v → Value.okWide P W .any base t v)
    (hW : DataW.Whole enc P fn.params.toList s.vars false W args.toList ds gs before) (hg : TabsW W) :
    Calls P f args W fun e W' => ∃ v, e = .returned v ∧ s.post enc P fn false true false false W args v W' := by
  simp only [List.all_eq_true, Bool.and_eq_true, decide_eq_true_eq] at hps
  have hW' := hW
  obtain ⟨p, q, hA, hV, hbf, _, _⟩ := hW
  rw [hvars] at hV
  have hgs : gs = [] ∧ q = [] := by
    cases gs with
    | nil => exact ⟨rfl, by simpa [DataW.TrodVars] using hV⟩
    | cons _ _ => simp [DataW.TrodVars] at hV
  obtain ⟨rfl, rfl⟩ := hgs
  obtain ⟨xs, h1, h2⟩ := args_has (n := n) (fun t ht => (hps t ht).1.1) (fun j t v ht hv => hval j t v (by simpa using ht) (by simpa using hv)) hA
  obtain ⟨l⟩ := args
  refine ((hwalk xs h2).2 (κT W) W l 0 (fun _ => False) (RT hg) (h1.mono (ExtT W))).mono ?_
  rintro e W' ⟨v, x, κ', σ', rfl, _, _, _, hfr, _, hv, hx⟩
  subst hx
  refine ⟨v, rfl, ?_⟩
  rw [hv.bool_inv]
  have hbelow : Below W.heap.size W W' := ⟨hfr.os.os, hfr.tape, hfr.output, hfr.size, fun b hlt => hfr.block b hlt (by rintro ⟨n, r, hn, hrl, _⟩; exact σT_real hn hrl)⟩
  have hd := hfn ds (trodAll_len hA)
  refine ⟨ds, [], before, [], p, [], hW', ?_, ?_, ?_, hbelow.frame _, fun h => by cases h⟩
  · rw [List.append_nil, hd, hrt]
    exact ⟨[], [], shut_bool hb true, rfl, rfl⟩
  · rw [List.append_nil, hd]
    exact trodAll_below hl hbelow (fun t ht => ⟨(hps t ht).1.2, (hps t ht).2⟩) hA
  · rw [hvars, List.append_nil, hd]
    rfl

end

end Go.VL

namespace Go.Proofs.YtnifkggcldalbaaDoor

open Go.ChangeShapes Go.WideShapes Go.ChangeAt Go.RowKit Go.VL

def laidT : List (String × DataW Unit) := [("math/bits.deBruijn32tab", Rows.laid_math_bits_deBruijn32tab), ("math/bits.deBruijn64tab", Rows.laid_math_bits_deBruijn64tab), ("internal/strconv.uint64pow10", Rows.laid_internal_strconv_uint64pow10)]

theorem p10_at : Tryd.prog.globalNamed "internal/strconv.uint64pow10" = some g_pow10 := by kernel_rfl

theorem d64_at : Tryd.prog.globalNamed "math/bits.deBruijn64tab" = some g_deB64 := by kernel_rfl

theorem p10_ty : (Tryd.prog.globals[g_pow10]?).map (·.type) = some t_a20 := by kernel_rfl

theorem d64_ty : (Tryd.prog.globals[g_deB64]?).map (·.type) = some t_a64 := by kernel_rfl

theorem a20_un : Tryd.prog.underlying t_a20 = some (.array 20 t_u64) := by kernel_rfl

theorem a64_un : Tryd.prog.underlying t_a64 = some (.array 64 t_u8) := by kernel_rfl

theorem u64_un : Tryd.prog.underlying t_u64 = some (.int .u64) := by kernel_rfl

theorem u8_un : Tryd.prog.underlying t_u8 = some (.int .u8) := by kernel_rfl

/-- WHAT THE CONDITION GIVES: the tables' cells. -/
theorem tabs_of_laid {W : World} (h : laidMetH Tryd.prog laidT W) : TabsW W := by
  rw [MakeChecks.laidMetH_plain _ _ _ (by kernel_rfl)] at h
  obtain ⟨ps, ⟨_, _, _, _, _, _, _, _, _, _, ⟨g1, t1, cs1, f1, p1, q1, hg1, ht1, hv1, hd1, ⟨g2, t2, cs2, f2, p2, q2, hg2, ht2, hv2, hd2, _, _⟩, _⟩, _⟩, _⟩ := h
  obtain rfl := Option.some.inj (d64_at.symm.trans hg1)
  obtain rfl := Option.some.inj (d64_ty.symm.trans ht1)
  obtain rfl := Option.some.inj (p10_at.symm.trans hg2)
  obtain rfl := Option.some.inj (p10_ty.symm.trans ht2)
  have e1 := Lib.cells_of_tab (k := .u8) (zs := deBZ) a64_un u8_un (by kernel_rfl) (by kernel_rfl) hd1
  have e2 := Lib.cells_of_tab (k := .u64) (zs := powZ) a20_un u64_un (by kernel_rfl) (by kernel_rfl) hd2
  have i1 : Lib.TabIs Tryd.prog W "math/bits.deBruijn64tab" .u8 deBZ := by unfold Lib.TabIs; rw [hv1, ← e1]
  have i2 : Lib.TabIs Tryd.prog W "internal/strconv.uint64pow10" .u64 powZ := by unfold Lib.TabIs; rw [hv2, ← e2]
  exact ⟨fun i hi => i2.cell p10_at i hi, fun i hi => i1.cell d64_at i hi⟩

def tab32 : Array Value := (([0, 1, 28, 2, 29, 14, 24, 3, 30, 22, 20, 15, 25, 17, 4, 8, 31, 27, 13, 23, 21, 19, 16, 7, 26, 12, 18, 6, 11, 5, 10, 9] : List Int).map (Value.int .u8)).toArray

/-- A world that meets the condition: the settled one, the variables' cells laid. -/
noncomputable def laidWorldT (os : Os) : World :=
  let w0 := World.holding Tryd.prog os ⟨#[], #[], []⟩
  { w0 with heap := ((w0.heap.modify g_deB32 fun
      | .cells _ t frozen => .cells tab32 t frozen
      | o => o).modify g_deB64 fun
      | .cells _ t frozen => .cells (deBZ.map (Value.int .u8)).toArray t frozen
      | o => o).modify g_pow10 fun
      | .cells _ t frozen => .cells (powZ.map (Value.int .u64)).toArray t frozen
      | o => o }

theorem laidWorldT_met (os : Os) (args : Array Value) : laidMetH Tryd.prog laidT ((laidWorldT os).forCall (fun _ _ => 0) ⟨#[], args, []⟩).memory :=
  laidMetH_of_parts (laidMet_of_run' 8 (by kernel_rfl) (by kernel_rfl)) (by kernel_rfl)

end Go.Proofs.YtnifkggcldalbaaDoor

namespace Go.VL

open Go.Proofs

set_option maxRecDepth 100000 in
theorem meta_ftsT : fts Tryd.prog t_meta = some [t_u64, t_int, t_i64, t_i64, t_int, t_int] := by kernel_rfl

theorem metas_tyT : Tryd.prog.underlying t_metas = some (.slice t_meta) := by kernel_rfl

theorem u64_tyT : Tryd.prog.underlying t_u64 = some (.int .u64) := by kernel_rfl

theorem i64_tyT : Tryd.prog.underlying t_i64 = some (.int .i64) := by kernel_rfl

theorem int_tyT : Tryd.prog.underlying t_int = some (.int .i64) := by kernel_rfl

theorem meta_ofT {n : Nat} {y : AV} (h : HasE Tryd.prog (n + 2) t_meta y) : ∃ m : Mt, y = .agg (mtC m) ∧ m.id < 18446744073709551616 ∧ (-9223372036854775808 ≤ m.en ∧ m.en ≤ 9223372036854775807) := by
  obtain ⟨zs, hy, hf⟩ := has_fields meta_ftsT h
  clear h
  subst hy
  have h := hf
  clear hf
  obtain ⟨y1, z1, rfl, k1, h⟩ := h
  obtain ⟨y2, z2, rfl, k2, h⟩ := h
  obtain ⟨y3, z3, rfl, k3, h⟩ := h
  obtain ⟨y4, z4, rfl, k4, h⟩ := h
  obtain ⟨y5, z5, rfl, k5, h⟩ := h
  obtain ⟨y6, z6, rfl, k6, h⟩ := h
  have hz : z6 = [] := h
  subst hz
  obtain ⟨m1, rfl, a1, b1⟩ := hasT_int u64_tyT k1
  obtain ⟨m2, rfl, a2, b2⟩ := hasT_int int_tyT k2
  obtain ⟨m3, rfl, a3, b3⟩ := hasT_int i64_tyT k3
  obtain ⟨m4, rfl, a4, b4⟩ := hasT_int i64_tyT k4
  obtain ⟨m5, rfl, a5, b5⟩ := hasT_int int_tyT k5
  obtain ⟨m6, rfl, a6, b6⟩ := hasT_int int_tyT k6
  obtain ⟨n1, rfl, c1⟩ := u64_nat a1 b1
  exact ⟨⟨n1, m2, m3, m4, m5, m6⟩, rfl, c1, a4, b4⟩

theorem metas_ofT {n : Nat} : ∀ {ys : List AV}, (∀ y ∈ ys, HasE Tryd.prog (n + 2) t_meta y) → ∃ l : List Mt, ys = mtsAV l ∧ ∀ m ∈ l, m.id < 18446744073709551616 ∧ (-9223372036854775808 ≤ m.en ∧ m.en ≤ 9223372036854775807)
  | [], _ => ⟨[], rfl, fun _ h => by cases h⟩
  | y :: r, h => by
    obtain ⟨s, rfl, hs⟩ := meta_ofT (h y (by simp))
    obtain ⟨l, rfl, hl⟩ := metas_ofT (fun z hz => h z (List.mem_cons_of_mem _ hz))
    exact ⟨s :: l, rfl, fun x hx => by rcases List.mem_cons.1 hx with rfl | hx; exact hs; exact hl x hx⟩

end Go.VL

namespace Go.Proofs.YtnifkggcldalbaaDoor

open Go.ChangeShapes Go.WideShapes Go.ChangeAt Go.RowKit Go.VL

set_option maxRecDepth 100000 in
theorem expireMarks_lifted (os : Os) (started : os.Started) (H : Type) (enc : TypeId × Value → H) :
    ReturnsInHanded {} Tryd.checked os n_expireMarks .any (fun w args => (Rows.expireMarksSpec.pre enc Tryd.prog Tryd.f3 [] false w args ∧ laidMetH Tryd.prog laidT w) ∧ sizedMet enc Tryd.prog Tryd.f3 (OpenSpec.ofChange Rows.expireMarksSpec) false w args)
      (Rows.expireMarksSpec.post enc Tryd.prog Tryd.f3 false true false false) := by
  refine returnsInHanded_of_change_and (C := Tryd.checked) (X := fun w _ => laidMetH Tryd.prog laidT w) (fun _ _ _ hh h => h.of_heap hh) own started (by kernel_rfl) Tryd.func3
    (ChangeSpec.witness_at (enc := enc) (C := Tryd.checked) (os := os) (X := fun w _ => laidMetH Tryd.prog laidT w) false (laidWorldT os) #[.int .i64 0, .slice none 0 0, .int .i64 0, .int .i64 0, .int .i64 0] 8 rfl (by kernel_rfl) (by kernel_rfl) (by kernel_rfl) (by kernel_rfl) (by kernel_rfl) (laidWorldT_met os _)) ?_
  intro W base args ds gs before hval0 hW _ _ hL _
  refine law_calls_tabs 3 (tb := 4) laidOut (by kernel_rfl) rfl (by kernel_rfl) (by kernel_rfl) (fun ds hds => ?_) (fun xs hxs => ?_) hval0 hW (tabs_of_laid hL)
  · match ds, hds with
    | [_d1, _d2, _d3, _d4, _d5], _ => rfl
  · have hxs' : HasAll Tryd.prog 3 [_, _, _, _, _] xs := hxs
    have hG := tabsT
    cases hxs' with
    | cons h1 r1 =>
    cases r1 with
    | cons h2 r2 =>
    cases r2 with
    | cons h3 r3 =>
    cases r3 with
    | cons h4 r4 =>
    cases r4 with
    | cons h5 r5 =>
    cases r5
    obtain ⟨room, rfl, _⟩ := has_int int_tyT h1
    obtain ⟨ys, rfl, hlen, h2⟩ := has_slice metas_tyT h2
    obtain ⟨l, rfl, hl⟩ := metas_ofT (n := 0) h2
    rw [maxLen_eq, mts_len] at hlen
    obtain ⟨now, rfl, _⟩ := has_int i64_tyT h3
    obtain ⟨ret, rfl, _⟩ := has_int i64_tyT h4
    obtain ⟨fails, rfl, q1, q2⟩ := has_int int_tyT h5
    exact (expireMarks_ok hG hlen (fun m hm => (hl m hm).1) ⟨q1, q2⟩).mono fun v _ ⟨e, _⟩ => e

theorem expireMarks_holds : Rows.ExpireMarksSaid :=
  OpenClaim.holds_of_wide n_expireMarks Tryd.f3 rfl rfl rfl rfl rfl rfl rfl ⟨rfl, rfl, rfl, rfl, rfl⟩ rfl rfl rfl rfl rfl (by kernel_rfl) Tryd.func3 (by kernel_rfl)
    (of_decide_eq_true (by kernel_rfl)) (by unfold Func.isWrapper; first | (rw [if_pos (by decide +kernel)]; kernel_rfl) | (rw [if_neg (by decide +kernel)]; exact ⟨rfl, rfl⟩))
    (fun os started H enc _ => expireMarks_lifted os started H enc)

theorem expireMarks_card : Rows.ExpireMarksCardSaid :=
  Claim7.holds_tied_plain_at .later [] [.data, .data, .data] true Rows.expireMarksCard.stood.harness true
    expireMarks_holds (fun _ h => by cases h) (by kernel_rfl) (fun _ h => by cases h) expireMarks_row_tie rfl ⟨rfl, rfl⟩ (by kernel_rfl) rfl
    (fun f fn hf hfn => by
      obtain rfl : f = 3 := Option.some.inj ((show Tryd.prog.funcNamed Rows.expireMarksRow.func = some 3 by kernel_rfl).symm.trans hf) |>.symm
      obtain rfl : fn = Tryd.f3 := (Option.some.inj (Tryd.func3.symm.trans hfn)).symm
      refine ⟨by kernel_rfl, fun j t ht => ?_⟩
      have hm : t ∈ Tryd.f3.params.toList := by simpa using Array.mem_of_getElem? ht
      have hall : (Tryd.f3.params.toList.all fun u => !Tryd.prog.wantsStandIn u) = true := by kernel_rfl
      exact (show Tryd.prog.wantsStandIn t = false by simpa using List.all_eq_true.1 hall t hm))
    (by kernel_rfl)

end Go.Proofs.YtnifkggcldalbaaDoor
