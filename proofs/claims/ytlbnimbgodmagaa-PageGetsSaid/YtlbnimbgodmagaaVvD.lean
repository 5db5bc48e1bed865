/- Contracts: the document's bytes of spans and pages. -/
import Derived.Test.YtlbnimbgodmagaaVvC
namespace Go.VL
open Go.Proofs

theorem rtext_ok {s : List UInt8} {g : Ver} {σ : St} (hs : s.length ≤ 1000000000) :
    ACalls Try.prog n_rtext [.sl (bytesAV s) g] σ (fun v σ' => v = .sl (bytesAV (textB s)) .none ∧ σ' = σ) := by
  refine s_rtext (fun wf => ?_)
  unfold c_rtext
  have e2 := u64w (n := s.length) (by omega)
  refine T.seq_k (fun K_h0 h0 => ?_)
  refine T.regi hm ?_
  simp only [↓reduceIte, namesOf, List.any, I.names, aopsI, astep, ev, setd, List.set, List.cons_append, List.nil_append, List.length_cons, List.length_nil, List.replicate, then_normal, Bool.or_false, Bool.false_eq_true, up_zero, Nat.reduceAdd, Nat.reduceSub]
  refine h0 _ _ ?_
  try clear h0 K_h0
  refine T.seq_k (fun K_h1 h1 => ?_)
  refine T.regi hm ?_
  simp only [↓reduceIte, namesOf, List.any, I.names, aopsI, astep, ev, setd, List.set, List.getD, List.getElem?_cons_zero, List.getElem?_cons_succ, List.length_cons, List.length_nil, then_normal, Option.getD_some, Bool.or_false, Bool.or_true, Nat.reduceAdd, List.map_cons, List.map_nil, eq_self, bytesAV_len, e2]
  refine (rbytes_ok (w := 2) (by omega) (by omega)).mono ?_
  rintro v σ1 (⟨h0, _⟩ | ⟨h, o1, rfl⟩)
  · cases h0
  have q0 := Tq.in_ (Like.refl σ) o1
  have hi := o1.nx (i := 5) (by omega)
  have hat : σ1.res h = some (.tip 1) := o1.at_
  have hle : decide ((2 + s.length) * 1 ≤ 70368744177664 ∧ 2 + s.length ≤ 4611686018427387904) = true := app_le (by omega)
  try simp only [↓reduceIte, eq_self, srcOf, bytesAV_er, bytesAV_app, bytes_all, bytesAV_len, Bool.and_self, hat, beB_len, hle]
  have q1 := q0.mv (g2 := σ.next + 5) (by omega) hi
  refine h1 _ _ ?_
  try clear h1 K_h1
  exact T.ret (Fin.quietw rfl (Wk.sl _ _) ⟨nb_bytes _ _, trivial⟩ (q1.quiet wf) ⟨rfl, rfl⟩)

set_option maxRecDepth 10000 in
set_option maxHeartbeats 2000000 in
theorem rspB_ok {l : List Sp} {g : Ver} {σ : St} (hl : l.length ≤ 65535) (hd : ∀ s ∈ l, mayS s = true ∧ s.wd) :
    ACalls Try.prog n_rspB [.sl (spsAV l) g] σ (fun v σ' => v = .sl (bytesAV (spansB l)) .none ∧ σ' = σ) := by
  refine s_rspB (fun wf => ?_)
  unfold c_rspB
  have e2 := u64w (n := l.length) (by omega)
  refine T.seq_k (fun K_h0 h0 => ?_)
  refine T.regi hm ?_
  simp only [↓reduceIte, namesOf, List.any, I.names, aopsI, astep, ev, setd, List.set, List.cons_append, List.nil_append, List.length_cons, List.length_nil, List.replicate, then_normal, Bool.or_false, Bool.false_eq_true, up_zero, Nat.reduceAdd, Nat.reduceSub]
  refine h0 _ _ ?_
  try clear h0 K_h0
  refine T.seq_k (fun K_h1 h1 => ?_)
  refine T.regi hm ?_
  simp only [↓reduceIte, namesOf, List.any, I.names, aopsI, astep, ev, setd, List.set, List.getD, List.getElem?_cons_zero, List.getElem?_cons_succ, then_normal, Option.getD_some, Bool.or_false, Bool.false_eq_true, up_zero, List.map_cons, List.map_nil, sps_len, e2]
  refine (rbytes_ok (w := 2) (by omega) (by omega)).mono ?_
  rintro v σ1 (⟨h0, _⟩ | ⟨h, o1, rfl⟩)
  · cases h0
  have q0 := Tq.one o1
  clear o1
  try simp only [↓reduceIte, namesOf, List.any, I.names, aops, aopsI, aopsT, qstep, CPt, qget, Tbl.get, astep, ev, setd, List.set, List.getD, List.getElem?_cons_zero, List.getElem?_cons_succ, List.getElem?_nil, List.cons_append, List.nil_append, List.length_cons, List.length_nil, List.replicate, then_normal, inBlock_normal, Option.getD_some, Option.getD_none, Bool.or_false, Bool.or_true, Bool.true_or, Bool.false_or, Bool.false_eq_true, if_false, if_true, up_zero, Nat.reduceAdd, Nat.reduceSub, binv, ↓opt_def, AV.isAny, AV.cells, ldc, List.map_cons, List.map_nil, St.set_next, St.set_same, St.up_next, Int.natCast_nonneg, lt_len, le_len, Int.toNat_natCast, true_and, and_true, eq_self, reduceCtorEq, decide_true, List.length_singleton, er_int, er_bool, er_str, up_zero]
  refine h1 _ _ ?_
  try clear h1 K_h1
  refine T.seq_k (fun K_h1 h1 => ?_)
  refine T.seq_k (fun K_h0 h0 => ?_)
  refine T.regi hm ?_
  simp only [↓reduceIte, namesOf, List.any, I.names, aopsI, astep, ev, setd, List.set, then_normal, Bool.or_false, Bool.false_eq_true, up_zero]
  refine h0 _ _ ?_
  try clear h0 K_h0
  refine T.block ?_
  refine T.gh (Gh.keep [0, 3, 4]) ?_
  refine T.loopi (fun i ρ t => (∃ g1, Tq σ t g1 1 ∧ ρ = [.sl (spsAV l) g, .any, .any, .sl (bytesAV (beB 2 l.length ++ (l.take i).flatMap spanB)) (.tip g1), .int .i64 (i : Int)] ++ List.replicate 43 .any))
    l.length 0 (Nat.zero_le _) ⟨h, q0, by rw [List.take_zero, List.flatMap_nil, List.append_nil]; rfl⟩ ?_
  clear q0 h
  rintro i ρ t hi ⟨h, q0, rfl⟩
  refine T.seq_k (fun K_h2 h2 => ?_)
  refine T.seq_k (fun K_h0 h0 => ?_)
  refine T.regi hm ?_
  simp only [↓reduceIte, namesOf, List.any, I.names, aopsI, astep, ev, setd, List.set, List.getD, List.getElem?_cons_zero, List.getElem?_cons_succ, List.cons_append, List.nil_append, List.replicate, then_normal, Option.getD_some, Bool.or_false, Bool.false_eq_true, up_zero, binv, ↓opt_def, lt_len, eq_self, sps_len]
  refine h0 _ _ ?_
  try clear h0 K_h0
  by_cases hil : i < l.length
  case neg =>
    refine T.cond (b := false) (by simp [ev]; omega) (fun h => by cases h) (fun _ => T.exit ?_)
    have : i = l.length := by omega
    subst this
    rw [List.take_length]
    try simp only [List.cons_append, List.nil_append, List.replicate, then_normal, inBlock_exit, then_exit]
    refine h1 _ _ ?_
    try clear h1 K_h1
    refine T.seq_k (fun K_h0 h0 => ?_)
    refine T.regi hm ?_
    simp only [↓reduceIte, namesOf, List.any, I.names, aopsI, astep, ev, setd, List.set, List.getD, List.getElem?_cons_zero, List.getElem?_cons_succ, then_normal, Option.getD_some, Bool.or_false, Bool.false_eq_true, up_zero]
    refine h0 _ _ ?_
    try clear h0 K_h0
    exact T.ret (Fin.quietw rfl (Wk.sl _ _) ⟨nb_bytes _ _, trivial⟩ (q0.quiet wf) ⟨rfl, rfl⟩)
  refine T.cond (b := true) (by simp [ev]; omega) (fun _ => T.skip ?_) (fun h => by cases h)
  refine h2 _ _ ?_
  try clear h2 K_h2
  have hiw := inc64' hil (by omega)
  have hilI : (i : Int) < (l.length : Int) := by omega
  have hg := sps_get hil
  obtain ⟨hmay, hw1, hw2⟩ := hd _ (List.getElem_mem hil)
  have hfs := flat_snoc spanB hil
  have hpl : ((l.take i).flatMap spanB).length ≤ 65535 * 234 := by
    refine Nat.le_trans (spans_le (fun s hs => mayS_len (hd s (List.mem_of_mem_take hs)).1)) (Nat.mul_le_mul_right _ ?_)
    rw [List.length_take]; omega
  generalize l[i] = s at hg hmay hw1 hw2 hfs
  rw [spav] at hg
  obtain ⟨m1, m2, m3, m4⟩ := mayS_facts hmay
  have e3 : IntKind.u64.wrap s.st = ((s.st.toNat : Nat) : Int) := by
    have := u64w (n := s.st.toNat) (by omega)
    rw [Int.toNat_of_nonneg m1] at this
    rw [this, Int.toNat_of_nonneg m1]
  have e4 : IntKind.u64.wrap s.en = ((s.en.toNat : Nat) : Int) := by
    have := u64w (n := s.en.toNat) (by omega)
    rw [Int.toNat_of_nonneg (by omega)] at this
    rw [this, Int.toNat_of_nonneg (by omega)]
  generalize hP : beB 2 l.length ++ (l.take i).flatMap spanB = P0
  have hPl0 : P0.length ≤ 2 + 65535 * 234 := by rw [← hP, List.length_append, beB_len]; omega
  refine T.seq_k (fun K_h2 h2 => ?_)
  refine T.block ?_
  refine T.seq_k (fun K_h3 h3 => ?_)
  refine T.regi hm ?_
  simp only [↓reduceIte, namesOf, List.any, I.names, aopsI, astep, ev, setd, List.set, List.getD, List.getElem?_cons_zero, List.getElem?_cons_succ, List.cons_append, List.nil_append, List.length_cons, List.length_nil, List.replicate, then_normal, Option.getD_some, Bool.or_false, Bool.or_true, Nat.reduceAdd, ↓opt_def, AV.isAny, AV.cells, ldc, St.set_same, Int.natCast_nonneg, Int.toNat_natCast, and_true, eq_self, decide_true, sps_len, hg, hilI, AV.fits, AV.one, List.all_cons, List.all_nil, Nat.reduceBEq, Bool.not_false, Bool.and_self, Nat.zero_add, splice, List.take, List.drop, Nat.reduceLeDiff, St.set_set]
  have q1 := q0.tb (n := 6) (i := 4) (by omega) (.obj [.int .u64 (s.tr : Int), .int .u64 (s.id : Int), .int .i64 s.st, .int .i64 s.en, .sl (bytesAV s.da) .none])
  generalize ((t.up 6).set (t.next + 4) (.obj [.int .u64 (s.tr : Int), .int .u64 (s.id : Int), .int .i64 s.st, .int .i64 s.en, .sl (bytesAV s.da) .none])) = τ0 at q1 ⊢
  generalize t.next + 4 = a at q1 ⊢
  clear q0 t
  refine h3 _ _ ?_
  try clear h3 K_h3
  have hle0 : decide ((P0.length + 8) * 1 ≤ 70368744177664 ∧ P0.length + 8 ≤ 4611686018427387904) = true := app_le (by omega)
  have hat0 := q1.q.ats
  have hb0 := q1.bs
  refine T.seq_k (fun K_h3 h3 => ?_)
  refine T.regi hm ?_
  simp only [↓reduceIte, namesOf, List.any, I.names, aopsI, astep, ev, setd, List.set, List.getD, List.getElem?_cons_zero, List.getElem?_cons_succ, List.cons_append, List.nil_append, List.length_cons, List.length_nil, List.replicate, then_normal, Option.getD_some, Bool.or_false, Bool.or_true, Nat.reduceAdd, ↓opt_def, ldc, List.map_cons, List.map_nil, eq_self, hb0]
  refine (rbytes_q (w := 8) (n := s.tr) (by omega) hw1).mono ?_
  rintro v t2 ⟨rfl, rfl⟩
  try simp only [↓reduceIte, eq_self, srcOf, bytesAV_er, bytesAV_app, bytes_all, bytesAV_len, Bool.and_self, hat0, beB_len, hle0]
  have q2 := q1.app (n := 6) (i := 4) (by omega)
  generalize (((τ0.up 6).del h).set (τ0.next + 4) (.tip 1)) = τ1 at q2 ⊢
  generalize τ0.next + 4 = g1 at q2 ⊢
  clear q1 hat0 hb0 hle0
  generalize hP0 : P0 ++ beB 8 s.tr = P1
  have hPl1 : P1.length ≤ P0.length + 8 := by rw [← hP0, List.length_append, beB_len]; omega
  refine h3 _ _ ?_
  try clear h3 K_h3
  have hle1 : decide ((P1.length + 8) * 1 ≤ 70368744177664 ∧ P1.length + 8 ≤ 4611686018427387904) = true := app_le (by omega)
  have hat1 := q2.q.ats
  have hb1 := q2.bs
  refine T.seq_k (fun K_h3 h3 => ?_)
  refine T.regi hm ?_
  simp only [↓reduceIte, namesOf, List.any, I.names, aopsI, astep, ev, setd, List.set, List.getD, List.getElem?_cons_zero, List.getElem?_cons_succ, List.cons_append, List.nil_append, List.length_cons, List.length_nil, List.replicate, then_normal, Option.getD_some, Bool.or_false, Bool.or_true, Nat.reduceAdd, ↓opt_def, ldc, List.map_cons, List.map_nil, eq_self, hb1]
  refine (rbytes_q (w := 8) (n := s.id) (by omega) hw2).mono ?_
  rintro v t2 ⟨rfl, rfl⟩
  try simp only [↓reduceIte, eq_self, srcOf, bytesAV_er, bytesAV_app, bytes_all, bytesAV_len, Bool.and_self, hat1, beB_len, hle1]
  have q3 := q2.app (n := 6) (i := 4) (by omega)
  generalize (((τ1.up 6).del g1).set (τ1.next + 4) (.tip 1)) = τ2 at q3 ⊢
  generalize τ1.next + 4 = g2 at q3 ⊢
  clear q2 hat1 hb1 hle1
  generalize hP1 : P1 ++ beB 8 s.id = P2
  have hPl2 : P2.length ≤ P1.length + 8 := by rw [← hP1, List.length_append, beB_len]; omega
  refine h3 _ _ ?_
  try clear h3 K_h3
  have hle2 : decide ((P2.length + 8) * 1 ≤ 70368744177664 ∧ P2.length + 8 ≤ 4611686018427387904) = true := app_le (by omega)
  have hat2 := q3.q.ats
  have hb2 := q3.bs
  refine T.seq_k (fun K_h3 h3 => ?_)
  refine T.regi hm ?_
  simp only [↓reduceIte, namesOf, List.any, I.names, aopsI, astep, ev, setd, List.set, List.getD, List.getElem?_cons_zero, List.getElem?_cons_succ, List.cons_append, List.nil_append, List.length_cons, List.length_nil, List.replicate, then_normal, Option.getD_some, Bool.or_false, Bool.or_true, Nat.reduceAdd, ↓opt_def, ldc, List.map_cons, List.map_nil, eq_self, hb2, e3]
  refine (rbytes_q (w := 8) (n := s.st.toNat) (by omega) (by omega)).mono ?_
  rintro v t2 ⟨rfl, rfl⟩
  try simp only [↓reduceIte, eq_self, srcOf, bytesAV_er, bytesAV_app, bytes_all, bytesAV_len, Bool.and_self, hat2, beB_len, hle2]
  have q4 := q3.app (n := 7) (i := 5) (by omega)
  generalize (((τ2.up 7).del g2).set (τ2.next + 5) (.tip 1)) = τ3 at q4 ⊢
  generalize τ2.next + 5 = g3 at q4 ⊢
  clear q3 hat2 hb2 hle2
  generalize hP2 : P2 ++ beB 8 s.st.toNat = P3
  have hPl3 : P3.length ≤ P2.length + 8 := by rw [← hP2, List.length_append, beB_len]; omega
  refine h3 _ _ ?_
  try clear h3 K_h3
  have hle3 : decide ((P3.length + 8) * 1 ≤ 70368744177664 ∧ P3.length + 8 ≤ 4611686018427387904) = true := app_le (by omega)
  have hat3 := q4.q.ats
  have hb3 := q4.bs
  refine T.seq_k (fun K_h3 h3 => ?_)
  refine T.regi hm ?_
  simp only [↓reduceIte, namesOf, List.any, I.names, aopsI, astep, ev, setd, List.set, List.getD, List.getElem?_cons_zero, List.getElem?_cons_succ, List.cons_append, List.nil_append, List.length_cons, List.length_nil, List.replicate, then_normal, Option.getD_some, Bool.or_false, Bool.or_true, Nat.reduceAdd, ↓opt_def, ldc, List.map_cons, List.map_nil, eq_self, hb3, e4]
  refine (rbytes_q (w := 8) (n := s.en.toNat) (by omega) (by omega)).mono ?_
  rintro v t2 ⟨rfl, rfl⟩
  try simp only [↓reduceIte, eq_self, srcOf, bytesAV_er, bytesAV_app, bytes_all, bytesAV_len, Bool.and_self, hat3, beB_len, hle3]
  have q5 := q4.app (n := 7) (i := 5) (by omega)
  generalize (((τ3.up 7).del g3).set (τ3.next + 5) (.tip 1)) = τ4 at q5 ⊢
  generalize τ3.next + 5 = g4 at q5 ⊢
  clear q4 hat3 hb3 hle3
  generalize hP3 : P3 ++ beB 8 s.en.toNat = P4
  have hPl4 : P4.length ≤ P3.length + 8 := by rw [← hP3, List.length_append, beB_len]; omega
  refine h3 _ _ ?_
  try clear h3 K_h3
  have htl := textB_len s.da
  have hle : decide ((P4.length + (textB s.da).length) * 1 ≤ 70368744177664 ∧ P4.length + (textB s.da).length ≤ 4611686018427387904) = true := app_le (by omega)
  have hat := q5.q.ats
  have hb := q5.bs
  refine T.regi hm ?_
  simp only [↓reduceIte, namesOf, List.any, I.names, aopsI, astep, ev, setd, List.set, List.getD, List.getElem?_cons_zero, List.getElem?_cons_succ, List.cons_append, List.nil_append, List.length_cons, List.length_nil, List.replicate, then_normal, inBlock_normal, Option.getD_some, Bool.or_false, Bool.or_true, Nat.reduceAdd, ↓opt_def, ldc, List.map_cons, List.map_nil, eq_self, hb]
  refine (rtext_ok (by omega)).mono ?_
  rintro v τ2 ⟨rfl, rfl⟩
  try simp only [↓reduceIte, eq_self, srcOf, bytesAV_er, bytesAV_app, bytes_all, bytesAV_len, Bool.and_self, hat, hle]
  have q6 := q5.app (n := 6) (i := 4) (by omega)
  refine h2 _ _ ?_
  try clear h2 K_h2
  refine T.regi hm ?_
  simp only [↓reduceIte, namesOf, List.any, I.names, aopsI, astep, ev, setd, List.set, List.getD, List.getElem?_cons_zero, List.getElem?_cons_succ, List.cons_append, List.nil_append, List.replicate, then_normal, Option.getD_some, Bool.or_false, Bool.false_eq_true, up_zero, binv, ↓opt_def, eq_self, hiw]
  refine ⟨hil, _, _, Gh.keep [0, 3, 4], _, q6.q, ?_⟩
  have hfin : P4 ++ textB s.da = beB 2 l.length ++ (l.take (i + 1)).flatMap spanB := by
    rw [hfs, ← List.append_assoc, hP, ← hP3, ← hP2, ← hP1, ← hP0]
    simp only [spanB, spanN, runB, List.flatMap_cons, List.flatMap_nil, List.append_nil, List.append_assoc]
  rw [hfin]; rfl

theorem rone_ok {t : Tc} {σ : St} (hi : t.id < 18446744073709551616) (hl : t.sp.length ≤ 1000) (hm : ∀ s ∈ t.sp, mayS s = true ∧ s.wd) :
    ACalls Try.prog n_rone [.agg [.int .u64 (t.id : Int), .sl (spsAV t.sp) .none]] σ (fun v σ' => v = .sl (bytesAV (trB t)) .none ∧ σ' = σ) := by
  refine s_rone (fun wf => ?_)
  unfold c_rone
  have hall := hm
  have hm := VL.hm
  have hfl : (t.sp.flatMap spanB).length ≤ 1000 * 234 := Nat.le_trans (spans_le (fun s hs => mayS_len (hall s hs).1)) (Nat.mul_le_mul_right _ hl)
  have hsl := spansB_len t.sp
  refine T.seq_k (fun K_h1 h1 => ?_)
  refine T.regi hm ?_
  simp only [↓reduceIte, namesOf, List.any, I.names, aopsI, astep, ev, setd, List.set, List.getD, List.getElem?_cons_zero, List.cons_append, List.nil_append, List.length_cons, List.length_nil, List.replicate, then_normal, Option.getD_some, Bool.or_false, Bool.false_eq_true, Nat.reduceAdd, Nat.reduceSub, AV.isAny, AV.cells, eq_self]
  have k0 : Like σ ((σ.up 2).set (σ.next + 0) (.obj [.int .u64 (t.id : Int), .sl (spsAV t.sp) .none])) := (Like.refl σ).box _
  have hb : ∀ n, (((σ.up 2).set (σ.next + 0) (.obj [.int .u64 (t.id : Int), .sl (spsAV t.sp) .none])).up n).res (σ.next + 0) = some (.obj [.int .u64 (t.id : Int), .sl (spsAV t.sp) .none]) := by simp
  generalize ((σ.up 2).set (σ.next + 0) (.obj [.int .u64 (t.id : Int), .sl (spsAV t.sp) .none])) = τ at k0 hb ⊢
  generalize σ.next + 0 = a at hb ⊢
  have hb0 : τ.res a = some (.obj [.int .u64 (t.id : Int), .sl (spsAV t.sp) .none]) := hb 0
  refine h1 _ _ ?_
  try clear h1 K_h1
  refine T.seq_k (fun K_h1 h1 => ?_)
  refine T.regi hm ?_
  simp only [↓reduceIte, namesOf, List.any, I.names, aopsI, astep, ev, setd, List.set, List.getD, List.getElem?_cons_zero, List.getElem?_cons_succ, then_normal, Option.getD_some, Bool.or_false, Bool.false_eq_true, up_zero, Nat.reduceAdd, ↓opt_def, ldc, List.map_cons, List.map_nil, hb0]
  refine (rspB_ok (by omega) hall).mono ?_
  rintro v τ1 ⟨rfl, rfl⟩
  try simp only [↓reduceIte, namesOf, List.any, I.names, aops, aopsI, aopsT, qstep, CPt, qget, Tbl.get, astep, ev, setd, List.set, List.getD, List.getElem?_cons_zero, List.getElem?_cons_succ, List.getElem?_nil, List.cons_append, List.nil_append, List.length_cons, List.length_nil, List.replicate, then_normal, inBlock_normal, Option.getD_some, Option.getD_none, Bool.or_false, Bool.or_true, Bool.true_or, Bool.false_or, Bool.false_eq_true, if_false, if_true, up_zero, Nat.reduceAdd, Nat.reduceSub, binv, ↓opt_def, AV.isAny, AV.cells, ldc, List.map_cons, List.map_nil, St.set_next, St.set_same, St.up_next, Int.natCast_nonneg, lt_len, le_len, Int.toNat_natCast, true_and, and_true, eq_self, reduceCtorEq, decide_true, List.length_singleton, er_int, er_bool, er_str, up_zero]
  refine h1 _ _ ?_
  try clear h1 K_h1
  have e2 := u64w (n := (spansB t.sp).length) (by omega)
  refine T.seq_k (fun K_h1 h1 => ?_)
  refine T.regi hm ?_
  simp only [↓reduceIte, namesOf, List.any, I.names, aopsI, astep, ev, setd, List.set, List.getD, List.getElem?_cons_zero, List.getElem?_cons_succ, List.length_cons, List.length_nil, then_normal, Option.getD_some, Bool.or_false, Bool.or_true, Nat.reduceAdd, ↓opt_def, ldc, List.map_cons, List.map_nil, eq_self, hb]
  refine (rbytes_ok (w := 8) (by omega) hi).mono ?_
  rintro v τ2 (⟨h0, _⟩ | ⟨h, o1, rfl⟩)
  · cases h0
  have q0 := Tq.in_ k0 o1
  have hx := o1.nx (i := 7) (by omega)
  have hat : τ2.res h = some (.tip 1) := o1.at_
  try simp only [bytesAV_len, e2]
  refine (rbytes_q (w := 4) (by omega) (by omega)).mono ?_
  rintro v τ3 ⟨rfl, rfl⟩
  try simp only [↓reduceIte, Nat.reduceAdd, eq_self, decide_true, srcOf, bytesAV_er, bytesAV_app, bytes_all, bytesAV_len, Bool.and_self, hat, beB_len, Nat.reduceAdd, Nat.reduceMul, Nat.reduceLeDiff, and_self]
  have hn0 := k0.next
  have q1 := q0.mv (g2 := τ1.next + 7) (by omega) hx
  generalize ((τ3.del h).set (τ1.next + 7) (.tip 1)) = τ4 at q1 ⊢
  generalize τ1.next + 7 = h' at q1 ⊢
  refine h1 _ _ ?_
  try clear h1 K_h1
  have hat1 := q1.ats
  have hle : decide ((12 + (spansB t.sp).length) * 1 ≤ 70368744177664 ∧ 12 + (spansB t.sp).length ≤ 4611686018427387904) = true := app_le (by omega)
  have hle' : decide ((8 + 4 + (spansB t.sp).length) * 1 ≤ 70368744177664 ∧ 8 + 4 + (spansB t.sp).length ≤ 4611686018427387904) = true := app_le (by omega)
  refine T.seq_k (fun K_h1 h1 => ?_)
  refine T.regi hm ?_
  simp only [↓reduceIte, namesOf, List.any, I.names, aopsI, astep, ev, setd, List.set, List.getD, List.getElem?_cons_zero, List.getElem?_cons_succ, List.length_cons, List.length_nil, then_normal, Option.getD_some, Bool.or_false, Bool.or_true, Nat.reduceAdd, eq_self, srcOf, bytesAV_er, bytesAV_app, bytes_all, bytesAV_len, List.length_append, Bool.and_self, hat1, beB_len, hle]
  have q2 := q1.app (n := 4) (i := 2) (by omega)
  refine h1 _ _ ?_
  try clear h1 K_h1
  exact T.ret (Fin.quietw rfl (Wk.sl _ _) ⟨nb_bytes _ _, trivial⟩ (q2.quiet wf) ⟨by rw [trB, List.append_assoc], rfl⟩)

set_option maxHeartbeats 1000000 in
theorem rpage_ok {l : List Tc} {g : Ver} {σ : St} (hl : l.length ≤ 65535) (hd : ∀ t ∈ l, t.id < 18446744073709551616 ∧ t.sp.length ≤ 100 ∧ ∀ s ∈ t.sp, mayS s = true ∧ s.wd) :
    ACalls Try.prog n_rpage [.sl (tcsAV l) g] σ (fun v σ' => v = .sl (bytesAV (pageB l)) .none ∧ σ' = σ) := by
  refine s_rpage (fun wf => ?_)
  unfold c_rpage
  have htl : ∀ t ∈ l, (trB t).length ≤ 30000 := fun t ht => by
    obtain ⟨_, h3, h4⟩ := hd t ht
    rw [trB_len, spansB_len]
    have : (t.sp.flatMap spanB).length ≤ 100 * 234 := Nat.le_trans (spans_le (fun s hs => mayS_len (h4 s hs).1)) (Nat.mul_le_mul_right _ h3)
    omega
  have e2 := u64w (n := l.length) (by omega)
  refine T.seq_k (fun K_h0 h0 => ?_)
  refine T.regi hm ?_
  simp only [↓reduceIte, namesOf, List.any, I.names, aopsI, astep, ev, setd, List.set, List.cons_append, List.nil_append, List.length_cons, List.length_nil, List.replicate, then_normal, Bool.or_false, Bool.false_eq_true, up_zero, Nat.reduceAdd, Nat.reduceSub]
  refine h0 _ _ ?_
  try clear h0 K_h0
  refine T.seq_k (fun K_h1 h1 => ?_)
  refine T.regi hm ?_
  simp only [↓reduceIte, namesOf, List.any, I.names, aopsI, astep, ev, setd, List.set, List.getD, List.getElem?_cons_zero, List.getElem?_cons_succ, then_normal, Option.getD_some, Bool.or_false, Bool.false_eq_true, up_zero, List.map_cons, List.map_nil, tcs_len, e2]
  refine (rbytes_ok (w := 2) (by omega) (by omega)).mono ?_
  rintro v σ1 (⟨h0, _⟩ | ⟨h, o1, rfl⟩)
  · cases h0
  have q0 := Tq.one o1
  clear o1
  try simp only [↓reduceIte, namesOf, List.any, I.names, aops, aopsI, aopsT, qstep, CPt, qget, Tbl.get, astep, ev, setd, List.set, List.getD, List.getElem?_cons_zero, List.getElem?_cons_succ, List.getElem?_nil, List.cons_append, List.nil_append, List.length_cons, List.length_nil, List.replicate, then_normal, inBlock_normal, Option.getD_some, Option.getD_none, Bool.or_false, Bool.or_true, Bool.true_or, Bool.false_or, Bool.false_eq_true, if_false, if_true, up_zero, Nat.reduceAdd, Nat.reduceSub, binv, ↓opt_def, AV.isAny, AV.cells, ldc, List.map_cons, List.map_nil, St.set_next, St.set_same, St.up_next, Int.natCast_nonneg, lt_len, le_len, Int.toNat_natCast, true_and, and_true, eq_self, reduceCtorEq, decide_true, List.length_singleton, er_int, er_bool, er_str, up_zero]
  refine h1 _ _ ?_
  try clear h1 K_h1
  refine T.seq_k (fun K_h1 h1 => ?_)
  refine T.seq_k (fun K_h0 h0 => ?_)
  refine T.regi hm ?_
  simp only [↓reduceIte, namesOf, List.any, I.names, aopsI, astep, ev, setd, List.set, then_normal, Bool.or_false, Bool.false_eq_true, up_zero]
  refine h0 _ _ ?_
  try clear h0 K_h0
  refine T.block ?_
  refine T.gh (Gh.keep [0, 3, 4]) ?_
  refine T.loopi (fun i ρ t => (∃ g1, Tq σ t g1 1 ∧ ρ = [.sl (tcsAV l) g, .any, .any, .sl (bytesAV (beB 2 l.length ++ (l.take i).flatMap trB)) (.tip g1), .int .i64 (i : Int)] ++ List.replicate 19 .any))
    l.length 0 (Nat.zero_le _) ⟨h, q0, by rw [List.take_zero, List.flatMap_nil, List.append_nil]; rfl⟩ ?_
  clear q0 h
  rintro i ρ t hi ⟨h, q0, rfl⟩
  refine T.seq_k (fun K_h2 h2 => ?_)
  refine T.seq_k (fun K_h0 h0 => ?_)
  refine T.regi hm ?_
  simp only [↓reduceIte, namesOf, List.any, I.names, aopsI, astep, ev, setd, List.set, List.getD, List.getElem?_cons_zero, List.getElem?_cons_succ, List.cons_append, List.nil_append, List.replicate, then_normal, Option.getD_some, Bool.or_false, Bool.false_eq_true, up_zero, binv, ↓opt_def, lt_len, eq_self, tcs_len]
  refine h0 _ _ ?_
  try clear h0 K_h0
  by_cases hil : i < l.length
  case neg =>
    refine T.cond (b := false) (by simp [ev]; omega) (fun h => by cases h) (fun _ => T.exit ?_)
    have : i = l.length := by omega
    subst this
    rw [List.take_length]
    try simp only [List.cons_append, List.nil_append, List.replicate, then_normal, inBlock_exit, then_exit]
    refine h1 _ _ ?_
    try clear h1 K_h1
    have hfl : (l.flatMap trB).length ≤ 65535 * 30000 := Nat.le_trans (trs_le htl) (Nat.mul_le_mul_right _ hl)
    refine T.seq_k (fun K_h1 h1 => ?_)
    refine T.regi hm ?_
    simp only [↓reduceIte, namesOf, List.any, I.names, aopsI, astep, ev, setd, List.set, List.getD, List.getElem?_cons_zero, List.getElem?_cons_succ, then_normal, Option.getD_some, Bool.or_false, Bool.false_eq_true, up_zero, List.map_cons, List.map_nil]
    refine (rseal_q (by rw [List.length_append, beB_len]; omega)).mono ?_
    rintro v t2 ⟨rfl, rfl⟩
    try simp only [↓reduceIte, namesOf, List.any, I.names, aops, aopsI, aopsT, qstep, CPt, qget, Tbl.get, astep, ev, setd, List.set, List.getD, List.getElem?_cons_zero, List.getElem?_cons_succ, List.getElem?_nil, List.cons_append, List.nil_append, List.length_cons, List.length_nil, List.replicate, then_normal, inBlock_normal, Option.getD_some, Option.getD_none, Bool.or_false, Bool.or_true, Bool.true_or, Bool.false_or, Bool.false_eq_true, if_false, if_true, up_zero, Nat.reduceAdd, Nat.reduceSub, binv, ↓opt_def, AV.isAny, AV.cells, ldc, List.map_cons, List.map_nil, St.set_next, St.set_same, St.up_next, Int.natCast_nonneg, lt_len, le_len, Int.toNat_natCast, true_and, and_true, eq_self, reduceCtorEq, decide_true, List.length_singleton, er_int, er_bool, er_str, up_zero]
    refine h1 _ _ ?_
    try clear h1 K_h1
    exact T.ret (Fin.quiet rfl ⟨nb_bytes _ _, trivial⟩ (q0.quiet wf) ⟨rfl, rfl⟩)
  refine T.cond (b := true) (by simp [ev]; omega) (fun _ => T.skip ?_) (fun h => by cases h)
  refine h2 _ _ ?_
  try clear h2 K_h2
  have hiw := inc64' hil (by omega)
  have hilI : (i : Int) < (l.length : Int) := by omega
  have hg := tcs_get hil
  obtain ⟨d1, d2, d3⟩ := hd _ (List.getElem_mem hil)
  have hfs := flat_snoc trB hil
  have hxl := htl _ (List.getElem_mem hil)
  have hpl : ((l.take i).flatMap trB).length ≤ 65535 * 30000 := by
    refine Nat.le_trans (trs_le (fun t ht => htl t (List.mem_of_mem_take ht))) (Nat.mul_le_mul_right _ ?_)
    rw [List.length_take]; omega
  generalize l[i] = x at hg d1 d2 d3 hfs hxl
  rw [tcav'] at hg
  have hat := q0.ats
  have hle : decide ((2 + ((l.take i).flatMap trB).length + (trB x).length) * 1 ≤ 70368744177664 ∧ 2 + ((l.take i).flatMap trB).length + (trB x).length ≤ 4611686018427387904) = true := app_le (by omega)
  refine T.seq_k (fun K_h2 h2 => ?_)
  refine T.block ?_
  refine T.regi hm ?_
  simp only [↓reduceIte, namesOf, List.any, I.names, aopsI, astep, ev, setd, List.set, List.getD, List.getElem?_cons_zero, List.getElem?_cons_succ, List.cons_append, List.nil_append, List.length_cons, List.length_nil, List.replicate, then_normal, inBlock_normal, Option.getD_some, Bool.or_false, Bool.or_true, Nat.reduceAdd, ↓opt_def, AV.cells, ldc, List.map_cons, List.map_nil, Int.natCast_nonneg, Int.toNat_natCast, and_true, eq_self, tcs_len, hg, hilI, Nat.zero_add, List.take, List.drop, Nat.reduceLeDiff]
  refine (rone_ok d1 (by omega) d3).mono ?_
  rintro v t2 ⟨rfl, rfl⟩
  try simp only [↓reduceIte, eq_self, srcOf, bytesAV_er, bytesAV_app, bytes_all, bytesAV_len, List.length_append, Bool.and_self, hat, beB_len, hle]
  have q1 := q0.app (n := 8) (i := 6) (by omega)
  refine h2 _ _ ?_
  try clear h2 K_h2
  refine T.regi hm ?_
  simp only [↓reduceIte, namesOf, List.any, I.names, aopsI, astep, ev, setd, List.set, List.getD, List.getElem?_cons_zero, List.getElem?_cons_succ, List.cons_append, List.nil_append, List.replicate, then_normal, Option.getD_some, Bool.or_false, Bool.false_eq_true, up_zero, binv, ↓opt_def, eq_self, hiw]
  refine ⟨hil, _, _, Gh.keep [0, 3, 4], _, q1, ?_⟩
  rw [hfs, ← List.append_assoc]; rfl
end Go.VL
