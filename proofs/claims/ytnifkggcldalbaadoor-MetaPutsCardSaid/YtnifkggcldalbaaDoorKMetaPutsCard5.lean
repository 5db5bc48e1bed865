/- The card of MetaPuts. -/
import Derived.Test.YtnifkggcldalbaaDoorKMetaPutsCard4
import Derived.Test.YtnifkggcldalbaaDoorChecked

set_option linter.unusedSimpArgs false
set_option linter.unusedVariables false

namespace Go.VL

open Go.Proofs

theorem nb_strs (m : Nat) : ∀ ps : List (List UInt8), nbs m (strsAV ps)
  | [] => trivial
  | _ :: ps => ⟨trivial, nb_strs m ps⟩

theorem rep_str (N : Nat) : (List.replicate N (AV.str ⟨#[]⟩)).flatMap AV.cells = List.replicate N (AV.str ⟨#[]⟩) := by
  induction N with
  | zero => rfl
  | succ n ih => rw [List.replicate_succ, List.flatMap_cons, ih]; rfl

set_option maxRecDepth 10000 in
set_option maxHeartbeats 1000000 in
theorem gsplit_ok {l : List UInt8} {σ : St} (hl : l.length ≤ 1000000) : ACalls Tryd.prog n_gsplit [.str ⟨l.toArray⟩, .str ⟨[47].toArray⟩, .int .i64 0, .int .i64 (-1)] σ (fun v σ' => v = .sl (strsAV (splitB l)) .none ∧ σ' = σ) := by
  refine s_gsplit (fun wf => ?_)
  unfold c_gsplit
  have e0 : ((-1 : Int) == 0) = false := rfl
  have q0 : sbinv .eql ⟨[47].toArray⟩ ⟨#[]⟩ = some (.bool false) := by simp only [sbinv, ba_eq [47] []]; rfl
  have e1 : decide ((-1 : Int) < 0) = true := rfl
  have h1s : ((⟨[47].toArray⟩ : ByteArray).size : Int) = 1 := rfl
  have hcl : l.count 47 ≤ l.length := List.count_le_length
  have hcount := scount_ok (l := l) (σ := σ)
  have hlen0 := split_len l
  generalize hn : l.count 47 = n at hcl hcount hlen0
  obtain ⟨N, hN⟩ : ∃ N, N = n + 1 := ⟨_, rfl⟩
  have w1 : IntKind.i64.wrap ((n : Int) + 1) = (N : Int) := by rw [wrap64 (by omega) (by omega)]; omega
  have w2 : IntKind.i64.wrap ((l.length : Int) + 1) = ((l.length + 1 : Nat) : Int) := by rw [wrap64 (by omega) (by omega)]; omega
  have w3 : IntKind.i64.wrap ((N : Int) - 1) = (n : Int) := by rw [wrap64 (by omega) (by omega)]; omega
  have hmin : (if ((l.length + 1 : Nat) : Int) < (N : Int) then ((l.length + 1 : Nat) : Int) else (N : Int)) = (N : Int) := if_neg (by omega)
  have hsz : ((⟨l.toArray⟩ : ByteArray).size : Int) = (l.length : Int) := by rw [sz_mk]
  refine T.seq_k (fun K_h0 h0 => ?_)
  refine T.regi hm ?_
  simp only [↓reduceIte, namesOf, List.any, I.names, aopsI, astep, ev, setd, List.set, List.cons_append, List.nil_append, List.length_cons, List.length_nil, List.replicate, then_normal, Bool.or_false, Bool.false_eq_true, up_zero, Nat.reduceAdd, Nat.reduceSub]
  refine h0 _ _ ?_
  try clear h0 K_h0
  refine T.seq_k (fun K_h1 h1 => ?_)
  refine T.seq_k (fun K_h0 h0 => ?_)
  refine T.regi hm ?_
  simp only [↓reduceIte, namesOf, List.any, I.names, aopsI, astep, ev, setd, List.set, List.getD, List.getElem?_cons_zero, List.getElem?_cons_succ, then_normal, Option.getD_some, Bool.or_false, Bool.false_eq_true, up_zero, binv, ↓opt_def, eq_self, e0]
  refine h0 _ _ ?_
  try clear h0 K_h0
  refine T.cond rfl (fun h => by cases h) (fun _ => T.skip ?_)
  refine h1 _ _ ?_
  try clear h1 K_h1
  refine T.seq_k (fun K_h1 h1 => ?_)
  refine T.seq_k (fun K_h0 h0 => ?_)
  refine T.regi hm ?_
  simp only [↓reduceIte, namesOf, List.any, I.names, aopsI, astep, ev, setd, List.set, List.getD, List.getElem?_cons_zero, List.getElem?_cons_succ, then_normal, Option.getD_some, Bool.or_false, Bool.false_eq_true, up_zero, ↓opt_def, q0]
  refine h0 _ _ ?_
  try clear h0 K_h0
  refine T.cond rfl (fun h => by cases h) (fun _ => T.skip ?_)
  refine h1 _ _ ?_
  try clear h1 K_h1
  refine T.seq_k (fun K_h1 h1 => ?_)
  refine T.seq_k (fun K_h0 h0 => ?_)
  refine T.regi hm ?_
  simp only [↓reduceIte, namesOf, List.any, I.names, aopsI, astep, ev, setd, List.set, List.getD, List.getElem?_cons_zero, List.getElem?_cons_succ, then_normal, Option.getD_some, Bool.or_false, Bool.false_eq_true, up_zero, binv, ↓opt_def, eq_self, e1]
  refine h0 _ _ ?_
  try clear h0 K_h0
  refine T.cond rfl (fun _ => ?_) (fun h => by cases h)
  refine T.regi hm ?_
  simp only [↓reduceIte, namesOf, List.any, I.names, aopsI, astep, ev, setd, List.set, List.getD, List.getElem?_cons_zero, List.getElem?_cons_succ, then_normal, Option.getD_some, Bool.or_false, Bool.false_eq_true, up_zero, binv, ↓opt_def, List.map_cons, List.map_nil]
  refine hcount.mono ?_
  rintro v σ ⟨rfl, rfl⟩
  try simp only [↓reduceIte, eq_self, w1]
  refine h1 _ _ ?_
  try clear h1 K_h1
  refine T.seq_k (fun K_h0 h0 => ?_)
  refine T.regi hm ?_
  simp only [↓reduceIte, namesOf, List.any, I.names, aopsI, astep, ev, setd, List.set, List.getD, List.getElem?_cons_zero, List.getElem?_cons_succ, then_normal, Option.getD_some, Bool.or_false, Bool.false_eq_true, up_zero, binv, ↓opt_def, List.map_cons, List.map_nil, eq_self, hsz, w2, mn2, List.foldlM, bind, Option.bind, pure, hmin]
  refine h0 _ _ ?_
  try clear h0 K_h0
  have hmk : ((0 : Int) ≤ (N : Int) ∧ (N : Int) ≤ (N : Int) ∧ (N : Int) * ((16 : Nat) : Int) ≤ 140737488355328 ∧ (N : Int) ≤ 9223372036854775807 ∧ AV.fits 1 (.str ⟨#[]⟩) = true ∧ (N : Int) = (N : Int)) := ⟨by omega, by omega, by omega, by omega, rfl, rfl⟩
  have hrep := rep_str N
  refine T.seq_k (fun K_h0 h0 => ?_)
  refine T.regi hm ?_
  simp only [↓reduceIte, namesOf, List.any, I.names, aopsI, astep, ev, setd, List.set, List.getD, List.getElem?_cons_zero, List.getElem?_cons_succ, List.length_cons, List.length_nil, then_normal, Option.getD_some, Bool.or_false, Bool.or_true, Nat.reduceAdd, Int.toNat_natCast, eq_self, hmk, held, hrep, List.length_replicate, and_self]
  refine h0 _ _ ?_
  try clear h0 K_h0
  have hq0 : ((σ.up 3).set (σ.next + 1) (.obj (List.replicate N (AV.str ⟨#[]⟩)))).res (σ.next + 1) = some (.obj (List.replicate N (AV.str ⟨#[]⟩))) := St.set_same _ _ _
  have hL0 : Like σ ((σ.up 3).set (σ.next + 1) (.obj (List.replicate N (AV.str ⟨#[]⟩)))) := (Like.refl σ).box (n := 3) (i := 1) _
  have hlo : σ.next ≤ σ.next + 1 := by omega
  have hlt0 : σ.next + 1 < ((σ.up 3).set (σ.next + 1) (.obj (List.replicate N (AV.str ⟨#[]⟩)))).next := by simp
  generalize ((σ.up 3).set (σ.next + 1) (.obj (List.replicate N (AV.str ⟨#[]⟩)))) = t0 at hq0 hL0 hlt0 ⊢
  generalize σ.next + 1 = q at hq0 hlo hlt0 ⊢
  clear hmk hrep hmin hcount
  refine T.seq_k (fun K_h0 h0 => ?_)
  refine T.regi hm ?_
  simp only [↓reduceIte, namesOf, List.any, I.names, aopsI, astep, ev, setd, List.set, List.getD, List.getElem?_cons_zero, List.getElem?_cons_succ, then_normal, Option.getD_some, Bool.or_false, Bool.false_eq_true, up_zero, binv, ↓opt_def, eq_self, w3]
  refine h0 _ _ ?_
  try clear h0 K_h0
  refine T.seq_k (fun K_h0 h0 => ?_)
  refine T.regi hm ?_
  simp only [↓reduceIte, namesOf, List.any, I.names, aopsI, astep, ev, setd, List.set, then_normal, Bool.or_false, Bool.false_eq_true, up_zero]
  refine h0 _ _ ?_
  try clear h0 K_h0
  refine T.seq_k (fun K_h1 h1 => ?_)
  refine T.block ?_
  refine T.gh (Gh.keep [0, 1, 2, 3, 9, 10]) ?_
  refine T.loopi (fun i ρ t => ∃ done rest, splitB l = done ++ splitB rest ∧ done.length = i ∧ i + rest.count 47 = n ∧ rest.length ≤ 1000000 ∧ Like σ t ∧ q < t.next ∧ t.res q = some (.obj (strsAV done ++ List.replicate (N - i) (AV.str ⟨#[]⟩))) ∧
      ρ = [.str ⟨rest.toArray⟩, .str ⟨[47].toArray⟩, .int .i64 0, .int .i64 (n : Int)] ++ List.replicate 5 .any ++ [.ref q 0 N, .int .i64 (i : Int)] ++ List.replicate 55 .any)
    n 0 (Nat.zero_le _) ⟨[], l, rfl, rfl, by omega, hl, hL0, hlt0, hq0, rfl⟩ ?_
  clear hq0 hL0 hlt0
  rintro i ρ t hi ⟨done, rest, hsp, hdl, hcn, hrl, hL, hlt, hob, rfl⟩
  have hrs : ((⟨rest.toArray⟩ : ByteArray).size : Int) = (rest.length : Int) := by rw [sz_mk]
  have hob' : t.res q = some (.obj (strsAV done ++ (AV.str ⟨#[]⟩) :: List.replicate (N - (i + 1)) (AV.str ⟨#[]⟩))) := by
    rw [hob, show N - i = (N - (i + 1)) + 1 by omega]; rfl
  have hspl : ∀ x : List UInt8, splice (strsAV done ++ (AV.str ⟨#[]⟩) :: List.replicate (N - (i + 1)) (AV.str ⟨#[]⟩)) i [AV.str ⟨x.toArray⟩] = strsAV (done ++ [x]) ++ List.replicate (N - (i + 1)) (AV.str ⟨#[]⟩) := fun x => by
    rw [show i = (strsAV done).length by rw [strs_len]; exact hdl.symm, splice_mid]
    simp [strsAV]
  have hle : i + 1 ≤ (strsAV done ++ (AV.str ⟨#[]⟩) :: List.replicate (N - (i + 1)) (AV.str ⟨#[]⟩)).length := by rw [List.length_append, strs_len]; simp; omega
  have hiN : (i : Int) < (N : Int) := by omega
  generalize hrow : strsAV done ++ (AV.str ⟨#[]⟩) :: List.replicate (N - (i + 1)) (AV.str ⟨#[]⟩) = row at hob' hspl hle
  have wi : IntKind.i64.wrap ((i : Int) + 1) = ((i + 1 : Nat) : Int) := by rw [wrap64 (by omega) (by omega)]; omega
  refine T.seq_k (fun K_h2 h2 => ?_)
  by_cases hil : i < n
  case neg =>
    have hin : i = n := by omega
    have e : decide ((i : Int) < (n : Int)) = false := decide_eq_false (by omega)
    refine T.seq_k (fun K_h0 h0 => ?_)
    refine T.regi hm ?_
    simp only [↓reduceIte, namesOf, List.any, I.names, aopsI, astep, ev, setd, List.set, List.getD, List.getElem?_cons_zero, List.getElem?_cons_succ, List.cons_append, List.nil_append, List.replicate, then_normal, Option.getD_some, Bool.or_false, Bool.false_eq_true, up_zero, binv, ↓opt_def, eq_self, e]
    refine h0 _ _ ?_
    try clear h0 K_h0
    refine T.cond rfl (fun h => by cases h) (fun _ => T.exit ?_)
    try simp only [List.cons_append, List.nil_append, List.replicate, then_normal, inBlock_exit, then_exit]
    refine h1 _ _ ?_
    try clear h1 K_h1
    have hno : 47 ∉ rest := List.count_eq_zero.1 (by omega)
    have hall : splitB l = done ++ [rest] := by rw [hsp, split_no hno]
    refine T.seq_k (fun K_h0 h0 => ?_)
    refine T.regi hm ?_
    simp only [↓reduceIte, namesOf, List.any, I.names, aopsI, astep, ev, setd, List.set, List.getD, List.getElem?_cons_zero, List.getElem?_cons_succ, List.length_cons, List.length_nil, then_normal, Option.getD_some, Bool.or_false, Bool.false_eq_true, up_zero, AV.isAny, AV.cells, Int.natCast_nonneg, Int.toNat_natCast, and_true, eq_self, decide_true, hob', hiN, hle, hspl, AV.fits, AV.one, List.all_cons, List.all_nil, Nat.reduceBEq, Bool.not_false, Bool.and_self, Nat.zero_add, Nat.mul_one]
    refine h0 _ _ ?_
    try clear h0 K_h0
    have hz : N - (i + 1) = 0 := by omega
    rw [hz, ← hall, List.replicate_zero, List.append_nil]
    have hob2 : (t.set q (.obj (strsAV (splitB l)))).res q = some (.obj (strsAV (splitB l))) := St.set_same _ _ _
    have hL2 : Like σ (t.set q (.obj (strsAV (splitB l)))) := hL.set _ hlo
    generalize (t.set q (.obj (strsAV (splitB l)))) = u at hob2 hL2 ⊢
    have wN : IntKind.i64.wrap ((i : Int) + 1) = (N : Int) := by rw [wi]; omega
    have hN0 : ((0 : Int) = (N : Int)) = False := eq_false (by omega)
    have hNs : ((N : Int) - 0).toNat = N := by omega
    have hN1 : (0 : Int) ≤ (N : Int) ∧ (N : Int) ≤ (N : Int) := by omega
    refine T.seq_k (fun K_h0 h0 => ?_)
    refine T.regi hm ?_
    simp only [↓reduceIte, namesOf, List.any, I.names, aopsI, astep, ev, setd, List.set, List.getD, List.getElem?_cons_zero, List.getElem?_cons_succ, then_normal, Option.getD_some, Bool.or_false, Bool.false_eq_true, up_zero, binv, ↓opt_def, eq_self, wN, idx, hN0, hNs, hN1, Int.le_refl, and_self, Int.toNat_zero, Nat.zero_mul, Nat.zero_add]
    refine h0 _ _ ?_
    try clear h0 K_h0
    refine T.gh (Gh.keep [8]) ?_
    refine T.gh (Gh.freeze (t := 8) (k := 1) (xs := strsAV (splitB l)) rfl hob2 (by rw [strs_len, hlen0, hN]) (fun x hx => by obtain ⟨c, _, rfl⟩ := List.mem_map.1 hx; rfl) (by rw [strs_cells, List.drop_zero, List.take_of_length_le (by rw [strs_len, hlen0, hN]; omega)]) (Nat.zero_le _)) ?_
    exact T.ret (Fin.quiet (xs := [.sl (strsAV (splitB l)) .none]) rfl ⟨nb_strs _ _, trivial⟩ ((hL2.del hlo).quiet wf) ⟨rfl, rfl⟩)
  have e : decide ((i : Int) < (n : Int)) = true := decide_eq_true (by omega)
  obtain ⟨a, b, hrab, ha, hix, hsb, hcb⟩ := cut_at (l := rest) (by omega)
  have hral : rest.length = a.length + 1 + b.length := by rw [hrab]; simp; omega
  have hex1 : (⟨rest.toArray⟩ : ByteArray).extract 0 a.length = ⟨a.toArray⟩ := by rw [ba_cut, hrab]; simp
  have hex2 : (⟨rest.toArray⟩ : ByteArray).extract (a.length + 1) rest.length = ⟨b.toArray⟩ := by
    rw [ba_cut, List.take_length, hrab, ← List.drop_drop, List.drop_left' rfl]; simp
  have hidx := sindex_ok (l := rest) (c := 47) (σ := t)
  rw [hix] at hidx
  have hneg : decide ((a.length : Int) < 0) = false := decide_eq_false (by omega)
  have wa0 : IntKind.i64.wrap ((a.length : Int) + 0) = (a.length : Int) := by rw [wrap64 (by omega) (by omega)]; omega
  have wa1 : IntKind.i64.wrap ((a.length : Int) + 1) = ((a.length + 1 : Nat) : Int) := by rw [wrap64 (by omega) (by omega)]; omega
  have ha1 : (a.length : Int) ≤ (rest.length : Int) := by omega
  have ha2 : ((a.length + 1 : Nat) : Int) ≤ (rest.length : Int) := by omega
  have haz : (0 : Int) ≤ (a.length : Int) := by omega
  have haz1 : (0 : Int) ≤ ((a.length + 1 : Nat) : Int) := by omega
  refine T.seq_k (fun K_h0 h0 => ?_)
  refine T.regi hm ?_
  simp only [↓reduceIte, namesOf, List.any, I.names, aopsI, astep, ev, setd, List.set, List.getD, List.getElem?_cons_zero, List.getElem?_cons_succ, List.cons_append, List.nil_append, List.replicate, then_normal, Option.getD_some, Bool.or_false, Bool.false_eq_true, up_zero, binv, ↓opt_def, eq_self, e]
  refine h0 _ _ ?_
  try clear h0 K_h0
  refine T.cond rfl (fun _ => T.skip ?_) (fun h => by cases h)
  refine h2 _ _ ?_
  try clear h2 K_h2
  refine T.block ?_
  refine T.seq_k (fun K_h3 h3 => ?_)
  refine T.regi hm ?_
  simp only [↓reduceIte, namesOf, List.any, I.names, aopsI, astep, ev, setd, List.set, List.getD, List.getElem?_cons_zero, List.getElem?_cons_succ, List.cons_append, List.nil_append, List.replicate, then_normal, Option.getD_some, Bool.or_false, Bool.false_eq_true, up_zero, List.map_cons, List.map_nil]
  refine hidx.mono ?_
  rintro v t1 ⟨rfl, rfl⟩
  try simp only [↓reduceIte, namesOf, List.any, I.names, aops, aopsI, aopsT, qstep, CPt, qget, Tbl.get, astep, ev, setd, List.set, List.getD, List.getElem?_cons_zero, List.getElem?_cons_succ, List.getElem?_nil, List.cons_append, List.nil_append, List.length_cons, List.length_nil, List.replicate, then_normal, inBlock_normal, Option.getD_some, Option.getD_none, Bool.or_false, Bool.or_true, Bool.true_or, Bool.false_or, Bool.false_eq_true, if_false, if_true, up_zero, Nat.reduceAdd, Nat.reduceSub, binv, ↓opt_def, AV.isAny, AV.cells, ldc, List.map_cons, List.map_nil, St.set_next, St.set_same, St.up_next, Int.natCast_nonneg, lt_len, le_len, Int.toNat_natCast, true_and, and_true, eq_self, reduceCtorEq, decide_true, List.length_singleton, er_int, er_bool, er_str, srcR, up_zero]
  refine h3 _ _ ?_
  try clear h3 K_h3
  refine T.seq_k (fun K_h3 h3 => ?_)
  refine T.seq_k (fun K_h0 h0 => ?_)
  refine T.regi hm ?_
  simp only [↓reduceIte, namesOf, List.any, I.names, aopsI, astep, ev, setd, List.set, List.getD, List.getElem?_cons_zero, List.getElem?_cons_succ, List.cons_append, List.nil_append, List.replicate, then_normal, Option.getD_some, Bool.or_false, Bool.false_eq_true, up_zero, binv, ↓opt_def, eq_self, hneg]
  refine h0 _ _ ?_
  try clear h0 K_h0
  refine T.cond rfl (fun h => by cases h) (fun _ => T.skip ?_)
  refine h3 _ _ ?_
  try clear h3 K_h3
  refine T.seq_k (fun K_h0 h0 => ?_)
  refine T.regi hm ?_
  simp only [↓reduceIte, namesOf, List.any, I.names, aopsI, astep, ev, setd, List.set, List.getD, List.getElem?_cons_zero, List.getElem?_cons_succ, List.cons_append, List.nil_append, List.length_cons, List.length_nil, List.replicate, then_normal, Option.getD_some, Bool.or_false, Bool.false_eq_true, up_zero, binv, ↓opt_def, AV.isAny, AV.cells, Int.natCast_nonneg, Int.toNat_natCast, eq_self, decide_true, hob', hiN, hle, hspl, hrs, wa0, idx, haz, ha1, hex1, Int.le_refl, and_self, Int.toNat_zero, AV.fits, AV.one, List.all_cons, List.all_nil, Nat.reduceBEq, Bool.not_false, Bool.and_self, Nat.zero_add, Nat.mul_one]
  refine h0 _ _ ?_
  try clear h0 K_h0
  refine T.seq_k (fun K_h0 h0 => ?_)
  refine T.regi hm ?_
  simp only [↓reduceIte, namesOf, List.any, I.names, aopsI, astep, ev, setd, List.set, List.getD, List.getElem?_cons_zero, List.getElem?_cons_succ, List.cons_append, List.nil_append, List.replicate, then_normal, Option.getD_some, Bool.or_false, Bool.false_eq_true, up_zero, binv, ↓opt_def, Int.toNat_natCast, eq_self, hrs, h1s, wa1, idx, haz1, ha2, hex2, Int.le_refl, and_self]
  refine h0 _ _ ?_
  try clear h0 K_h0
  refine T.regi hm ?_
  simp only [↓reduceIte, namesOf, List.any, I.names, aopsI, astep, ev, setd, List.set, List.getD, List.getElem?_cons_zero, List.getElem?_cons_succ, List.cons_append, List.nil_append, List.replicate, then_normal, inBlock_normal, Option.getD_some, Bool.or_false, Bool.false_eq_true, up_zero, binv, ↓opt_def, eq_self, wi]
  exact ⟨hil, _, _, Gh.keep [0, 1, 2, 3, 9, 10], done ++ [a], b, by rw [hsp, hsb]; simp, by simp [hdl], by omega, by omega, hL.set _ hlo, hlt, St.set_same _ _ _, rfl⟩

theorem split_ok {l : List UInt8} {σ : St} (hl : l.length ≤ 1000000) : ACalls Tryd.prog n_split [.str ⟨l.toArray⟩, .str ⟨[47].toArray⟩] σ (fun v σ' => v = .sl (strsAV (splitB l)) .none ∧ σ' = σ) := by
  refine s_split (fun wf => ?_)
  unfold c_split
  refine T.seq_k (fun K_h0 h0 => ?_)
  refine T.regi hm ?_
  simp only [↓reduceIte, namesOf, List.any, I.names, aopsI, astep, ev, setd, List.set, List.cons_append, List.nil_append, List.length_cons, List.length_nil, List.replicate, then_normal, Bool.or_false, Bool.false_eq_true, up_zero, Nat.reduceAdd, Nat.reduceSub]
  refine h0 _ _ ?_
  try clear h0 K_h0
  refine T.seq_k (fun K_h1 h1 => ?_)
  refine T.regi hm ?_
  simp only [↓reduceIte, namesOf, List.any, I.names, aopsI, astep, ev, setd, List.set, List.getD, List.getElem?_cons_zero, List.getElem?_cons_succ, then_normal, Option.getD_some, Bool.or_false, Bool.false_eq_true, up_zero, List.map_cons, List.map_nil]
  refine (gsplit_ok hl).mono ?_
  rintro v σ1 ⟨rfl, rfl⟩
  try simp only [↓reduceIte, namesOf, List.any, I.names, aops, aopsI, aopsT, qstep, CPt, qget, Tbl.get, astep, ev, setd, List.set, List.getD, List.getElem?_cons_zero, List.getElem?_cons_succ, List.getElem?_nil, List.cons_append, List.nil_append, List.length_cons, List.length_nil, List.replicate, then_normal, inBlock_normal, Option.getD_some, Option.getD_none, Bool.or_false, Bool.or_true, Bool.true_or, Bool.false_or, Bool.false_eq_true, if_false, if_true, up_zero, Nat.reduceAdd, Nat.reduceSub, binv, ↓opt_def, AV.isAny, AV.cells, ldc, List.map_cons, List.map_nil, St.set_next, St.set_same, St.up_next, Int.natCast_nonneg, lt_len, le_len, Int.toNat_natCast, true_and, and_true, eq_self, reduceCtorEq, decide_true, List.length_singleton, er_int, er_bool, er_str, srcR, up_zero]
  refine h1 _ _ ?_
  try clear h1 K_h1
  exact T.ret (Fin.quiet rfl ⟨nb_strs _ _, trivial⟩ (fun _ _ h => h) ⟨rfl, rfl⟩)

end Go.VL

namespace Go.VL

open Go.Proofs

/-- the text is just the number's three digits -/
def canA (l : List UInt8) (n : Nat) : Prop := n < 1000 ∧ l = dg 10 3 n

theorem canA.len {l : List UInt8} {n : Nat} (h : canA l n) : l.length = 3 := by rw [h.2, dg_len]

theorem canA.digit {l : List UInt8} {n i : Nat} {c : UInt8} (h : canA l n) (hc : l[i]? = some c) : i < 3 ∧ c.toNat = 48 + n / 10 ^ (2 - i) % 10 := by
  have hi : i < l.length := (List.getElem?_eq_some_iff.1 hc).1
  rw [h.len] at hi
  rw [h.2, dg_get 10 3 n i hi] at hc
  refine ⟨hi, ?_⟩
  have h1 : n / 10 ^ (3 - 1 - i) % 10 < 10 := Nat.mod_lt _ (by omega)
  have h2 := dgc_facts (n / 10 ^ (3 - 1 - i) % 10) (by omega)
  rw [← Option.some.inj hc]
  show _ = 48 + n / 10 ^ (3 - 1 - i) % 10
  omega

theorem i64_rng (x : Int) : -9223372036854775808 ≤ IntKind.i64.wrap x ∧ IntKind.i64.wrap x ≤ 9223372036854775807 := by
  simp [IntKind.wrap, IntKind.bits, IntKind.signed]; split <;> omega

def i64r (k : Int) : Prop := -9223372036854775808 ≤ k ∧ k ≤ 9223372036854775807

/-- what reading a number tells -/
def AOut (t : Nat) (x : Int → AV) (l : List UInt8) (v : AV) : Prop :=
  ∃ k e, i64r k ∧ v = .tup [.int .i64 k, e] ∧ ((e = .nili ∧ ∀ n, canA l n → k = (n : Int)) ∨ (∃ c, (c = 1 ∨ c = 2) ∧ e = .iface t (x c)) ∧ ∀ n, ¬ canA l n)

set_option maxRecDepth 10000 in
set_option maxHeartbeats 1000000 in
theorem iparI_ok {l : List UInt8} {σ : St} (hl : l.length ≤ 1000000000) :
    ACalls Tryd.prog n_iparI [.str ⟨l.toArray⟩, .int .i64 10, .int .i64 0] σ (fun v σ' => σ' = σ ∧ ∃ k e, i64r k ∧ v = .tup [.int .i64 k, e] ∧ (e = .nili ∨ ∃ c, (c = 1 ∨ c = 2) ∧ e = .iface t_serr (.int .i64 c))) := by
  refine s_iparI (fun wf => ?_)
  unfold c_iparI
  have q0 : sbinv .eql ⟨l.toArray⟩ ⟨#[]⟩ = some (.bool (decide (l = []))) := by simp only [sbinv, ba_eq l []]
  refine T.seq_k (fun K_h0 h0 => ?_)
  refine T.regi hm ?_
  simp only [↓reduceIte, namesOf, List.any, I.names, aopsI, astep, ev, setd, List.set, List.cons_append, List.nil_append, List.length_cons, List.length_nil, List.replicate, then_normal, Bool.or_false, Bool.false_eq_true, up_zero, Nat.reduceAdd, Nat.reduceSub]
  refine h0 _ _ ?_
  try clear h0 K_h0
  refine T.seq_k (fun K_h1 h1 => ?_)
  by_cases hnil : l = []
  · have q1 : decide (l = []) = true := decide_eq_true hnil
    rw [q1] at q0
    refine T.seq_k (fun K_h0 h0 => ?_)
    refine T.regi hm ?_
    simp only [↓reduceIte, namesOf, List.any, I.names, aopsI, astep, ev, setd, List.set, List.getD, List.getElem?_cons_zero, List.getElem?_cons_succ, then_normal, Option.getD_some, Bool.or_false, Bool.false_eq_true, up_zero, ↓opt_def, q0]
    refine h0 _ _ ?_
    try clear h0 K_h0
    refine T.cond rfl (fun _ => ?_) (fun h => by cases h)
    refine T.seq_k (fun K_h0 h0 => ?_)
    refine T.regi hm ?_
    simp only [↓reduceIte, namesOf, List.any, I.names, aopsI, astep, ev, setd, List.set, List.getD, List.getElem?_cons_zero, List.getElem?_cons_succ, then_normal, Option.getD_some, Bool.or_false, Bool.false_eq_true, up_zero]
    refine h0 _ _ ?_
    try clear h0 K_h0
    exact T.ret (Fin.ret rfl ⟨rfl, 0, _, ⟨by omega, by omega⟩, rfl, .inr ⟨2, .inr rfl, rfl⟩⟩)
  have q1 : decide (l = []) = false := decide_eq_false hnil
  rw [q1] at q0
  refine T.seq_k (fun K_h0 h0 => ?_)
  refine T.regi hm ?_
  simp only [↓reduceIte, namesOf, List.any, I.names, aopsI, astep, ev, setd, List.set, List.getD, List.getElem?_cons_zero, List.getElem?_cons_succ, then_normal, Option.getD_some, Bool.or_false, Bool.false_eq_true, up_zero, ↓opt_def, q0]
  refine h0 _ _ ?_
  try clear h0 K_h0
  refine T.cond rfl (fun h => by cases h) (fun _ => T.skip ?_)
  refine h1 _ _ ?_
  try clear h1 K_h1
  refine T.seq_k (fun K_h0 h0 => ?_)
  refine T.regi hm ?_
  simp only [↓reduceIte, namesOf, List.any, I.names, aopsI, astep, ev, setd, List.set, then_normal, Bool.or_false, Bool.false_eq_true, up_zero]
  refine h0 _ _ ?_
  try clear h0 K_h0
  obtain ⟨c, r, rfl⟩ : ∃ c r, l = c :: r := by cases l with
    | nil => exact absurd rfl hnil
    | cons c r => exact ⟨c, r, rfl⟩
  have hsz : ((⟨(c :: r).toArray⟩ : ByteArray).size : Int) = ((r.length + 1 : Nat) : Int) := by rw [sz_mk]; rfl
  have hpos : (0 : Int) < ((r.length + 1 : Nat) : Int) := by omega
  have hg0 : (⟨(c :: r).toArray⟩ : ByteArray).data.toList[(0 : Int).toNat]? = some c := rfl
  have hcut : (⟨(c :: r).toArray⟩ : ByteArray).extract 1 (r.length + 1) = ⟨r.toArray⟩ := by rw [ba_cut]; simp
  have h1le : (1 : Int) ≤ ((r.length + 1 : Nat) : Int) := by omega
  refine T.seq_k (fun K_h1 h1 => ?_)
  have nxt : ∀ (ρ' : List AV) (s : List UInt8) (neg : Bool), s.length ≤ 1000000000 → keep [0, 1, 2, 8] 0 ρ' = [.str ⟨s.toArray⟩, .int .i64 10, .int .i64 0, .any, .any, .any, .any, .any, .bool neg] ++ List.replicate 64 .any → K_h1 ρ' σ := by
    intro ρ' s neg hs hρ
    refine h1 _ _ ?_
    try clear h1 K_h1
    refine T.gh (Gh.keep [0, 1, 2, 8]) ?_
    rw [hρ]
    clear hρ ρ'
    have e0 : ((0 : Int) == 0) = true := rfl
    have w1 : IntKind.i64.wrap (64 - 1) = 63 := by decide
    have w2 : IntKind.u64.wrap 63 = 63 := by decide
    have w3 : ¬ ((63 : Int) < 0) := by decide
    obtain ⟨M, hM⟩ : ∃ M : Int, IntKind.u64.wrap (1 * 2 ^ min (63 : Int).toNat IntKind.u64.bits) = M := ⟨_, rfl⟩
    refine T.seq_k (fun K_h0 h0 => ?_)
    refine T.regi hm ?_
    simp only [↓reduceIte, namesOf, List.any, I.names, aopsI, astep, ev, setd, List.set, List.cons_append, List.nil_append, List.replicate, then_normal, Bool.or_false, Bool.false_eq_true, up_zero]
    refine h0 _ _ ?_
    try clear h0 K_h0
    refine T.seq_k (fun K_h1 h1 => ?_)
    refine T.regi hm ?_
    simp only [↓reduceIte, namesOf, List.any, I.names, aopsI, astep, ev, setd, List.set, List.getD, List.getElem?_cons_zero, List.getElem?_cons_succ, then_normal, Option.getD_some, Bool.or_false, Bool.false_eq_true, up_zero, ↓opt_def, List.map_cons, List.map_nil]
    refine (iparU_ok (b := 10) (.inr rfl) (.inr rfl) hs).mono ?_
    rintro v σ1 hv
    obtain ⟨n, e, rfl, rfl, he⟩ : ∃ (n : Nat) (e : AV), σ1 = σ ∧ v = .tup [.int .u64 (n : Int), e] ∧ (e = .nili ∨ e = .iface t_serr (.int .i64 1) ∨ e = .iface t_serr (.int .i64 2)) := by
      rcases hv with ⟨rfl, (⟨n, hn, rfl, hc⟩ | ⟨n, e, hn, he, rfl, hc⟩)⟩
      · exact ⟨n, _, rfl, rfl, .inl rfl⟩
      · rcases he with rfl | rfl
        · exact ⟨n, _, rfl, rfl, .inr (.inl rfl)⟩
        · exact ⟨n, _, rfl, rfl, .inr (.inr rfl)⟩
    clear hv
    try simp only [List.getElem?_cons_zero, List.getElem?_cons_succ]
    refine h1 _ _ ?_
    try clear h1 K_h1
    refine T.seq_k (fun K_h1 h1 => ?_)
    have rest : ∀ (ρ' : List AV), keep [1, 2, 7, 8, 9] 0 ρ' = [.any, .int .i64 10, .int .i64 0, .any, .any, .any, .any, e, .bool neg, .int .u64 (n : Int)] ++ List.replicate 63 .any → K_h1 ρ' σ1 := by
      intro ρ' hρ
      refine h1 _ _ ?_
      try clear h1 K_h1
      refine T.gh (Gh.keep [1, 2, 7, 8, 9]) ?_
      rw [hρ]
      clear hρ ρ'
      refine T.seq_k (fun K_h1 h1 => ?_)
      refine T.seq_k (fun K_h0 h0 => ?_)
      refine T.regi hm ?_
      simp only [↓reduceIte, namesOf, List.any, I.names, aopsI, astep, ev, setd, List.set, List.getD, List.getElem?_cons_zero, List.getElem?_cons_succ, List.cons_append, List.nil_append, List.replicate, then_normal, Option.getD_some, Bool.or_false, Bool.false_eq_true, up_zero, binv, ↓opt_def, eq_self, e0]
      refine h0 _ _ ?_
      try clear h0 K_h0
      refine T.cond rfl (fun _ => ?_) (fun h => by cases h)
      refine T.regi hm ?_
      simp only [↓reduceIte, namesOf, List.any, I.names, aopsI, astep, ev, setd, List.set, then_normal, Bool.or_false, Bool.false_eq_true, up_zero]
      refine h1 _ _ ?_
      try clear h1 K_h1
      refine T.seq_k (fun K_h0 h0 => ?_)
      refine T.regi hm ?_
      simp only [↓reduceIte, namesOf, List.any, I.names, aopsI, astep, ev, setd, List.set, List.getD, List.getElem?_cons_zero, List.getElem?_cons_succ, then_normal, Option.getD_some, Bool.or_false, Bool.false_eq_true, up_zero, binv, ↓opt_def, eq_self, w1, w2, w3, hM]
      refine h0 _ _ ?_
      try clear h0 K_h0
      refine T.seq_k (fun K_h1 h1 => ?_)
      cases neg with
      | false =>
        by_cases hge : (n : Int) ≥ M
        · have f1 : decide ((n : Int) ≥ M) = true := decide_eq_true hge
          refine T.seq_k (fun K_h0 h0 => ?_)
          refine T.regi hm ?_
          simp only [↓reduceIte, namesOf, List.any, I.names, aopsI, astep, ev, setd, List.set, List.getD, List.getElem?_cons_zero, List.getElem?_cons_succ, then_normal, Option.getD_some, Bool.or_false, Bool.false_eq_true, up_zero, binv, ↓opt_def, eq_self, f1, Bool.not_false]
          refine h0 _ _ ?_
          try clear h0 K_h0
          refine T.cond rfl (fun _ => ?_) (fun h => by cases h)
          refine T.seq_k (fun K_h0 h0 => ?_)
          refine T.regi hm ?_
          simp only [↓reduceIte, namesOf, List.any, I.names, aopsI, astep, ev, setd, List.set, List.getD, List.getElem?_cons_zero, List.getElem?_cons_succ, then_normal, Option.getD_some, Bool.or_false, Bool.false_eq_true, up_zero, binv, ↓opt_def, eq_self]
          refine h0 _ _ ?_
          try clear h0 K_h0
          exact T.ret (Fin.ret rfl ⟨rfl, _, _, i64_rng _, rfl, .inr ⟨1, .inl rfl, rfl⟩⟩)
        · have f1 : decide ((n : Int) ≥ M) = false := decide_eq_false hge
          refine T.seq_k (fun K_h0 h0 => ?_)
          refine T.regi hm ?_
          simp only [↓reduceIte, namesOf, List.any, I.names, aopsI, astep, ev, setd, List.set, List.getD, List.getElem?_cons_zero, List.getElem?_cons_succ, then_normal, Option.getD_some, Bool.or_false, Bool.false_eq_true, up_zero, binv, ↓opt_def, eq_self, f1, Bool.not_false]
          refine h0 _ _ ?_
          try clear h0 K_h0
          refine T.cond rfl (fun h => by cases h) (fun _ => T.skip ?_)
          refine h1 _ _ ?_
          try clear h1 K_h1
          refine T.seq_k (fun K_h1 h1 => ?_)
          refine T.seq_k (fun K_h0 h0 => ?_)
          refine T.regi hm ?_
          simp only [↓reduceIte, namesOf, List.any, I.names, aopsI, astep, ev, setd, List.set, List.getD, List.getElem?_cons_zero, List.getElem?_cons_succ, then_normal, Option.getD_some, Bool.or_false, Bool.false_eq_true, up_zero]
          refine h0 _ _ ?_
          try clear h0 K_h0
          refine T.cond rfl (fun h => by cases h) (fun _ => T.skip ?_)
          refine h1 _ _ ?_
          try clear h1 K_h1
          refine T.seq_k (fun K_h0 h0 => ?_)
          refine T.regi hm ?_
          simp only [↓reduceIte, namesOf, List.any, I.names, aopsI, astep, ev, setd, List.set, List.getD, List.getElem?_cons_zero, List.getElem?_cons_succ, then_normal, Option.getD_some, Bool.or_false, Bool.false_eq_true, up_zero]
          refine h0 _ _ ?_
          try clear h0 K_h0
          refine T.seq_k (fun K_h1 h1 => ?_)
          refine T.seq_k (fun K_h0 h0 => ?_)
          refine T.regi hm ?_
          simp only [↓reduceIte, namesOf, List.any, I.names, aopsI, astep, ev, setd, List.set, List.getD, List.getElem?_cons_zero, List.getElem?_cons_succ, then_normal, Option.getD_some, Bool.or_false, Bool.false_eq_true, up_zero]
          refine h0 _ _ ?_
          try clear h0 K_h0
          refine T.cond rfl (fun h => by cases h) (fun _ => T.skip ?_)
          refine h1 _ _ ?_
          try clear h1 K_h1
          refine T.seq_k (fun K_h0 h0 => ?_)
          refine T.regi hm ?_
          simp only [↓reduceIte, namesOf, List.any, I.names, aopsI, astep, ev, setd, List.set, List.getD, List.getElem?_cons_zero, List.getElem?_cons_succ, then_normal, Option.getD_some, Bool.or_false, Bool.false_eq_true, up_zero]
          refine h0 _ _ ?_
          try clear h0 K_h0
          exact T.ret (Fin.ret rfl ⟨rfl, _, _, i64_rng _, rfl, .inl rfl⟩)
      | true =>
        refine T.seq_k (fun K_h0 h0 => ?_)
        refine T.regi hm ?_
        simp only [↓reduceIte, namesOf, List.any, I.names, aopsI, astep, ev, setd, List.set, List.getD, List.getElem?_cons_zero, List.getElem?_cons_succ, then_normal, Option.getD_some, Bool.or_false, Bool.false_eq_true, up_zero, Bool.not_true]
        refine h0 _ _ ?_
        try clear h0 K_h0
        refine T.cond rfl (fun h => by cases h) (fun _ => T.skip ?_)
        refine h1 _ _ ?_
        try clear h1 K_h1
        refine T.seq_k (fun K_h1 h1 => ?_)
        by_cases hgt : (n : Int) > M
        · have f1 : decide ((n : Int) > M) = true := decide_eq_true hgt
          refine T.seq_k (fun K_h0 h0 => ?_)
          refine T.regi hm ?_
          simp only [↓reduceIte, namesOf, List.any, I.names, aopsI, astep, ev, setd, List.set, List.getD, List.getElem?_cons_zero, List.getElem?_cons_succ, then_normal, Option.getD_some, Bool.or_false, Bool.false_eq_true, up_zero, binv, ↓opt_def, eq_self, f1]
          refine h0 _ _ ?_
          try clear h0 K_h0
          refine T.cond rfl (fun _ => ?_) (fun h => by cases h)
          refine T.seq_k (fun K_h0 h0 => ?_)
          refine T.regi hm ?_
          simp only [↓reduceIte, namesOf, List.any, I.names, aopsI, astep, ev, setd, List.set, List.getD, List.getElem?_cons_zero, List.getElem?_cons_succ, then_normal, Option.getD_some, Bool.or_false, Bool.false_eq_true, up_zero, eq_self]
          refine h0 _ _ ?_
          try clear h0 K_h0
          exact T.ret (Fin.ret rfl ⟨rfl, _, _, i64_rng _, rfl, .inr ⟨1, .inl rfl, rfl⟩⟩)
        · have f1 : decide ((n : Int) > M) = false := decide_eq_false hgt
          refine T.seq_k (fun K_h0 h0 => ?_)
          refine T.regi hm ?_
          simp only [↓reduceIte, namesOf, List.any, I.names, aopsI, astep, ev, setd, List.set, List.getD, List.getElem?_cons_zero, List.getElem?_cons_succ, then_normal, Option.getD_some, Bool.or_false, Bool.false_eq_true, up_zero, binv, ↓opt_def, eq_self, f1]
          refine h0 _ _ ?_
          try clear h0 K_h0
          refine T.cond rfl (fun h => by cases h) (fun _ => T.skip ?_)
          refine h1 _ _ ?_
          try clear h1 K_h1
          refine T.seq_k (fun K_h0 h0 => ?_)
          refine T.regi hm ?_
          simp only [↓reduceIte, namesOf, List.any, I.names, aopsI, astep, ev, setd, List.set, List.getD, List.getElem?_cons_zero, List.getElem?_cons_succ, then_normal, Option.getD_some, Bool.or_false, Bool.false_eq_true, up_zero]
          refine h0 _ _ ?_
          try clear h0 K_h0
          refine T.seq_k (fun K_h1 h1 => ?_)
          refine T.seq_k (fun K_h0 h0 => ?_)
          refine T.regi hm ?_
          simp only [↓reduceIte, namesOf, List.any, I.names, aopsI, astep, ev, setd, List.set, List.getD, List.getElem?_cons_zero, List.getElem?_cons_succ, then_normal, Option.getD_some, Bool.or_false, Bool.false_eq_true, up_zero]
          refine h0 _ _ ?_
          try clear h0 K_h0
          refine T.cond rfl (fun _ => ?_) (fun h => by cases h)
          refine T.regi hm ?_
          simp only [↓reduceIte, namesOf, List.any, I.names, aopsI, astep, ev, setd, List.set, List.getD, List.getElem?_cons_zero, List.getElem?_cons_succ, then_normal, Option.getD_some, Bool.or_false, Bool.false_eq_true, up_zero, eq_self]
          refine h1 _ _ ?_
          try clear h1 K_h1
          refine T.seq_k (fun K_h0 h0 => ?_)
          refine T.regi hm ?_
          simp only [↓reduceIte, namesOf, List.any, I.names, aopsI, astep, ev, setd, List.set, List.getD, List.getElem?_cons_zero, List.getElem?_cons_succ, then_normal, Option.getD_some, Bool.or_false, Bool.false_eq_true, up_zero]
          refine h0 _ _ ?_
          try clear h0 K_h0
          exact T.ret (Fin.ret rfl ⟨rfl, _, _, i64_rng _, rfl, .inl rfl⟩)
    rcases he with rfl | rfl | rfl
    · have g1 : eqIv true [(tCode, .i64), (t_serr, .i64)] .nili .nili = some true := rfl
      refine T.seq_k (fun K_h0 h0 => ?_)
      refine T.regi hm ?_
      simp only [↓reduceIte, namesOf, List.any, I.names, aopsI, astep, ev, setd, List.set, List.getD, List.getElem?_cons_zero, List.getElem?_cons_succ, then_normal, Option.getD_some, Bool.or_false, Bool.false_eq_true, up_zero, g1, bne_self_eq_false]
      refine h0 _ _ ?_
      try clear h0 K_h0
      refine T.cond rfl (fun h => by cases h) (fun _ => T.skip ?_)
      exact rest _ rfl
    · have g1 : eqIv true [(tCode, .i64), (t_serr, .i64)] (.iface t_serr (.int .i64 1)) .nili = some false := rfl
      have g2 : eqIv false [(tCode, .i64), (t_serr, .i64)] (.iface t_serr (.int .i64 1)) (.iface t_serr (.int .i64 1)) = some true := rfl
      refine T.seq_k (fun K_h0 h0 => ?_)
      refine T.regi hm ?_
      simp only [↓reduceIte, namesOf, List.any, I.names, aopsI, astep, ev, setd, List.set, List.getD, List.getElem?_cons_zero, List.getElem?_cons_succ, then_normal, Option.getD_some, Bool.or_false, Bool.false_eq_true, up_zero, eq_self, g1, g2, bne_self_eq_false, Bool.false_bne]
      refine h0 _ _ ?_
      try clear h0 K_h0
      refine T.cond rfl (fun h => by cases h) (fun _ => T.skip ?_)
      exact rest _ rfl
    · have g1 : eqIv true [(tCode, .i64), (t_serr, .i64)] (.iface t_serr (.int .i64 2)) .nili = some false := rfl
      have g2 : eqIv false [(tCode, .i64), (t_serr, .i64)] (.iface t_serr (.int .i64 2)) (.iface t_serr (.int .i64 1)) = some false := rfl
      refine T.seq_k (fun K_h0 h0 => ?_)
      refine T.regi hm ?_
      simp only [↓reduceIte, namesOf, List.any, I.names, aopsI, astep, ev, setd, List.set, List.getD, List.getElem?_cons_zero, List.getElem?_cons_succ, then_normal, Option.getD_some, Bool.or_false, Bool.false_eq_true, up_zero, eq_self, g1, g2, Bool.false_bne]
      refine h0 _ _ ?_
      try clear h0 K_h0
      refine T.cond rfl (fun _ => ?_) (fun h => by cases h)
      refine T.seq_k (fun K_h0 h0 => ?_)
      refine T.regi hm ?_
      simp only [↓reduceIte, namesOf, List.any, I.names, aopsI, astep, ev, setd, List.set, List.getD, List.getElem?_cons_zero, List.getElem?_cons_succ, then_normal, Option.getD_some, Bool.or_false, Bool.false_eq_true, up_zero]
      refine h0 _ _ ?_
      try clear h0 K_h0
      exact T.ret (Fin.ret rfl ⟨rfl, _, _, ⟨by omega, by omega⟩, rfl, .inr ⟨2, .inr rfl, rfl⟩⟩)
  refine T.seq_k (fun K_h0 h0 => ?_)
  refine T.regi hm ?_
  simp only [↓reduceIte, namesOf, List.any, I.names, aopsI, astep, ev, setd, List.set, List.getD, List.getElem?_cons_zero, List.getElem?_cons_succ, then_normal, Option.getD_some, Bool.or_false, Bool.false_eq_true, up_zero, hsz, hpos, hg0, Int.le_refl, and_self]
  refine h0 _ _ ?_
  try clear h0 K_h0
  refine T.block ?_
  have hr : r.length ≤ 1000000000 := by simp at hl; omega
  by_cases h43 : c.toNat = 43
  · have f1 : ((c.toNat : Int) == 43) = true := by rw [h43]; rfl
    refine T.seq_k (fun K_h0 h0 => ?_)
    refine T.regi hm ?_
    simp only [↓reduceIte, namesOf, List.any, I.names, aopsI, astep, ev, setd, List.set, List.getD, List.getElem?_cons_zero, List.getElem?_cons_succ, then_normal, Option.getD_some, Bool.or_false, Bool.false_eq_true, up_zero, binv, ↓opt_def, eq_self, f1]
    refine h0 _ _ ?_
    try clear h0 K_h0
    refine T.cond rfl (fun _ => ?_) (fun h => by cases h)
    refine T.regi hm ?_
    simp only [↓reduceIte, namesOf, List.any, I.names, aopsI, astep, ev, setd, List.set, List.getD, List.getElem?_cons_zero, List.getElem?_cons_succ, then_normal, inBlock_normal, Option.getD_some, Bool.or_false, Bool.false_eq_true, up_zero, Int.toNat_natCast, hsz, idx, h1le, hcut, Int.le_refl, and_self, Int.toNat_one, Int.reduceLE]
    exact nxt _ r false hr rfl
  have f1 : ((c.toNat : Int) == 43) = false := by rw [beq_eq_false_iff_ne]; omega
  refine T.seq_k (fun K_h0 h0 => ?_)
  refine T.regi hm ?_
  simp only [↓reduceIte, namesOf, List.any, I.names, aopsI, astep, ev, setd, List.set, List.getD, List.getElem?_cons_zero, List.getElem?_cons_succ, then_normal, Option.getD_some, Bool.or_false, Bool.false_eq_true, up_zero, binv, ↓opt_def, eq_self, f1]
  refine h0 _ _ ?_
  try clear h0 K_h0
  refine T.cond rfl (fun h => by cases h) (fun _ => ?_)
  by_cases h45 : c.toNat = 45
  · have f2 : ((c.toNat : Int) == 45) = true := by rw [h45]; rfl
    refine T.seq_k (fun K_h0 h0 => ?_)
    refine T.regi hm ?_
    simp only [↓reduceIte, namesOf, List.any, I.names, aopsI, astep, ev, setd, List.set, List.getD, List.getElem?_cons_zero, List.getElem?_cons_succ, then_normal, Option.getD_some, Bool.or_false, Bool.false_eq_true, up_zero, binv, ↓opt_def, eq_self, f2]
    refine h0 _ _ ?_
    try clear h0 K_h0
    refine T.cond rfl (fun _ => ?_) (fun h => by cases h)
    refine T.seq_k (fun K_h0 h0 => ?_)
    refine T.regi hm ?_
    simp only [↓reduceIte, namesOf, List.any, I.names, aopsI, astep, ev, setd, List.set, List.getD, List.getElem?_cons_zero, List.getElem?_cons_succ, then_normal, Option.getD_some, Bool.or_false, Bool.false_eq_true, up_zero, Int.toNat_natCast, hsz, idx, h1le, hcut, Int.le_refl, and_self, Int.toNat_one, Int.reduceLE]
    refine h0 _ _ ?_
    try clear h0 K_h0
    refine T.regi hm ?_
    simp only [↓reduceIte, namesOf, List.any, I.names, aopsI, astep, ev, setd, List.set, then_normal, inBlock_normal, Bool.or_false, Bool.false_eq_true, up_zero]
    exact nxt _ r true hr rfl
  · have f2 : ((c.toNat : Int) == 45) = false := by rw [beq_eq_false_iff_ne]; omega
    refine T.seq_k (fun K_h0 h0 => ?_)
    refine T.regi hm ?_
    simp only [↓reduceIte, namesOf, List.any, I.names, aopsI, astep, ev, setd, List.set, List.getD, List.getElem?_cons_zero, List.getElem?_cons_succ, then_normal, Option.getD_some, Bool.or_false, Bool.false_eq_true, up_zero, binv, ↓opt_def, eq_self, f2]
    refine h0 _ _ ?_
    try clear h0 K_h0
    refine T.cond rfl (fun h => by cases h) (fun _ => T.skip ?_)
    try simp only [then_normal, inBlock_normal, inBlock_normal]
    exact nxt _ (c :: r) false hl rfl

end Go.VL

namespace Go.VL

open Go.Proofs

theorem u8_sub48 (k : Nat) (hk : k < 256) : ∃ d : Nat, IntKind.u8.wrap ((k : Int) - 48) = (d : Int) ∧ d < 256 ∧ (48 ≤ k → d = k - 48) := by
  refine ⟨(IntKind.u8.wrap ((k : Int) - 48)).toNat, ?_, ?_, ?_⟩ <;> simp [IntKind.wrap, IntKind.bits, IntKind.signed] <;> omega

set_option maxRecDepth 10000 in
set_option maxHeartbeats 1000000 in
theorem iatoi_ok {l : List UInt8} {σ : St} (hl : l.length ≤ 1000000000) :
    ACalls Tryd.prog n_iatoi [.str ⟨l.toArray⟩] σ (fun v σ' => σ' = σ ∧ AOut t_serr (fun c => .int .i64 c) l v) := by
  refine s_iatoi (fun wf => ?_)
  unfold c_iatoi
  have hsz : ((⟨l.toArray⟩ : ByteArray).size : Int) = ((l.length : Nat) : Int) := by rw [sz_mk]
  refine T.seq_k (fun K_h0 h0 => ?_)
  refine T.regi hm ?_
  simp only [↓reduceIte, namesOf, List.any, I.names, aopsI, astep, ev, setd, List.set, List.cons_append, List.nil_append, List.length_cons, List.length_nil, List.replicate, then_normal, Bool.or_false, Bool.false_eq_true, up_zero, Nat.reduceAdd, Nat.reduceSub]
  refine h0 _ _ ?_
  try clear h0 K_h0
  refine T.seq_k (fun K_h0 h0 => ?_)
  refine T.regi hm ?_
  simp only [↓reduceIte, namesOf, List.any, I.names, aopsI, astep, ev, setd, List.set, List.getD, List.getElem?_cons_zero, List.getElem?_cons_succ, then_normal, Option.getD_some, Bool.or_false, Bool.false_eq_true, up_zero, hsz]
  refine h0 _ _ ?_
  try clear h0 K_h0
  refine T.seq_k (fun K_h1 h1 => ?_)
  by_cases hf : 0 < l.length ∧ l.length < 19
  case neg =>
    have slow : ∀ ρ' : List AV, keep [0] 0 ρ' = [.str ⟨l.toArray⟩] ++ List.replicate 76 .any → K_h1 ρ' σ := by
      intro ρ' hρ
      refine h1 _ _ ?_
      try clear h1 K_h1
      refine T.gh (Gh.keep [0]) ?_
      rw [hρ]
      refine T.seq_k (fun K_h1 h1 => ?_)
      refine T.regi hm ?_
      simp only [↓reduceIte, namesOf, List.any, I.names, aopsI, astep, ev, setd, List.set, List.getD, List.getElem?_cons_zero, List.getElem?_cons_succ, List.cons_append, List.nil_append, List.replicate, then_normal, Option.getD_some, Bool.or_false, Bool.false_eq_true, up_zero, ↓opt_def, List.map_cons, List.map_nil]
      refine (iparI_ok hl).mono ?_
      rintro v σ1 ⟨rfl, k, e, hk, rfl, he⟩
      try simp only [List.getElem?_cons_zero, List.getElem?_cons_succ]
      refine h1 _ _ ?_
      try clear h1 K_h1
      refine T.seq_k (fun K_h0 h0 => ?_)
      refine T.regi hm ?_
      simp only [↓reduceIte, namesOf, List.any, I.names, aopsI, astep, ev, setd, List.set, List.getD, List.getElem?_cons_zero, List.getElem?_cons_succ, then_normal, Option.getD_some, Bool.or_false, Bool.false_eq_true, up_zero]
      refine h0 _ _ ?_
      try clear h0 K_h0
      have hno : ∀ n, ¬ canA l n := fun n h => by have := h.len; omega
      refine T.ret (Fin.quiet rfl ⟨trivial, ?_, trivial⟩ (fun _ _ h => h) ⟨rfl, k, e, hk, rfl, ?_⟩)
      · rcases he with rfl | ⟨c, _, rfl⟩ <;> trivial
      · rcases he with rfl | h
        · exact .inl ⟨rfl, fun n h => absurd h (hno n)⟩
        · exact .inr ⟨h, hno⟩
    by_cases h0 : 0 < l.length
    · have f1 : decide ((0 : Int) < (l.length : Int)) = true := decide_eq_true (by omega)
      have f2 : decide ((l.length : Int) < 19) = false := decide_eq_false (by omega)
      refine T.seq_k (fun K_h0 h0 => ?_)
      refine T.regi hm ?_
      simp only [↓reduceIte, namesOf, List.any, I.names, aopsI, astep, ev, setd, List.set, List.getD, List.getElem?_cons_zero, List.getElem?_cons_succ, then_normal, Option.getD_some, Bool.or_false, Bool.false_eq_true, up_zero, binv, ↓opt_def, eq_self, f1, f2]
      refine h0 _ _ ?_
      try clear h0 K_h0
      refine T.cond rfl (fun h => by cases h) (fun _ => T.skip ?_)
      exact slow _ rfl
    · have f1 : decide ((0 : Int) < (l.length : Int)) = false := decide_eq_false (by omega)
      refine T.seq_k (fun K_h0 h0 => ?_)
      refine T.regi hm ?_
      simp only [↓reduceIte, namesOf, List.any, I.names, aopsI, astep, ev, setd, List.set, List.getD, List.getElem?_cons_zero, List.getElem?_cons_succ, then_normal, Option.getD_some, Bool.or_false, Bool.false_eq_true, up_zero, binv, ↓opt_def, eq_self, f1]
      refine h0 _ _ ?_
      try clear h0 K_h0
      refine T.cond rfl (fun h => by cases h) (fun _ => T.skip ?_)
      exact slow _ rfl
  have f1 : decide ((0 : Int) < (l.length : Int)) = true := decide_eq_true (by omega)
  have f2 : decide ((l.length : Int) < 19) = true := decide_eq_true (by omega)
  refine T.seq_k (fun K_h0 h0 => ?_)
  refine T.regi hm ?_
  simp only [↓reduceIte, namesOf, List.any, I.names, aopsI, astep, ev, setd, List.set, List.getD, List.getElem?_cons_zero, List.getElem?_cons_succ, then_normal, Option.getD_some, Bool.or_false, Bool.false_eq_true, up_zero, binv, ↓opt_def, eq_self, f1, f2]
  refine h0 _ _ ?_
  try clear h0 K_h0
  refine T.cond rfl (fun _ => ?_) (fun h => by cases h)
  refine T.seq_k (fun K_h0 h0 => ?_)
  refine T.regi hm ?_
  simp only [↓reduceIte, namesOf, List.any, I.names, aopsI, astep, ev, setd, List.set, List.getD, List.getElem?_cons_zero, List.getElem?_cons_succ, then_normal, Option.getD_some, Bool.or_false, Bool.false_eq_true, up_zero]
  refine h0 _ _ ?_
  try clear h0 K_h0
  obtain ⟨c, r, rfl⟩ : ∃ c r, l = c :: r := by cases l with
    | nil => simp at hf
    | cons c r => exact ⟨c, r, rfl⟩
  have hrl : r.length < 18 := by have := hf.2; simp at this; omega
  have hsz1 : ((⟨(c :: r).toArray⟩ : ByteArray).size : Int) = ((r.length + 1 : Nat) : Int) := by rw [sz_mk]; rfl
  have hpos : (0 : Int) < ((r.length + 1 : Nat) : Int) := by omega
  have hg0 : (⟨(c :: r).toArray⟩ : ByteArray).data.toList[(0 : Int).toNat]? = some c := rfl
  have hcut : (⟨(c :: r).toArray⟩ : ByteArray).extract 1 (r.length + 1) = ⟨r.toArray⟩ := by rw [ba_cut]; simp
  have h1le : (1 : Int) ≤ ((r.length + 1 : Nat) : Int) := by omega
  have hc0 : ∀ n, canA (c :: r) n → 48 ≤ c.toNat := fun n h => by have := (h.digit (i := 0) rfl).2; omega
  clear h1 hsz f1 f2
  refine T.seq_k (fun K_h1 h1 => ?_)
  have nxt : ∀ (ρ' : List AV) (s : List UInt8), s.length < 19 → (∀ n, canA (c :: r) n → s = c :: r) → keep [0, 5] 0 ρ' = [.str ⟨s.toArray⟩, .any, .any, .any, .any, .str ⟨(c :: r).toArray⟩] ++ List.replicate 71 .any → K_h1 ρ' σ := by
    intro ρ' s hs hsl hρ
    refine h1 _ _ ?_
    try clear h1 K_h1
    refine T.gh (Gh.keep [0, 5]) ?_
    rw [hρ]
    clear hρ ρ'
    refine T.seq_k (fun K_h0 h0 => ?_)
    refine T.regi hm ?_
    simp only [↓reduceIte, namesOf, List.any, I.names, aopsI, astep, ev, setd, List.set, List.cons_append, List.nil_append, List.replicate, then_normal, Bool.or_false, Bool.false_eq_true, up_zero]
    refine h0 _ _ ?_
    try clear h0 K_h0
    refine T.seq_k (fun K_h1 h1 => ?_)
    have hd : (⟨s.toArray⟩ : ByteArray).data.toList = s := rfl
    refine T.seq_k (fun K_h0 h0 => ?_)
    refine T.regi hm ?_
    simp only [↓reduceIte, namesOf, List.any, I.names, aopsI, astep, ev, setd, List.set, List.getD, List.getElem?_cons_zero, List.getElem?_cons_succ, List.length_cons, List.length_nil, then_normal, Option.getD_some, Bool.or_false, Bool.or_true, Nat.reduceAdd, eq_self, held, bytesAV_er, bytesAV_len]
    refine h0 _ _ ?_
    try clear h0 K_h0
    have hL0 : Like σ ((σ.up 4).set (σ.next + 1) (.tip 1)) := (Like.refl σ).box (n := 4) (i := 1) _
    generalize ((σ.up 4).set (σ.next + 1) (.tip 1)) = t0 at hL0 ⊢
    generalize σ.next + 1 = g
    refine T.block ?_
    refine T.gh (Gh.keep [5, 6, 47, 48, 49]) ?_
    refine T.loopi (fun i ρ t => ∃ n : Int, i64r n ∧ (∀ m, canA (c :: r) m → n = ((m / 10 ^ (3 - i) : Nat) : Int)) ∧ Like σ t ∧
        ρ = [.any, .any, .any, .any, .any, .str ⟨(c :: r).toArray⟩, .int .i64 n] ++ List.replicate 40 .any ++ [.sl (bytesAV s) (.tip g), .int .i64 (s.length : Int), .int .i64 (i : Int)] ++ List.replicate 27 .any)
      s.length 0 (Nat.zero_le _) ⟨0, ⟨by omega, by omega⟩, fun m h => by rw [Nat.div_eq_of_lt (by have := h.1; omega)]; rfl, hL0, rfl⟩ ?_
    clear hL0 t0
    rintro i ρ t hi ⟨n, hn, hcan, hL, rfl⟩
    refine T.seq_k (fun K_h0 h0 => ?_)
    refine T.regi hm ?_
    simp only [↓reduceIte, namesOf, List.any, I.names, aopsI, astep, ev, setd, List.set, List.getD, List.getElem?_cons_zero, List.getElem?_cons_succ, List.cons_append, List.nil_append, List.replicate, then_normal, Option.getD_some, Bool.or_false, Bool.false_eq_true, up_zero, binv, ↓opt_def, lt_len, eq_self]
    refine h0 _ _ ?_
    try clear h0 K_h0
    refine T.seq_k (fun K_h2 h2 => ?_)
    by_cases hil : i < s.length
    case neg =>
      refine T.cond (b := false) (by simp [ev]; omega) (fun h => by cases h) (fun _ => T.exit ?_)
      have hie : i = s.length := by omega
      try simp only [List.cons_append, List.nil_append, List.replicate, then_normal, inBlock_exit, then_exit]
      refine h1 _ _ ?_
      try clear h1 K_h1
      have hfin : ∀ m, canA (c :: r) m → n = (m : Int) := fun m h => by
        have h1 := hsl m h
        have h2 := h.len
        rw [hcan m h, hie, h1, h2, Nat.sub_self, Nat.pow_zero, Nat.div_one]
      refine T.seq_k (fun K_h1 h1 => ?_)
      by_cases h45 : c.toNat = 45
      · have g1 : ((c.toNat : Int) == 45) = true := by rw [h45]; rfl
        refine T.seq_k (fun K_h0 h0 => ?_)
        refine T.regi hm ?_
        simp only [↓reduceIte, namesOf, List.any, I.names, aopsI, astep, ev, setd, List.set, List.getD, List.getElem?_cons_zero, List.getElem?_cons_succ, then_normal, Option.getD_some, Bool.or_false, Bool.false_eq_true, up_zero, binv, ↓opt_def, eq_self, hsz1, hpos, hg0, Int.le_refl, and_self, g1]
        refine h0 _ _ ?_
        try clear h0 K_h0
        refine T.cond rfl (fun _ => ?_) (fun h => by cases h)
        refine T.regi hm ?_
        simp only [↓reduceIte, namesOf, List.any, I.names, aopsI, astep, ev, setd, List.set, List.getD, List.getElem?_cons_zero, List.getElem?_cons_succ, then_normal, Option.getD_some, Bool.or_false, Bool.false_eq_true, up_zero, eq_self]
        refine h1 _ _ ?_
        try clear h1 K_h1
        refine T.seq_k (fun K_h0 h0 => ?_)
        refine T.regi hm ?_
        simp only [↓reduceIte, namesOf, List.any, I.names, aopsI, astep, ev, setd, List.set, List.getD, List.getElem?_cons_zero, List.getElem?_cons_succ, then_normal, Option.getD_some, Bool.or_false, Bool.false_eq_true, up_zero]
        refine h0 _ _ ?_
        try clear h0 K_h0
        exact T.ret (Fin.quiet rfl ⟨trivial, trivial, trivial⟩ (hL.quiet wf) ⟨rfl, _, _, i64_rng _, rfl, .inl ⟨rfl, fun m h => by have := hc0 m h; omega⟩⟩)
      · have g1 : ((c.toNat : Int) == 45) = false := by rw [beq_eq_false_iff_ne]; omega
        refine T.seq_k (fun K_h0 h0 => ?_)
        refine T.regi hm ?_
        simp only [↓reduceIte, namesOf, List.any, I.names, aopsI, astep, ev, setd, List.set, List.getD, List.getElem?_cons_zero, List.getElem?_cons_succ, then_normal, Option.getD_some, Bool.or_false, Bool.false_eq_true, up_zero, binv, ↓opt_def, eq_self, hsz1, hpos, hg0, Int.le_refl, and_self, g1]
        refine h0 _ _ ?_
        try clear h0 K_h0
        refine T.cond rfl (fun h => by cases h) (fun _ => T.skip ?_)
        refine h1 _ _ ?_
        try clear h1 K_h1
        refine T.seq_k (fun K_h0 h0 => ?_)
        refine T.regi hm ?_
        simp only [↓reduceIte, namesOf, List.any, I.names, aopsI, astep, ev, setd, List.set, List.getD, List.getElem?_cons_zero, List.getElem?_cons_succ, then_normal, Option.getD_some, Bool.or_false, Bool.false_eq_true, up_zero]
        refine h0 _ _ ?_
        try clear h0 K_h0
        exact T.ret (Fin.quiet rfl ⟨trivial, trivial, trivial⟩ (hL.quiet wf) ⟨rfl, _, _, hn, rfl, .inl ⟨rfl, hfin⟩⟩)
    refine T.cond (b := true) (by simp [ev]; omega) (fun _ => T.skip ?_) (fun h => by cases h)
    refine h2 _ _ ?_
    try clear h2 K_h2
    obtain ⟨x, hx⟩ : ∃ x, s[i]? = some x := ⟨_, List.getElem?_eq_getElem hil⟩
    have hgx : (bytesAV s)[i]? = some (.int .u8 ((x.toNat : Nat) : Int)) := by simp [bytesAV, hx]
    obtain ⟨d, hd1, hd2, hd3⟩ := u8_sub48 x.toNat x.toNat_lt
    have hinc := inc64' hil (by omega)
    have hdig : ∀ m, canA (c :: r) m → i < 3 ∧ d = m / 10 ^ (2 - i) % 10 := fun m h => by
      rw [hsl m h] at hx
      obtain ⟨a1, a2⟩ := h.digit hx
      exact ⟨a1, by omega⟩
    refine T.seq_k (fun K_h3 h3 => ?_)
    refine T.block ?_
    refine T.seq_k (fun K_h0 h0 => ?_)
    refine T.regi hm ?_
    simp only [↓reduceIte, namesOf, List.any, I.names, aopsI, astep, ev, setd, List.set, List.getD, List.getElem?_cons_zero, List.getElem?_cons_succ, List.cons_append, List.nil_append, List.length_cons, List.length_nil, List.replicate, then_normal, Option.getD_some, Bool.or_false, Bool.false_eq_true, up_zero, ↓opt_def, AV.cells, ldc, Int.natCast_nonneg, lt_len, Int.toNat_natCast, true_and, and_true, eq_self, decide_true, hil, bytesAV_len, hgx, Nat.zero_add]
    refine h0 _ _ ?_
    try clear h0 K_h0
    refine T.seq_k (fun K_h0 h0 => ?_)
    refine T.regi hm ?_
    simp only [↓reduceIte, namesOf, List.any, I.names, aopsI, astep, ev, setd, List.set, List.getD, List.getElem?_cons_zero, List.getElem?_cons_succ, List.cons_append, List.nil_append, List.replicate, then_normal, Option.getD_some, Bool.or_false, Bool.false_eq_true, up_zero, binv, ↓opt_def, eq_self, hd1]
    refine h0 _ _ ?_
    try clear h0 K_h0
    refine T.seq_k (fun K_h4 h4 => ?_)
    by_cases hd9 : d > 9
    · have g1 : decide ((d : Int) > 9) = true := decide_eq_true (by omega)
      refine T.seq_k (fun K_h0 h0 => ?_)
      refine T.regi hm ?_
      simp only [↓reduceIte, namesOf, List.any, I.names, aopsI, astep, ev, setd, List.set, List.getD, List.getElem?_cons_zero, List.getElem?_cons_succ, List.cons_append, List.nil_append, List.replicate, then_normal, Option.getD_some, Bool.or_false, Bool.false_eq_true, up_zero, binv, ↓opt_def, eq_self, g1]
      refine h0 _ _ ?_
      try clear h0 K_h0
      refine T.cond rfl (fun _ => ?_) (fun h => by cases h)
      refine T.seq_k (fun K_h0 h0 => ?_)
      refine T.regi hm ?_
      simp only [↓reduceIte, namesOf, List.any, I.names, aopsI, astep, ev, setd, List.set, List.getD, List.getElem?_cons_zero, List.getElem?_cons_succ, List.cons_append, List.nil_append, List.replicate, then_normal, Option.getD_some, Bool.or_false, Bool.false_eq_true, up_zero]
      refine h0 _ _ ?_
      try clear h0 K_h0
      exact T.ret (Fin.quiet rfl ⟨trivial, trivial, trivial⟩ (hL.quiet wf) ⟨rfl, 0, _, ⟨by omega, by omega⟩, rfl, .inr ⟨⟨2, .inr rfl, rfl⟩, fun m h => by have := (hdig m h).2; omega⟩⟩)
    have g1 : decide ((d : Int) > 9) = false := decide_eq_false (by omega)
    have wd : IntKind.i64.wrap (d : Int) = (d : Int) := wrap64 (by omega) (by omega)
    refine T.seq_k (fun K_h0 h0 => ?_)
    refine T.regi hm ?_
    simp only [↓reduceIte, namesOf, List.any, I.names, aopsI, astep, ev, setd, List.set, List.getD, List.getElem?_cons_zero, List.getElem?_cons_succ, List.cons_append, List.nil_append, List.replicate, then_normal, Option.getD_some, Bool.or_false, Bool.false_eq_true, up_zero, binv, ↓opt_def, eq_self, g1]
    refine h0 _ _ ?_
    try clear h0 K_h0
    refine T.cond rfl (fun h => by cases h) (fun _ => T.skip ?_)
    refine h4 _ _ ?_
    try clear h4 K_h4
    refine T.regi hm ?_
    simp only [↓reduceIte, namesOf, List.any, I.names, aopsI, astep, ev, setd, List.set, List.getD, List.getElem?_cons_zero, List.getElem?_cons_succ, List.cons_append, List.nil_append, List.replicate, then_normal, inBlock_normal, Option.getD_some, Bool.or_false, Bool.false_eq_true, up_zero, binv, ↓opt_def, eq_self, wd]
    try simp only [↓reduceIte, namesOf, List.any, I.names, aops, aopsI, aopsT, qstep, CPt, qget, Tbl.get, astep, ev, setd, List.set, List.getD, List.getElem?_cons_zero, List.getElem?_cons_succ, List.getElem?_nil, List.cons_append, List.nil_append, List.length_cons, List.length_nil, List.replicate, then_normal, inBlock_normal, Option.getD_some, Option.getD_none, Bool.or_false, Bool.or_true, Bool.true_or, Bool.false_or, Bool.false_eq_true, if_false, if_true, up_zero, Nat.reduceAdd, Nat.reduceSub, binv, ↓opt_def, AV.isAny, AV.cells, ldc, List.map_cons, List.map_nil, St.set_next, St.set_same, St.up_next, Int.natCast_nonneg, lt_len, le_len, Int.toNat_natCast, true_and, and_true, eq_self, reduceCtorEq, decide_true, List.length_singleton, er_int, er_bool, er_str, srcR, inBlock_normal]
    refine h3 _ _ ?_
    try clear h3 K_h3
    refine T.regi hm ?_
    simp only [↓reduceIte, namesOf, List.any, I.names, aopsI, astep, ev, setd, List.set, List.getD, List.getElem?_cons_zero, List.getElem?_cons_succ, List.cons_append, List.nil_append, List.replicate, then_normal, Option.getD_some, Bool.or_false, Bool.false_eq_true, up_zero, binv, ↓opt_def, eq_self, hinc]
    refine ⟨hil, _, _, Gh.keep [5, 6, 47, 48, 49], _, i64_rng _, fun m h => ?_, hL, rfl⟩
    obtain ⟨a1, a2⟩ := hdig m h
    have a3 := hcan m h
    have a4 : m / 10 ^ (3 - i) = m / 10 ^ (2 - i) / 10 := by rw [show 3 - i = (2 - i) + 1 by omega, Nat.pow_succ, Nat.div_div_eq_div_mul]
    have a5 : m / 10 ^ (2 - i) ≤ m := Nat.div_le_self _ _
    have a6 := h.1
    rw [show 3 - (i + 1) = 2 - i by omega]
    rw [a4] at a3
    generalize m / 10 ^ (2 - i) = y at a2 a3 a5 ⊢
    rw [a3, wrap64 (n := ((y / 10 : Nat) : Int) * 10) (by omega) (by omega), wrap64 (by omega) (by omega)]
    omega
  by_cases h45 : c.toNat = 45
  · have g1 : ((c.toNat : Int) == 45) = true := by rw [h45]; rfl
    refine T.seq_k (fun K_h0 h0 => ?_)
    refine T.regi hm ?_
    simp only [↓reduceIte, namesOf, List.any, I.names, aopsI, astep, ev, setd, List.set, List.getD, List.getElem?_cons_zero, List.getElem?_cons_succ, List.length_cons, then_normal, Option.getD_some, Bool.or_false, Bool.false_eq_true, up_zero, binv, ↓opt_def, eq_self, reduceCtorEq, hsz1, hpos, hg0, Int.le_refl, and_self, g1]
    refine h0 _ _ ?_
    try clear h0 K_h0
    refine T.cond rfl (fun _ => ?_) (fun h => by cases h)
    refine T.seq_k (fun K_h0 h0 => ?_)
    refine T.regi hm ?_
    simp only [↓reduceIte, namesOf, List.any, I.names, aopsI, astep, ev, setd, List.set, List.getD, List.getElem?_cons_zero, List.getElem?_cons_succ, then_normal, Option.getD_some, Bool.or_false, Bool.false_eq_true, up_zero, Int.toNat_natCast, hsz1, idx, h1le, hcut, Int.le_refl, and_self, Int.toNat_one, Int.reduceLE]
    refine h0 _ _ ?_
    try clear h0 K_h0
    by_cases hr0 : r.length < 1
    · have g2 : decide ((r.length : Int) < 1) = true := decide_eq_true (by omega)
      have hrs : ((⟨r.toArray⟩ : ByteArray).size : Int) = (r.length : Int) := by rw [sz_mk]
      refine T.seq_k (fun K_h0 h0 => ?_)
      refine T.regi hm ?_
      simp only [↓reduceIte, namesOf, List.any, I.names, aopsI, astep, ev, setd, List.set, List.getD, List.getElem?_cons_zero, List.getElem?_cons_succ, then_normal, Option.getD_some, Bool.or_false, Bool.false_eq_true, up_zero, binv, ↓opt_def, eq_self, hrs, g2]
      refine h0 _ _ ?_
      try clear h0 K_h0
      refine T.cond rfl (fun _ => ?_) (fun h => by cases h)
      refine T.seq_k (fun K_h0 h0 => ?_)
      refine T.regi hm ?_
      simp only [↓reduceIte, namesOf, List.any, I.names, aopsI, astep, ev, setd, List.set, List.getD, List.getElem?_cons_zero, List.getElem?_cons_succ, then_normal, Option.getD_some, Bool.or_false, Bool.false_eq_true, up_zero]
      refine h0 _ _ ?_
      try clear h0 K_h0
      exact T.ret (Fin.ret rfl ⟨rfl, 0, _, ⟨by omega, by omega⟩, rfl, .inr ⟨⟨2, .inr rfl, rfl⟩, fun m h => by have := hc0 m h; omega⟩⟩)
    · have g2 : decide ((r.length : Int) < 1) = false := decide_eq_false (by omega)
      have hrs : ((⟨r.toArray⟩ : ByteArray).size : Int) = (r.length : Int) := by rw [sz_mk]
      refine T.seq_k (fun K_h0 h0 => ?_)
      refine T.regi hm ?_
      simp only [↓reduceIte, namesOf, List.any, I.names, aopsI, astep, ev, setd, List.set, List.getD, List.getElem?_cons_zero, List.getElem?_cons_succ, then_normal, Option.getD_some, Bool.or_false, Bool.false_eq_true, up_zero, binv, ↓opt_def, eq_self, hrs, g2]
      refine h0 _ _ ?_
      try clear h0 K_h0
      refine T.cond rfl (fun h => by cases h) (fun _ => T.skip ?_)
      exact nxt _ r (by omega) (fun m h => by have := hc0 m h; omega) rfl
  have g1 : ((c.toNat : Int) == 45) = false := by rw [beq_eq_false_iff_ne]; omega
  by_cases h43 : c.toNat = 43
  · have g3 : ((c.toNat : Int) == 43) = true := by rw [h43]; rfl
    refine T.seq_k (fun K_h0 h0 => ?_)
    refine T.regi hm ?_
    simp only [↓reduceIte, namesOf, List.any, I.names, aopsI, astep, ev, setd, List.set, List.getD, List.getElem?_cons_zero, List.getElem?_cons_succ, List.length_cons, then_normal, Option.getD_some, Bool.or_false, Bool.false_eq_true, up_zero, binv, ↓opt_def, eq_self, hsz1, hpos, hg0, Int.le_refl, and_self, g1, g3]
    refine h0 _ _ ?_
    try clear h0 K_h0
    refine T.cond rfl (fun _ => ?_) (fun h => by cases h)
    refine T.seq_k (fun K_h0 h0 => ?_)
    refine T.regi hm ?_
    simp only [↓reduceIte, namesOf, List.any, I.names, aopsI, astep, ev, setd, List.set, List.getD, List.getElem?_cons_zero, List.getElem?_cons_succ, then_normal, Option.getD_some, Bool.or_false, Bool.false_eq_true, up_zero, Int.toNat_natCast, hsz1, idx, h1le, hcut, Int.le_refl, and_self, Int.toNat_one, Int.reduceLE]
    refine h0 _ _ ?_
    try clear h0 K_h0
    by_cases hr0 : r.length < 1
    · have g2 : decide ((r.length : Int) < 1) = true := decide_eq_true (by omega)
      have hrs : ((⟨r.toArray⟩ : ByteArray).size : Int) = (r.length : Int) := by rw [sz_mk]
      refine T.seq_k (fun K_h0 h0 => ?_)
      refine T.regi hm ?_
      simp only [↓reduceIte, namesOf, List.any, I.names, aopsI, astep, ev, setd, List.set, List.getD, List.getElem?_cons_zero, List.getElem?_cons_succ, then_normal, Option.getD_some, Bool.or_false, Bool.false_eq_true, up_zero, binv, ↓opt_def, eq_self, hrs, g2]
      refine h0 _ _ ?_
      try clear h0 K_h0
      refine T.cond rfl (fun _ => ?_) (fun h => by cases h)
      refine T.seq_k (fun K_h0 h0 => ?_)
      refine T.regi hm ?_
      simp only [↓reduceIte, namesOf, List.any, I.names, aopsI, astep, ev, setd, List.set, List.getD, List.getElem?_cons_zero, List.getElem?_cons_succ, then_normal, Option.getD_some, Bool.or_false, Bool.false_eq_true, up_zero]
      refine h0 _ _ ?_
      try clear h0 K_h0
      exact T.ret (Fin.ret rfl ⟨rfl, 0, _, ⟨by omega, by omega⟩, rfl, .inr ⟨⟨2, .inr rfl, rfl⟩, fun m h => by have := hc0 m h; omega⟩⟩)
    · have g2 : decide ((r.length : Int) < 1) = false := decide_eq_false (by omega)
      have hrs : ((⟨r.toArray⟩ : ByteArray).size : Int) = (r.length : Int) := by rw [sz_mk]
      refine T.seq_k (fun K_h0 h0 => ?_)
      refine T.regi hm ?_
      simp only [↓reduceIte, namesOf, List.any, I.names, aopsI, astep, ev, setd, List.set, List.getD, List.getElem?_cons_zero, List.getElem?_cons_succ, then_normal, Option.getD_some, Bool.or_false, Bool.false_eq_true, up_zero, binv, ↓opt_def, eq_self, hrs, g2]
      refine h0 _ _ ?_
      try clear h0 K_h0
      refine T.cond rfl (fun h => by cases h) (fun _ => T.skip ?_)
      exact nxt _ r (by omega) (fun m h => by have := hc0 m h; omega) rfl
  have g3 : ((c.toNat : Int) == 43) = false := by rw [beq_eq_false_iff_ne]; omega
  refine T.seq_k (fun K_h0 h0 => ?_)
  refine T.regi hm ?_
  simp only [↓reduceIte, namesOf, List.any, I.names, aopsI, astep, ev, setd, List.set, List.getD, List.getElem?_cons_zero, List.getElem?_cons_succ, List.length_cons, then_normal, Option.getD_some, Bool.or_false, Bool.false_eq_true, up_zero, binv, ↓opt_def, eq_self, hsz1, hpos, hg0, Int.le_refl, and_self, g1, g3]
  refine h0 _ _ ?_
  try clear h0 K_h0
  refine T.cond rfl (fun h => by cases h) (fun _ => T.skip ?_)
  exact nxt _ (c :: r) hf.2 (fun _ _ => rfl) rfl

theorem atoi_ok {l : List UInt8} {σ : St} (hE : Errs σ) (hl : l.length ≤ 1000000000) :
    ACalls Tryd.prog n_atoi [.str ⟨l.toArray⟩] σ (fun v σ' => σ' = σ ∧ AOut t_nerr (fun _ => .any) l v) := by
  refine s_atoi (fun wf => ?_)
  unfold c_atoi
  have hsz : (⟨l.toArray⟩ : ByteArray).size ≤ 1000000000 := by rw [sz_mk]; exact hl
  refine T.seq_k (fun K_h0 h0 => ?_)
  refine T.regi hm ?_
  simp only [↓reduceIte, namesOf, List.any, I.names, aopsI, astep, ev, setd, List.set, List.cons_append, List.nil_append, List.length_cons, List.length_nil, List.replicate, then_normal, Bool.or_false, Bool.false_eq_true, up_zero, Nat.reduceAdd, Nat.reduceSub]
  refine h0 _ _ ?_
  try clear h0 K_h0
  refine T.seq_k (fun K_h1 h1 => ?_)
  refine T.regi hm ?_
  simp only [↓reduceIte, namesOf, List.any, I.names, aopsI, astep, ev, setd, List.set, List.getD, List.getElem?_cons_zero, List.getElem?_cons_succ, then_normal, Option.getD_some, Bool.or_false, Bool.false_eq_true, up_zero, ↓opt_def, List.map_cons, List.map_nil]
  refine (iatoi_ok hl).mono ?_
  rintro v σ1 ⟨rfl, k, e, hk, rfl, (⟨rfl, hc⟩ | ⟨⟨c, he, rfl⟩, hc⟩)⟩
  · have g1 : eqIv true [(tCode, .i64)] .nili .nili = some true := rfl
    try simp only [List.getElem?_cons_zero, List.getElem?_cons_succ]
    refine h1 _ _ ?_
    try clear h1 K_h1
    refine T.seq_k (fun K_h1 h1 => ?_)
    refine T.seq_k (fun K_h0 h0 => ?_)
    refine T.regi hm ?_
    simp only [↓reduceIte, namesOf, List.any, I.names, aopsI, astep, ev, setd, List.set, List.getD, List.getElem?_cons_zero, List.getElem?_cons_succ, then_normal, Option.getD_some, Bool.or_false, Bool.false_eq_true, up_zero, g1, bne_self_eq_false]
    refine h0 _ _ ?_
    try clear h0 K_h0
    refine T.cond rfl (fun h => by cases h) (fun _ => T.skip ?_)
    refine h1 _ _ ?_
    try clear h1 K_h1
    refine T.seq_k (fun K_h0 h0 => ?_)
    refine T.regi hm ?_
    simp only [↓reduceIte, namesOf, List.any, I.names, aopsI, astep, ev, setd, List.set, List.getD, List.getElem?_cons_zero, List.getElem?_cons_succ, then_normal, Option.getD_some, Bool.or_false, Bool.false_eq_true, up_zero]
    refine h0 _ _ ?_
    try clear h0 K_h0
    exact T.ret (Fin.quiet rfl ⟨trivial, trivial, trivial⟩ (fun _ _ h => h) ⟨rfl, k, _, hk, rfl, .inl ⟨rfl, hc⟩⟩)
  · have g1 : eqIv true [(tCode, .i64)] (.iface t_serr (.int .i64 c)) .nili = some false := rfl
    try simp only [List.getElem?_cons_zero, List.getElem?_cons_succ]
    refine h1 _ _ ?_
    try clear h1 K_h1
    refine T.seq_k (fun K_h1 h1 => ?_)
    refine T.seq_k (fun K_h0 h0 => ?_)
    refine T.regi hm ?_
    simp only [↓reduceIte, namesOf, List.any, I.names, aopsI, astep, ev, setd, List.set, List.getD, List.getElem?_cons_zero, List.getElem?_cons_succ, then_normal, Option.getD_some, Bool.or_false, Bool.false_eq_true, up_zero, g1, Bool.false_bne]
    refine h0 _ _ ?_
    try clear h0 K_h0
    refine T.cond rfl (fun _ => ?_) (fun h => by cases h)
    refine T.seq_k (fun K_h2 h2 => ?_)
    refine T.regi hm ?_
    simp only [↓reduceIte, namesOf, List.any, I.names, aopsI, astep, ev, setd, List.set, List.getD, List.getElem?_cons_zero, List.getElem?_cons_succ, then_normal, Option.getD_some, Bool.or_false, Bool.false_eq_true, up_zero, List.map_cons, List.map_nil]
    refine (toErr_ok hE hsz he).mono ?_
    rintro v σ2 ⟨rfl, rfl⟩
    try simp only [↓reduceIte, namesOf, List.any, I.names, aops, aopsI, aopsT, qstep, CPt, qget, Tbl.get, astep, ev, setd, List.set, List.getD, List.getElem?_cons_zero, List.getElem?_cons_succ, List.getElem?_nil, List.cons_append, List.nil_append, List.length_cons, List.length_nil, List.replicate, then_normal, inBlock_normal, Option.getD_some, Option.getD_none, Bool.or_false, Bool.or_true, Bool.true_or, Bool.false_or, Bool.false_eq_true, if_false, if_true, up_zero, Nat.reduceAdd, Nat.reduceSub, binv, ↓opt_def, AV.isAny, AV.cells, ldc, List.map_cons, List.map_nil, St.set_next, St.set_same, St.up_next, Int.natCast_nonneg, lt_len, le_len, Int.toNat_natCast, true_and, and_true, eq_self, reduceCtorEq, decide_true, List.length_singleton, er_int, er_bool, er_str, srcR, up_zero]
    refine h2 _ _ ?_
    try clear h2 K_h2
    exact T.ret (Fin.quiet rfl ⟨trivial, trivial, trivial⟩ (fun _ _ h => h) ⟨rfl, k, _, hk, rfl, .inr ⟨⟨c, he, rfl⟩, hc⟩⟩)

end Go.VL

namespace Go.VL

open Go.Proofs

/-- what there is a name of -/
def What (what : List UInt8) : Prop := what = [112] ∨ what = [109] ∨ what = [105] ∨ what = [102] ∨ what = [120]

def V3 (id : Nat) (what : List UInt8) (page : Int) : Prop := id < 18446744073709551616 ∧ ((what = [112] ∧ 0 ≤ page ∧ page < 1000) ∨ ((what = [109] ∨ what = [105] ∨ what = [102] ∨ what = [120]) ∧ page = 0))

theorem V3.what {id : Nat} {what : List UInt8} {page : Int} (h : V3 id what page) : What what := by
  rcases h.2 with h | h
  · exact .inl h.1
  · exact .inr h.1

def tailF (what : List UInt8) (page : Int) : List UInt8 := if what = [112] then 112 :: dg 10 3 (page.toNat % 1000) else what

theorem nm_eq {id : Nat} {what : List UInt8} {page : Int} (h : What what) : nmF id what page = [98] ++ 47 :: (dg 16 16 id ++ 47 :: tailF what page) := by
  unfold nmF tailF nmHead
  by_cases hp : what = [112]
  · rw [if_pos hp, if_pos hp]; simp
  · rw [if_neg hp, if_neg hp, if_pos (h.resolve_left hp)]; simp

theorem tail_free {what : List UInt8} {page : Int} (h : What what) : 47 ∉ tailF what page := by
  unfold tailF
  split
  · intro hm
    rcases List.mem_cons.1 hm with h1 | h1
    · exact absurd h1 (by decide)
    · exact dg_ne (by omega) (by omega) 3 _ _ h1 rfl
  · rename_i hp
    rcases h with h | h | h | h | h
    · exact absurd h hp
    all_goals (subst h; decide)

theorem nm_split {id : Nat} {what : List UInt8} {page : Int} (h : What what) : splitB (nmF id what page) = [[98], dg 16 16 id, tailF what page] := by
  rw [nm_eq h, split_at (by decide), split_at (fun hm => dg_ne (by omega) (by omega) 16 _ _ hm rfl), split_no (tail_free h)]

/-- what the parts of a name are -/
theorem canon_parts {l p0 p1 r : List UInt8} {c : UInt8} (hs : splitB l = [p0, p1, c :: r]) {id : Nat} {what : List UInt8} {page : Int} (hv : V3 id what page) (he : l = nmF id what page) :
    canU 16 p1 id ∧ what = [c] ∧ ((c = 112 ∧ canA r page.toNat ∧ page = (page.toNat : Int)) ∨ (c ≠ 112 ∧ page = 0)) := by
  rw [he, nm_split hv.what] at hs
  injection hs with _ hs
  injection hs with h1 hs
  injection hs with h2 _
  refine ⟨⟨rfl, hv.1, h1.symm⟩, ?_⟩
  unfold tailF at h2
  rcases hv.2 with ⟨rfl, h3, h4⟩ | ⟨hw, h3⟩
  · rw [if_pos rfl] at h2
    injection h2 with h5 h6
    subst h5
    exact ⟨rfl, .inl ⟨rfl, ⟨by omega, by rw [← h6, Nat.mod_eq_of_lt (by omega)]⟩, by omega⟩⟩
  · rw [if_neg (fun h => by subst h; simp at hw)] at h2
    subst h2
    rcases hw with h | h | h | h <;> (injection h with h5 h6; subst h5 h6; exact ⟨rfl, .inr ⟨by decide, h3⟩⟩)

theorem canon_len {l : List UInt8} {id : Nat} {what : List UInt8} {page : Int} (hv : V3 id what page) (he : l = nmF id what page) : (splitB l).length = 3 ∧ ∀ p0 p1 p2, splitB l = [p0, p1, p2] → p2 ≠ [] := by
  rw [he, nm_split hv.what]
  refine ⟨rfl, fun p0 p1 p2 h => ?_⟩
  injection h with _ h
  injection h with _ h
  injection h with h _
  subst h
  unfold tailF
  split
  · simp
  · rename_i hp
    rcases hv.what with h | h | h | h | h
    · exact absurd h hp
    all_goals simp [h]

theorem V3.uniq {id id' : Nat} {what what' : List UInt8} {page page' : Int} (h : V3 id what page) (h' : V3 id' what' page') (he : nmF id what page = nmF id' what' page') : id = id' ∧ what = what' ∧ page = page' := by
  have hs := nm_split (id := id) (page := page) h.what
  obtain ⟨c, r, hcr⟩ : ∃ c r, tailF what page = c :: r := by
    cases ht : tailF what page with
    | nil => exact absurd ht ((canon_len h rfl).2 _ _ _ hs)
    | cons c r => exact ⟨c, r, rfl⟩
  rw [hcr] at hs
  obtain ⟨a1, a2, a3⟩ := canon_parts hs h rfl
  obtain ⟨b1, b2, b3⟩ := canon_parts hs h' he
  refine ⟨?_, a2.trans b2.symm, ?_⟩
  · exact dg_inj (by omega) (by omega) 16 a1.2.1 b1.2.1 (a1.2.2.symm.trans b1.2.2)
  · rcases a3 with ⟨c1, c2, c3⟩ | ⟨c1, c2⟩ <;> rcases b3 with ⟨d1, d2, d3⟩ | ⟨d1, d2⟩
    · have := dg_inj (b := 10) (by omega) (by omega) 3 c2.1 d2.1 (c2.2.symm.trans d2.2)
      omega
    · exact absurd c1 d1
    · exact absurd d1 c1
    · rw [c2, d2]

/-- what a name tells -/
def PRes (l : List UInt8) (v : AV) : Prop :=
  (∃ id what page, V3 id what page ∧ l = nmF id what page ∧ v = .tup [.int .u64 ((id : Nat) : Int), .str ⟨what.toArray⟩, .int .i64 page, .bool true]) ∨
  ((∀ id what page, V3 id what page → l ≠ nmF id what page) ∧ v = .tup [.int .u64 0, .str ⟨#[]⟩, .int .i64 0, .bool false])

theorem PRes.uniq {l : List UInt8} {v w : AV} (h : PRes l v) (k : PRes l w) : v = w := by
  rcases h with ⟨id, what, page, h1, h2, rfl⟩ | ⟨h1, rfl⟩ <;> rcases k with ⟨id', what', page', k1, k2, rfl⟩ | ⟨k1, rfl⟩
  · obtain ⟨rfl, rfl, rfl⟩ := h1.uniq k1 (h2.symm.trans k2); rfl
  · exact absurd h2 (k1 _ _ _ h1)
  · exact absurd k2 (h1 _ _ _ k1)
  · rfl

theorem nb_p0 (m : Nat) : (AV.tup [.int .u64 0, .str ⟨#[]⟩, .int .i64 0, .bool false]).nb m := ⟨trivial, trivial, trivial, trivial, trivial⟩

set_option maxRecDepth 10000 in
set_option maxHeartbeats 1000000 in
theorem mParse_ok {l : List UInt8} {σ : St} (hT : Tabs σ) (hE : Errs σ) (hl : l.length ≤ 1000000) : ACalls Tryd.prog n_mParse [.str ⟨l.toArray⟩] σ (fun v σ' => σ' = σ ∧ PRes l v) := by
  refine s_mParse (fun wf => ?_)
  unfold c_mParse
  refine T.seq_k (fun K_h0 h0 => ?_)
  refine T.regi hm ?_
  simp only [↓reduceIte, namesOf, List.any, I.names, aopsI, astep, ev, setd, List.set, List.cons_append, List.nil_append, List.length_cons, List.length_nil, List.replicate, then_normal, Bool.or_false, Bool.false_eq_true, up_zero, Nat.reduceAdd, Nat.reduceSub]
  refine h0 _ _ ?_
  try clear h0 K_h0
  refine T.seq_k (fun K_h1 h1 => ?_)
  refine T.regi hm ?_
  simp only [↓reduceIte, namesOf, List.any, I.names, aopsI, astep, ev, setd, List.set, List.getD, List.getElem?_cons_zero, List.getElem?_cons_succ, then_normal, Option.getD_some, Bool.or_false, Bool.false_eq_true, up_zero, List.map_cons, List.map_nil]
  refine (split_ok hl).mono ?_
  rintro v σ ⟨rfl, rfl⟩
  try simp only [↓reduceIte, namesOf, List.any, I.names, aops, aopsI, aopsT, qstep, CPt, qget, Tbl.get, astep, ev, setd, List.set, List.getD, List.getElem?_cons_zero, List.getElem?_cons_succ, List.getElem?_nil, List.cons_append, List.nil_append, List.length_cons, List.length_nil, List.replicate, then_normal, inBlock_normal, Option.getD_some, Option.getD_none, Bool.or_false, Bool.or_true, Bool.true_or, Bool.false_or, Bool.false_eq_true, if_false, if_true, up_zero, Nat.reduceAdd, Nat.reduceSub, binv, ↓opt_def, AV.isAny, AV.cells, ldc, List.map_cons, List.map_nil, St.set_next, St.set_same, St.up_next, Int.natCast_nonneg, lt_len, le_len, Int.toNat_natCast, true_and, and_true, eq_self, reduceCtorEq, decide_true, List.length_singleton, er_int, er_bool, er_str, srcR, up_zero]
  refine h1 _ _ ?_
  try clear h1 K_h1
  have hsum := split_sum l
  obtain ⟨ps, hps⟩ : ∃ ps, splitB l = ps := ⟨_, rfl⟩
  rw [hps] at hsum ⊢
  have fin : ∀ ρ', (∀ id what page, V3 id what page → l ≠ nmF id what page) → rvals ρ' σ [.t 2, .t 3, .t 4, .t 5] = some [.int .u64 0, .str ⟨#[]⟩, .int .i64 0, .bool false] → Fin σ [.t 2, .t 3, .t 4, .t 5] (fun v σ' => σ' = σ ∧ PRes l v) .ret ρ' σ := fun ρ' hno hr =>
    Fin.quiet hr (nb_p0 _) (fun _ _ h => h) ⟨rfl, .inr ⟨hno, rfl⟩⟩
  refine T.seq_k (fun K_h1 h1 => ?_)
  by_cases h3 : ps.length = 3
  case neg =>
    have e1 : ((ps.length : Int) != 3) = true := by simp; omega
    refine T.seq_k (fun K_h0 h0 => ?_)
    refine T.regi hm ?_
    simp only [↓reduceIte, namesOf, List.any, I.names, aopsI, astep, ev, setd, List.set, List.getD, List.getElem?_cons_zero, List.getElem?_cons_succ, then_normal, Option.getD_some, Bool.or_false, Bool.false_eq_true, up_zero, binv, ↓opt_def, eq_self, reduceCtorEq, strs_len, e1]
    refine h0 _ _ ?_
    try clear h0 K_h0
    refine T.cond rfl (fun _ => ?_) (fun h => by cases h)
    refine T.seq_k (fun K_h0 h0 => ?_)
    refine T.regi hm ?_
    simp only [↓reduceIte, namesOf, List.any, I.names, aopsI, astep, ev, setd, List.set, then_normal, Bool.or_false, Bool.false_eq_true, up_zero]
    refine h0 _ _ ?_
    try clear h0 K_h0
    exact T.ret (fin _ (fun id what page hv he => h3 (by have := (canon_len hv he).1; rw [hps] at this; exact this)) rfl)
  obtain ⟨p0, p1, p2, rfl⟩ : ∃ p0 p1 p2, ps = [p0, p1, p2] := by
    match ps, h3 with
    | [a, b, c], _ => exact ⟨a, b, c, rfl⟩
  have hlen : ((strsAV [p0, p1, p2]).length : Int) = 3 := rfl
  have e1 : ((3 : Int) != 3) = false := rfl
  have i1 : (1 : Int) < 3 := by decide
  have i2 : (2 : Int) < 3 := by decide
  have z1 : (0 : Int) ≤ 1 := by decide
  have z2 : (0 : Int) ≤ 2 := by decide
  have g1 : (strsAV [p0, p1, p2])[(1 : Int).toNat]? = some (.str ⟨p1.toArray⟩) := rfl
  have g2 : (strsAV [p0, p1, p2])[(2 : Int).toNat]? = some (.str ⟨p2.toArray⟩) := rfl
  have q2 : sbinv .eql ⟨p2.toArray⟩ ⟨#[]⟩ = some (.bool (decide (p2 = []))) := by simp only [sbinv, ba_eq p2 []]
  by_cases hp2 : p2 = []
  · have f1 : decide (p2 = []) = true := decide_eq_true hp2
    rw [f1] at q2
    refine T.seq_k (fun K_h0 h0 => ?_)
    refine T.regi hm ?_
    simp only [↓reduceIte, namesOf, List.any, I.names, aopsI, astep, ev, setd, List.set, List.getD, List.getElem?_cons_zero, List.getElem?_cons_succ, List.length_cons, List.length_nil, then_normal, Option.getD_some, Bool.or_false, Bool.false_eq_true, up_zero, binv, ↓opt_def, AV.cells, ldc, and_true, eq_self, hlen, e1, i2, z2, g2, q2, Nat.zero_add]
    refine h0 _ _ ?_
    try clear h0 K_h0
    refine T.cond rfl (fun _ => ?_) (fun h => by cases h)
    refine T.seq_k (fun K_h0 h0 => ?_)
    refine T.regi hm ?_
    simp only [↓reduceIte, namesOf, List.any, I.names, aopsI, astep, ev, setd, List.set, then_normal, Bool.or_false, Bool.false_eq_true, up_zero]
    refine h0 _ _ ?_
    try clear h0 K_h0
    exact T.ret (fin _ (fun id what page hv he => (canon_len hv he).2 _ _ _ hps hp2) rfl)
  have f1 : decide (p2 = []) = false := decide_eq_false hp2
  rw [f1] at q2
  refine T.seq_k (fun K_h0 h0 => ?_)
  refine T.regi hm ?_
  simp only [↓reduceIte, namesOf, List.any, I.names, aopsI, astep, ev, setd, List.set, List.getD, List.getElem?_cons_zero, List.getElem?_cons_succ, List.length_cons, List.length_nil, then_normal, Option.getD_some, Bool.or_false, Bool.false_eq_true, up_zero, binv, ↓opt_def, AV.cells, ldc, and_true, eq_self, hlen, e1, i2, z2, g2, q2, Nat.zero_add]
  refine h0 _ _ ?_
  try clear h0 K_h0
  refine T.cond rfl (fun h => by cases h) (fun _ => T.skip ?_)
  refine h1 _ _ ?_
  try clear h1 K_h1
  obtain ⟨c, r, rfl⟩ : ∃ c r, p2 = c :: r := by cases p2 with
    | nil => exact absurd rfl hp2
    | cons c r => exact ⟨c, r, rfl⟩
  have hl1 : p1.length ≤ 1000000 := by have := hsum p1 (by simp); omega
  have hlr : r.length ≤ 1000000 := by have := hsum (c :: r) (by simp); simp at this; omega
  have hcan := fun (id : Nat) (what : List UInt8) (page : Int) => canon_parts (id := id) (what := what) (page := page) hps
  clear hsum q2 f1 hp2 h3
  refine T.seq_k (fun K_h1 h1 => ?_)
  refine T.regi hm ?_
  simp only [↓reduceIte, namesOf, List.any, I.names, aopsI, astep, ev, setd, List.set, List.getD, List.getElem?_cons_zero, List.getElem?_cons_succ, List.length_cons, List.length_nil, then_normal, Option.getD_some, Bool.or_false, Bool.false_eq_true, up_zero, ↓opt_def, AV.cells, ldc, List.map_cons, List.map_nil, and_true, eq_self, hlen, i1, z1, g1, Nat.zero_add]
  refine (parU_ok hE (by omega)).mono ?_
  rintro v σ ⟨rfl, (⟨n, hn, rfl, hc⟩ | ⟨n, hn, rfl, hc⟩)⟩
  case inr =>
    have g0 : eqIv true [(tCode, .i64)] (.iface t_nerr .any) .nili = some false := rfl
    try simp only [List.getElem?_cons_zero, List.getElem?_cons_succ]
    refine h1 _ _ ?_
    try clear h1 K_h1
    refine T.seq_k (fun K_h1 h1 => ?_)
    refine T.seq_k (fun K_h0 h0 => ?_)
    refine T.regi hm ?_
    simp only [↓reduceIte, namesOf, List.any, I.names, aopsI, astep, ev, setd, List.set, List.getD, List.getElem?_cons_zero, List.getElem?_cons_succ, then_normal, Option.getD_some, Bool.or_false, Bool.false_eq_true, up_zero, g0, Bool.false_bne]
    refine h0 _ _ ?_
    try clear h0 K_h0
    refine T.cond rfl (fun _ => ?_) (fun h => by cases h)
    refine T.seq_k (fun K_h0 h0 => ?_)
    refine T.regi hm ?_
    simp only [↓reduceIte, namesOf, List.any, I.names, aopsI, astep, ev, setd, List.set, then_normal, Bool.or_false, Bool.false_eq_true, up_zero]
    refine h0 _ _ ?_
    try clear h0 K_h0
    exact T.ret (fin _ (fun id what page hv he => hc id (hcan _ _ _ hv he).1) rfl)
  have g0 : eqIv true [(tCode, .i64)] .nili .nili = some true := rfl
  try simp only [List.getElem?_cons_zero, List.getElem?_cons_succ]
  refine h1 _ _ ?_
  try clear h1 K_h1
  refine T.seq_k (fun K_h1 h1 => ?_)
  refine T.seq_k (fun K_h0 h0 => ?_)
  refine T.regi hm ?_
  simp only [↓reduceIte, namesOf, List.any, I.names, aopsI, astep, ev, setd, List.set, List.getD, List.getElem?_cons_zero, List.getElem?_cons_succ, then_normal, Option.getD_some, Bool.or_false, Bool.false_eq_true, up_zero, g0, bne_self_eq_false]
  refine h0 _ _ ?_
  try clear h0 K_h0
  refine T.cond rfl (fun h => by cases h) (fun _ => T.skip ?_)
  refine h1 _ _ ?_
  try clear h1 K_h1
  have hsz : ((⟨(c :: r).toArray⟩ : ByteArray).size : Int) = ((r.length + 1 : Nat) : Int) := by rw [sz_mk]; rfl
  have hx1 : (⟨(c :: r).toArray⟩ : ByteArray).extract 0 1 = ⟨[c].toArray⟩ := by rw [ba_cut]; simp
  have hx2 : (⟨(c :: r).toArray⟩ : ByteArray).extract 1 (r.length + 1) = ⟨r.toArray⟩ := by rw [ba_cut]; simp
  have h1le : (1 : Int) ≤ ((r.length + 1 : Nat) : Int) := by omega
  have qp : sbinv .eql ⟨[c].toArray⟩ ⟨#[112]⟩ = some (.bool (decide (c = 112))) := by
    simp only [sbinv, ba_eq [c] [112]]
    congr 3
    simp
  refine T.seq_k (fun K_h0 h0 => ?_)
  refine T.regi hm ?_
  simp only [↓reduceIte, namesOf, List.any, I.names, aopsI, astep, ev, setd, List.set, List.getD, List.getElem?_cons_zero, List.getElem?_cons_succ, List.length_cons, List.length_nil, then_normal, Option.getD_some, Bool.or_false, Bool.false_eq_true, up_zero, ↓opt_def, AV.cells, ldc, eq_self, hlen, i2, z2, g2, hsz, idx, h1le, hx1, Int.le_refl, and_self, Int.toNat_zero, Int.toNat_one, z1, Nat.zero_add]
  refine h0 _ _ ?_
  try clear h0 K_h0
  refine T.seq_k (fun K_h1 h1 => ?_)
  have nxt : ∀ (ρ' : List AV) (k : Int), i64r k → ((c = 112 ∧ ∀ m, canA r m → k = (m : Int)) ∨ (c ≠ 112 ∧ k = 0)) →
      keep [0, 7, 9, 10] 0 ρ' = [.str ⟨l.toArray⟩, .any, .any, .any, .any, .any, .any, .int .u64 (n : Int), .any, .str ⟨[c].toArray⟩, .int .i64 k] ++ List.replicate 48 .any → K_h1 ρ' σ := by
    intro ρ' k hk hkc hρ
    refine h1 _ _ ?_
    try clear h1 K_h1
    refine T.gh (Gh.keep [0, 7, 9, 10]) ?_
    rw [hρ]
    clear hρ ρ'
    have qn : sbinv .neq ⟨(nmF n [c] k).toArray⟩ ⟨l.toArray⟩ = some (.bool (!decide (nmF n [c] k = l))) := by simp only [sbinv, ba_eq]
    refine T.seq_k (fun K_h1 h1 => ?_)
    refine T.seq_k (fun K_h2 h2 => ?_)
    refine T.regi hm ?_
    simp only [↓reduceIte, namesOf, List.any, I.names, aopsI, astep, ev, setd, List.set, List.getD, List.getElem?_cons_zero, List.getElem?_cons_succ, List.cons_append, List.nil_append, List.replicate, then_normal, Option.getD_some, Bool.or_false, Bool.false_eq_true, up_zero, ↓opt_def, List.map_cons, List.map_nil]
    refine (mName_ok (what := [c]) hT hn hk (by simp)).mono ?_
    rintro v σ ⟨rfl, rfl⟩
    by_cases hnm : nmF n [c] k = l
    · rw [decide_eq_true hnm] at qn
      try simp only [qn, Bool.not_true]
      refine h2 _ _ ?_
      try clear h2 K_h2
      refine T.cond rfl (fun h => by cases h) (fun _ => T.skip ?_)
      refine h1 _ _ ?_
      try clear h1 K_h1
      refine T.seq_k (fun K_h0 h0 => ?_)
      refine T.regi hm ?_
      simp only [↓reduceIte, namesOf, List.any, I.names, aopsI, astep, ev, setd, List.set, List.getD, List.getElem?_cons_zero, List.getElem?_cons_succ, then_normal, Option.getD_some, Bool.or_false, Bool.false_eq_true, up_zero]
      refine h0 _ _ ?_
      try clear h0 K_h0
      have hw : What [c] := by
        by_cases h0 : What [c]
        · exact h0
        · have : nmF n [c] k = [] := by
            unfold nmF
            rw [if_neg (fun h => h0 (.inl h)), if_neg (fun h => h0 (.inr h))]
          rw [this] at hnm
          rw [← hnm] at hps
          simp [splitB] at hps
      have hparts := nm_split (id := n) (page := k) hw
      rw [hnm, hps] at hparts
      injection hparts with _ hparts
      injection hparts with _ hparts
      injection hparts with hp _
      have hv : V3 n [c] k := by
        refine ⟨hn, ?_⟩
        rcases hkc with ⟨rfl, hm⟩ | ⟨hne, h0⟩
        · unfold tailF at hp
          rw [if_pos rfl] at hp
          injection hp with _ hp
          have h1 : k.toNat % 1000 < 1000 := Nat.mod_lt _ (by omega)
          have := hm (k.toNat % 1000) ⟨h1, hp⟩
          exact .inl ⟨rfl, by omega, by omega⟩
        · exact .inr ⟨hw.resolve_left (fun h => hne (by simpa using h)), h0⟩
      exact T.ret (Fin.quiet rfl ⟨trivial, trivial, trivial, trivial, trivial⟩ (fun _ _ h => h) ⟨rfl, .inl ⟨n, [c], k, hv, hnm.symm, rfl⟩⟩)
    · rw [decide_eq_false hnm] at qn
      try simp only [qn, Bool.not_false]
      refine h2 _ _ ?_
      try clear h2 K_h2
      refine T.cond rfl (fun _ => ?_) (fun h => by cases h)
      refine T.seq_k (fun K_h0 h0 => ?_)
      refine T.regi hm ?_
      simp only [↓reduceIte, namesOf, List.any, I.names, aopsI, astep, ev, setd, List.set, then_normal, Bool.or_false, Bool.false_eq_true, up_zero]
      refine h0 _ _ ?_
      try clear h0 K_h0
      refine T.ret (fin _ (fun id what page hv he => hnm ?_) rfl)
      obtain ⟨a1, a2, a3⟩ := hcan _ _ _ hv he
      have b1 := hc id a1
      have b2 : k = page := by
        rcases hkc with ⟨h0, hm⟩ | ⟨h0, hm⟩ <;> rcases a3 with ⟨d1, d2, d3⟩ | ⟨d1, d2⟩
        · rw [hm _ d2, ← d3]
        · exact absurd h0 d1
        · exact absurd d1 h0
        · rw [hm, d2]
      rw [b1, b2, he, a2]
  by_cases h112 : c = 112
  · rw [decide_eq_true h112] at qp
    refine T.seq_k (fun K_h0 h0 => ?_)
    refine T.regi hm ?_
    simp only [↓reduceIte, namesOf, List.any, I.names, aopsI, astep, ev, setd, List.set, List.getD, List.getElem?_cons_zero, List.getElem?_cons_succ, then_normal, Option.getD_some, Bool.or_false, Bool.false_eq_true, up_zero, ↓opt_def, qp]
    refine h0 _ _ ?_
    try clear h0 K_h0
    refine T.cond rfl (fun _ => ?_) (fun h => by cases h)
    refine T.seq_k (fun K_h2 h2 => ?_)
    refine T.regi hm ?_
    simp only [↓reduceIte, namesOf, List.any, I.names, aopsI, astep, ev, setd, List.set, List.getD, List.getElem?_cons_zero, List.getElem?_cons_succ, List.length_cons, List.length_nil, then_normal, Option.getD_some, Bool.or_false, Bool.false_eq_true, up_zero, ↓opt_def, AV.cells, ldc, List.map_cons, List.map_nil, Int.toNat_natCast, eq_self, hlen, i2, z2, g2, hsz, idx, h1le, hx2, Int.le_refl, and_self, Int.toNat_one, z1, Nat.zero_add]
    refine (atoi_ok hE (by omega)).mono ?_
    rintro v σ ⟨rfl, k, e, hk, rfl, (⟨rfl, hmm⟩ | ⟨⟨cc, _, rfl⟩, hno⟩)⟩
    · try simp only [List.getElem?_cons_zero, List.getElem?_cons_succ]
      refine h2 _ _ ?_
      try clear h2 K_h2
      refine T.seq_k (fun K_h2 h2 => ?_)
      refine T.seq_k (fun K_h0 h0 => ?_)
      refine T.regi hm ?_
      simp only [↓reduceIte, namesOf, List.any, I.names, aopsI, astep, ev, setd, List.set, List.getD, List.getElem?_cons_zero, List.getElem?_cons_succ, then_normal, Option.getD_some, Bool.or_false, Bool.false_eq_true, up_zero, g0, bne_self_eq_false]
      refine h0 _ _ ?_
      try clear h0 K_h0
      refine T.cond rfl (fun h => by cases h) (fun _ => T.skip ?_)
      refine h2 _ _ ?_
      try clear h2 K_h2
      refine T.regi hm ?_
      simp only [↓reduceIte, namesOf, List.any, I.names, aopsI, astep, ev, setd, List.set, List.getD, List.getElem?_cons_zero, List.getElem?_cons_succ, then_normal, Option.getD_some, Bool.or_false, Bool.false_eq_true, up_zero]
      exact nxt _ k hk (.inl ⟨h112, hmm⟩) rfl
    · have g3 : eqIv true [(tCode, .i64)] (.iface t_nerr .any) .nili = some false := rfl
      try simp only [List.getElem?_cons_zero, List.getElem?_cons_succ]
      refine h2 _ _ ?_
      try clear h2 K_h2
      refine T.seq_k (fun K_h2 h2 => ?_)
      refine T.seq_k (fun K_h0 h0 => ?_)
      refine T.regi hm ?_
      simp only [↓reduceIte, namesOf, List.any, I.names, aopsI, astep, ev, setd, List.set, List.getD, List.getElem?_cons_zero, List.getElem?_cons_succ, then_normal, Option.getD_some, Bool.or_false, Bool.false_eq_true, up_zero, g3, Bool.false_bne]
      refine h0 _ _ ?_
      try clear h0 K_h0
      refine T.cond rfl (fun _ => ?_) (fun h => by cases h)
      refine T.seq_k (fun K_h0 h0 => ?_)
      refine T.regi hm ?_
      simp only [↓reduceIte, namesOf, List.any, I.names, aopsI, astep, ev, setd, List.set, then_normal, Bool.or_false, Bool.false_eq_true, up_zero]
      refine h0 _ _ ?_
      try clear h0 K_h0
      refine T.ret (fin _ (fun id what page hv he => ?_) rfl)
      rcases (hcan _ _ _ hv he).2.2 with ⟨_, d2, _⟩ | ⟨d1, _⟩
      · exact hno _ d2
      · exact d1 h112
  · rw [decide_eq_false h112] at qp
    refine T.seq_k (fun K_h0 h0 => ?_)
    refine T.regi hm ?_
    simp only [↓reduceIte, namesOf, List.any, I.names, aopsI, astep, ev, setd, List.set, List.getD, List.getElem?_cons_zero, List.getElem?_cons_succ, then_normal, Option.getD_some, Bool.or_false, Bool.false_eq_true, up_zero, ↓opt_def, qp]
    refine h0 _ _ ?_
    try clear h0 K_h0
    refine T.cond rfl (fun h => by cases h) (fun _ => T.skip ?_)
    exact nxt _ 0 ⟨by omega, by omega⟩ (.inr ⟨h112, rfl⟩) rfl

end Go.VL

namespace Go.VL

open Go.Proofs

theorem nmp_len {id : Nat} {what : List UInt8} {page : Int} (h : What what) : (nmF id what page).length = if what = [112] then 23 else 20 := by
  rw [nm_eq h]
  unfold tailF
  split
  · simp [dg_len]
  · rename_i hp
    rcases h with h | h | h | h | h
    · exact absurd h hp
    all_goals simp [h, dg_len]

end Go.VL

namespace Go.VL

open Go.Proofs

def metAV (l : List Nat) : List (AV × AV) := l.map fun n : Nat => (.int .u64 (n : Int), .bool true)

theorem met_put (l : List Nat) (n : Nat) (h : l.contains n = false) : mput (.int .u64 (n : Int)) (.bool true) (metAV l) = metAV (l ++ [n]) := by
  induction l with
  | nil => rfl
  | cons a r ih =>
    unfold metAV at ih ⊢
    simp only [List.contains_cons, Bool.or_eq_false_iff] at h
    have h1 : ((n : Int) == (a : Int)) = false := by have := h.1; simp at this ⊢; omega
    simp only [List.map_cons, mput, keq, if_true, h1, ih h.2, List.cons_append]

structure OneSt (σ σ' : St) (a m : Nat) (t : Tc) (l : List Nat) : Prop where
  a0 : σ.next ≤ a
  m0 : σ.next ≤ m
  a1 : a < σ'.next
  m1 : m < σ'.next
  obj : σ'.res a = some (.obj t.av.cells)
  map : σ'.res m = some (.map (metAV l) (List.range l.length) l.length)
  old : ∀ n r, σ.res n = some r → σ'.res n = some r

theorem OneSt.put {σ σ' : St} {a m : Nat} {t : Tc} {l : List Nat} {n : Nat} (wf : WF σ) (ham : a ≠ m) (h : OneSt σ σ' a m t l) (hn : l.contains n = false) : OneSt σ (σ'.set m (.map (mput (.int .u64 (n : Int)) (.bool true) (metAV l)) (List.range l.length ++ [l.length]) (l.length + 1))) a m t (l ++ [n]) where
  a0 := h.a0
  m0 := h.m0
  a1 := h.a1
  m1 := h.m1
  obj := by rw [St.set_other _ _ ham]; exact h.obj
  map := by rw [St.set_same, met_put l n hn, List.length_append, List.length_singleton, List.range_succ]
  old := fun n r' hr => by
    have hn : n < σ.next := by
      rcases Nat.lt_or_ge n σ.next with h' | h'
      · exact h'
      · rw [wf n h'] at hr; cases hr
    rw [St.set_other _ _ (by have := h.m0; omega)]; exact h.old n r' hr

end Go.VL

namespace Go.VL

open Go.Proofs

/-- a span whose Ids are words -/
def Sp.wd (s : Sp) : Prop := s.tr < 18446744073709551616 ∧ s.id < 18446744073709551616

end Go.VL

namespace Go.VL

open Go.Proofs

/-- an end that is owned, and what was owned ahead of it -/
structure Tp (σ σ' : St) (g k : Nat) : Prop where
  lo : σ.next ≤ g
  hi : g < σ'.next
  at_ : σ'.res g = some (.tip k)
  old : ∀ n x, σ.res n = some x → σ'.res n = some x

theorem Tp.new {σ σ' : St} {k n i : Nat} (wf : WF σ) (hn : σ.next ≤ σ'.next) (ho : ∀ n x, σ.res n = some x → σ'.res n = some x) (hi : i < n) : Tp σ ((σ'.up n).set (σ'.next + i) (.tip k)) (σ'.next + i) k :=
  ⟨by omega, by simp; omega, by simp, set_quiet wf hn ho _ (by omega)⟩

theorem Tp.mv {σ σ' : St} {g g2 k : Nat} (wf : WF σ) (h : Tp σ σ' g k) (hlo : σ.next ≤ g2) (hhi : g2 < σ'.next) : Tp σ ((σ'.del g).set g2 (.tip k)) g2 k :=
  ⟨hlo, by simpa using hhi, by simp, fun n x hr => by
    have hn : n < σ.next := by
      rcases Nat.lt_or_ge n σ.next with h' | h'
      · exact h'
      · rw [wf n h'] at hr; cases hr
    have h1 := h.lo
    rw [St.set_other _ _ (by omega)]
    simp only [St.del]
    rw [if_neg (by omega)]; exact h.old n x hr⟩

theorem Tp.up {σ σ' : St} {g k : Nat} (h : Tp σ σ' g k) (n : Nat) : Tp σ (σ'.up n) g k := ⟨h.lo, Nat.lt_of_lt_of_le h.hi (Nat.le_add_right _ _), h.at_, h.old⟩

end Go.VL

namespace Go.VL

open Go.Proofs

/-- a reader (an owned thing nm), a row that grows, and names that nobody knows -/
structure Rk (σ t : St) (nm : Nat) (r : Res) (k : Nat) (v : Ver) : Prop where
  like : Like σ t
  lo : σ.next ≤ nm
  hi : nm < t.next
  at_ : t.res nm = some r
  ver : v = .nil ∨ ∃ g, v = .tip g ∧ g ≠ nm ∧ σ.next ≤ g ∧ g < t.next ∧ t.res g = some (.tip k)

theorem Rk.set {σ t : St} {nm k : Nat} {r : Res} {v : Ver} (h : Rk σ t nm r k v) (r' : Res) : Rk σ (t.set nm r') nm r' k v :=
  ⟨h.like.set _ h.lo, h.lo, h.hi, by simp, h.ver.imp id fun ⟨g, a1, a2, a3, a4, a5⟩ => ⟨g, a1, a2, a3, a4, by rw [St.set_other _ _ a2]; exact a5⟩⟩

theorem Rk.up {σ t : St} {nm k : Nat} {r : Res} {v : Ver} (h : Rk σ t nm r k v) (n : Nat) : Rk σ (t.up n) nm r k v :=
  ⟨h.like.up n, h.lo, Nat.lt_of_lt_of_le h.hi (Nat.le_add_right _ _), h.at_, h.ver.imp id fun ⟨g, a1, a2, a3, a4, a5⟩ => ⟨g, a1, a2, a3, Nat.lt_of_lt_of_le a4 (Nat.le_add_right _ _), a5⟩⟩

theorem Rk.new {σ t : St} {nm k : Nat} {r : Res} {v : Ver} (h : Rk σ t nm r k v) {a : Nat} (r' : Res) (ha : σ.next ≤ a) (hn : a ≠ nm) (hv : ∀ g, v = .tip g → a ≠ g) : Rk σ (t.set a r') nm r k v :=
  ⟨h.like.set _ ha, h.lo, h.hi, by rw [St.set_other _ _ (Ne.symm hn)]; exact h.at_, h.ver.imp id fun ⟨g, a1, a2, a3, a4, a5⟩ => ⟨g, a1, a2, a3, a4, by rw [St.set_other _ _ (Ne.symm (hv g a1))]; exact a5⟩⟩

theorem Rk.lt {σ t : St} {nm k : Nat} {r : Res} {v : Ver} (h : Rk σ t nm r k v) {g : Nat} (hv : v = .tip g) : g < t.next := by
  rcases h.ver with e | ⟨g', e, _, _, h4, _⟩
  · rw [hv] at e; cases e
  · rw [hv] at e; cases e; exact h4

end Go.VL

namespace Go.VL

open Go.Proofs

/-- the reader's place in what is left of the bytes -/
def sh (k : Nat) (s : Rs) : Rs := ⟨s.at_ - k, if s.bad = -1 then -1 else s.bad - k⟩

structure SH (k : Nat) (b : List UInt8) (s : Rs) : Prop where
  ok : s.ok b
  len : k ≤ b.length
  lo : (k : Int) ≤ s.at_
  bad : s.bad = -1 ∨ (k : Int) ≤ s.bad

theorem SH.neg {k : Nat} {b : List UInt8} {s : Rs} (h : SH k b s) : (sh k s).bad = -1 ↔ s.bad = -1 := by
  unfold sh; have := h.bad
  split <;> simp_all <;> omega

theorem SH.pos {k : Nat} {b : List UInt8} {s : Rs} (h : SH k b s) : 0 ≤ (sh k s).bad ↔ 0 ≤ s.bad := by
  unfold sh; have := h.bad
  split <;> simp_all <;> omega

theorem SH.rt {k : Nat} {b : List UInt8} {s : Rs} (h : SH k b s) (w : Int) : rT (b.drop k) (sh k s) w = rT b s w := by
  have e := h.neg
  have := h.len
  unfold rT
  rw [Bool.eq_iff_iff, decide_eq_true_eq, decide_eq_true_eq, e, List.length_drop]
  unfold sh
  constructor <;> rintro ⟨h1, h2⟩ <;> refine ⟨h1, ?_⟩ <;> simp only [] at * <;> omega

theorem SH.rw {k : Nat} {b : List UInt8} {s : Rs} (h : SH k b s) (w : Nat) : rW (b.drop k) (sh k s) w = rW b s w := by
  unfold rW
  rw [h.rt]
  have : (b.drop k).drop (sh k s).at_.toNat = b.drop s.at_.toNat := by
    rw [List.drop_drop]; unfold sh; have := h.lo; congr 1; simp only []; omega
  rw [this]

end Go.VL

namespace Go.VL

open Go.Proofs

-- tb05: not of this seat

/-- traces whose numbers are words -/
def Tc.wd (t : Tc) : Prop := t.id < 18446744073709551616 ∧ ∀ s ∈ t.sp, s.wd

end Go.VL

namespace Go.VL

open Go.Proofs

structure Mt where
  id : Nat
  level : Int
  st : Int
  en : Int
  pages : Int
  traces : Int
  deriving DecidableEq

abbrev mtC (m : Mt) : List AV := [.int .u64 (m.id : Int), .int .i64 m.level, .int .i64 m.st, .int .i64 m.en, .int .i64 m.pages, .int .i64 m.traces]

/-- do metas rise by Id? -/
abbrev RisM (l : List Mt) : Prop := l.Pairwise fun x y => x.id < y.id

theorem RisM.bad {l : List Mt} {i : Nat} {x y : Mt} (hi : 0 < i) (hx : l[i - 1]? = some x) (hy : l[i]? = some y) (hlt : ¬ x.id < y.id) : ¬ RisM l := fun h => by
  obtain ⟨hil, rfl⟩ := List.getElem?_eq_some_iff.1 hy
  obtain ⟨hil2, rfl⟩ := List.getElem?_eq_some_iff.1 hx
  exact hlt (List.pairwise_iff_getElem.1 h _ _ hil2 hil (by omega))

end Go.VL

namespace Go.VL

open Go.Proofs

abbrev mayM (m : Mt) : Prop := (m.id : Int) ≥ 1 ∧ m.level ≥ 0 ∧ m.level ≤ 10 ∧ m.st ≥ 0 ∧ m.st ≤ m.en ∧ m.en ≤ 1099511627776 ∧ m.pages ≥ 1 ∧ m.pages ≤ 200 ∧ m.traces ≥ m.pages ∧ m.traces ≤ m.pages * 64

set_option maxRecDepth 10000 in
set_option maxHeartbeats 1000000 in
theorem mMay_ok {m : Mt} {σ : St} : ACalls Tryd.prog n_mMay [.agg [.int .u64 (m.id : Int), .int .i64 m.level, .int .i64 m.st, .int .i64 m.en, .int .i64 m.pages, .int .i64 m.traces]] σ (fun v σ' => v = .bool (decide (mayM m)) ∧ σ' = σ) := by
  refine s_mMay (fun wf => ?_)
  unfold c_mMay
  refine T.seq_k (fun K_h0 h0 => ?_)
  refine T.regi hm ?_
  simp only [↓reduceIte, namesOf, List.any, I.names, aopsI, astep, ev, setd, List.set, List.getD, List.getElem?_cons_zero, List.cons_append, List.nil_append, List.length_cons, List.length_nil, List.replicate, then_normal, Option.getD_some, Bool.or_false, Bool.false_eq_true, Nat.reduceAdd, Nat.reduceSub, AV.isAny, AV.cells, eq_self]
  refine h0 _ _ ?_
  try clear h0 K_h0
  have hb : ((σ.up 2).set (σ.next + 0) (.obj [.int .u64 (m.id : Int), .int .i64 m.level, .int .i64 m.st, .int .i64 m.en, .int .i64 m.pages, .int .i64 m.traces])).res (σ.next + 0) = some (.obj [.int .u64 (m.id : Int), .int .i64 m.level, .int .i64 m.st, .int .i64 m.en, .int .i64 m.pages, .int .i64 m.traces]) := St.set_same _ _ _
  have hL : Like σ ((σ.up 2).set (σ.next + 0) (.obj [.int .u64 (m.id : Int), .int .i64 m.level, .int .i64 m.st, .int .i64 m.en, .int .i64 m.pages, .int .i64 m.traces])) := (Like.refl σ).box (n := 2) (i := 0) _
  generalize ((σ.up 2).set (σ.next + 0) (.obj [.int .u64 (m.id : Int), .int .i64 m.level, .int .i64 m.st, .int .i64 m.en, .int .i64 m.pages, .int .i64 m.traces])) = t at hb hL ⊢
  generalize σ.next + 0 = b at hb ⊢
  by_cases c1 : (m.id : Int) ≥ 1
  case neg =>
    have f1 : decide ((m.id : Int) ≥ 1) = false := decide_eq_false c1
    have hm0 : decide (mayM m) = false := decide_eq_false (fun h => c1 h.1)
    refine T.seq_k (fun K_h0 h0 => ?_)
    refine T.regi hm ?_
    simp only [↓reduceIte, namesOf, List.any, I.names, aopsI, astep, ev, setd, List.set, List.getD, List.getElem?_cons_zero, List.getElem?_cons_succ, then_normal, Option.getD_some, Bool.or_false, Bool.false_eq_true, up_zero, binv, ↓opt_def, ldc, eq_self, hb, Nat.zero_add, f1]
    refine h0 _ _ ?_
    try clear h0 K_h0
    exact T.ret (Fin.quiet rfl trivial (hL.quiet wf) ⟨by rw [hm0]; rfl, rfl⟩)
  have f1 : decide ((m.id : Int) ≥ 1) = true := decide_eq_true c1
  by_cases c2 : m.level ≥ 0
  case neg =>
    have f2 : decide (m.level ≥ 0) = false := decide_eq_false c2
    have hm0 : decide (mayM m) = false := decide_eq_false (fun h => c2 h.2.1)
    refine T.seq_k (fun K_h0 h0 => ?_)
    refine T.regi hm ?_
    simp only [↓reduceIte, namesOf, List.any, I.names, aopsI, astep, ev, setd, List.set, List.getD, List.getElem?_cons_zero, List.getElem?_cons_succ, then_normal, Option.getD_some, Bool.or_false, Bool.false_eq_true, up_zero, binv, ↓opt_def, ldc, eq_self, hb, Nat.zero_add, f1, f2]
    refine h0 _ _ ?_
    try clear h0 K_h0
    exact T.ret (Fin.quiet rfl trivial (hL.quiet wf) ⟨by rw [hm0]; rfl, rfl⟩)
  have f2 : decide (m.level ≥ 0) = true := decide_eq_true c2
  by_cases c3 : m.level ≤ 10
  case neg =>
    have f3 : decide (m.level ≤ 10) = false := decide_eq_false c3
    have hm0 : decide (mayM m) = false := decide_eq_false (fun h => c3 h.2.2.1)
    refine T.seq_k (fun K_h0 h0 => ?_)
    refine T.regi hm ?_
    simp only [↓reduceIte, namesOf, List.any, I.names, aopsI, astep, ev, setd, List.set, List.getD, List.getElem?_cons_zero, List.getElem?_cons_succ, then_normal, Option.getD_some, Bool.or_false, Bool.false_eq_true, up_zero, binv, ↓opt_def, ldc, eq_self, hb, Nat.zero_add, f1, f2, f3]
    refine h0 _ _ ?_
    try clear h0 K_h0
    exact T.ret (Fin.quiet rfl trivial (hL.quiet wf) ⟨by rw [hm0]; rfl, rfl⟩)
  have f3 : decide (m.level ≤ 10) = true := decide_eq_true c3
  by_cases c4 : m.st ≥ 0
  case neg =>
    have f4 : decide (m.st ≥ 0) = false := decide_eq_false c4
    have hm0 : decide (mayM m) = false := decide_eq_false (fun h => c4 h.2.2.2.1)
    refine T.seq_k (fun K_h0 h0 => ?_)
    refine T.regi hm ?_
    simp only [↓reduceIte, namesOf, List.any, I.names, aopsI, astep, ev, setd, List.set, List.getD, List.getElem?_cons_zero, List.getElem?_cons_succ, then_normal, Option.getD_some, Bool.or_false, Bool.false_eq_true, up_zero, binv, ↓opt_def, ldc, eq_self, hb, Nat.zero_add, f1, f2, f3, f4]
    refine h0 _ _ ?_
    try clear h0 K_h0
    exact T.ret (Fin.quiet rfl trivial (hL.quiet wf) ⟨by rw [hm0]; rfl, rfl⟩)
  have f4 : decide (m.st ≥ 0) = true := decide_eq_true c4
  by_cases c5 : m.st ≤ m.en
  case neg =>
    have f5 : decide (m.st ≤ m.en) = false := decide_eq_false c5
    have hm0 : decide (mayM m) = false := decide_eq_false (fun h => c5 h.2.2.2.2.1)
    refine T.seq_k (fun K_h0 h0 => ?_)
    refine T.regi hm ?_
    simp only [↓reduceIte, namesOf, List.any, I.names, aopsI, astep, ev, setd, List.set, List.getD, List.getElem?_cons_zero, List.getElem?_cons_succ, then_normal, Option.getD_some, Bool.or_false, Bool.false_eq_true, up_zero, binv, ↓opt_def, ldc, eq_self, hb, Nat.zero_add, f1, f2, f3, f4, f5]
    refine h0 _ _ ?_
    try clear h0 K_h0
    exact T.ret (Fin.quiet rfl trivial (hL.quiet wf) ⟨by rw [hm0]; rfl, rfl⟩)
  have f5 : decide (m.st ≤ m.en) = true := decide_eq_true c5
  by_cases c6 : m.en ≤ 1099511627776
  case neg =>
    have f6 : decide (m.en ≤ 1099511627776) = false := decide_eq_false c6
    have hm0 : decide (mayM m) = false := decide_eq_false (fun h => c6 h.2.2.2.2.2.1)
    refine T.seq_k (fun K_h0 h0 => ?_)
    refine T.regi hm ?_
    simp only [↓reduceIte, namesOf, List.any, I.names, aopsI, astep, ev, setd, List.set, List.getD, List.getElem?_cons_zero, List.getElem?_cons_succ, then_normal, Option.getD_some, Bool.or_false, Bool.false_eq_true, up_zero, binv, ↓opt_def, ldc, eq_self, hb, Nat.zero_add, f1, f2, f3, f4, f5, f6]
    refine h0 _ _ ?_
    try clear h0 K_h0
    exact T.ret (Fin.quiet rfl trivial (hL.quiet wf) ⟨by rw [hm0]; rfl, rfl⟩)
  have f6 : decide (m.en ≤ 1099511627776) = true := decide_eq_true c6
  by_cases c7 : m.pages ≥ 1
  case neg =>
    have f7 : decide (m.pages ≥ 1) = false := decide_eq_false c7
    have hm0 : decide (mayM m) = false := decide_eq_false (fun h => c7 h.2.2.2.2.2.2.1)
    refine T.seq_k (fun K_h0 h0 => ?_)
    refine T.regi hm ?_
    simp only [↓reduceIte, namesOf, List.any, I.names, aopsI, astep, ev, setd, List.set, List.getD, List.getElem?_cons_zero, List.getElem?_cons_succ, then_normal, Option.getD_some, Bool.or_false, Bool.false_eq_true, up_zero, binv, ↓opt_def, ldc, eq_self, hb, Nat.zero_add, f1, f2, f3, f4, f5, f6, f7]
    refine h0 _ _ ?_
    try clear h0 K_h0
    exact T.ret (Fin.quiet rfl trivial (hL.quiet wf) ⟨by rw [hm0]; rfl, rfl⟩)
  have f7 : decide (m.pages ≥ 1) = true := decide_eq_true c7
  by_cases c8 : m.pages ≤ 200
  case neg =>
    have f8 : decide (m.pages ≤ 200) = false := decide_eq_false c8
    have hm0 : decide (mayM m) = false := decide_eq_false (fun h => c8 h.2.2.2.2.2.2.2.1)
    refine T.seq_k (fun K_h0 h0 => ?_)
    refine T.regi hm ?_
    simp only [↓reduceIte, namesOf, List.any, I.names, aopsI, astep, ev, setd, List.set, List.getD, List.getElem?_cons_zero, List.getElem?_cons_succ, then_normal, Option.getD_some, Bool.or_false, Bool.false_eq_true, up_zero, binv, ↓opt_def, ldc, eq_self, hb, Nat.zero_add, f1, f2, f3, f4, f5, f6, f7, f8]
    refine h0 _ _ ?_
    try clear h0 K_h0
    exact T.ret (Fin.quiet rfl trivial (hL.quiet wf) ⟨by rw [hm0]; rfl, rfl⟩)
  have f8 : decide (m.pages ≤ 200) = true := decide_eq_true c8
  by_cases c9 : m.traces ≥ m.pages
  case neg =>
    have f9 : decide (m.traces ≥ m.pages) = false := decide_eq_false c9
    have hm0 : decide (mayM m) = false := decide_eq_false (fun h => c9 h.2.2.2.2.2.2.2.2.1)
    refine T.seq_k (fun K_h0 h0 => ?_)
    refine T.regi hm ?_
    simp only [↓reduceIte, namesOf, List.any, I.names, aopsI, astep, ev, setd, List.set, List.getD, List.getElem?_cons_zero, List.getElem?_cons_succ, then_normal, Option.getD_some, Bool.or_false, Bool.false_eq_true, up_zero, binv, ↓opt_def, ldc, eq_self, hb, Nat.zero_add, f1, f2, f3, f4, f5, f6, f7, f8, f9]
    refine h0 _ _ ?_
    try clear h0 K_h0
    exact T.ret (Fin.quiet rfl trivial (hL.quiet wf) ⟨by rw [hm0]; rfl, rfl⟩)
  have f9 : decide (m.traces ≥ m.pages) = true := decide_eq_true c9
  have hw : IntKind.i64.wrap (m.pages * 64) = m.pages * 64 := wrap64 (by omega) (by omega)
  by_cases c10 : m.traces ≤ m.pages * 64
  case neg =>
    have f10 : decide (m.traces ≤ m.pages * 64) = false := decide_eq_false c10
    have hm0 : decide (mayM m) = false := decide_eq_false (fun h => c10 h.2.2.2.2.2.2.2.2.2)
    refine T.seq_k (fun K_h0 h0 => ?_)
    refine T.regi hm ?_
    simp only [↓reduceIte, namesOf, List.any, I.names, aopsI, astep, ev, setd, List.set, List.getD, List.getElem?_cons_zero, List.getElem?_cons_succ, then_normal, Option.getD_some, Bool.or_false, Bool.false_eq_true, up_zero, binv, ↓opt_def, ldc, eq_self, hb, Nat.zero_add, f1, f2, f3, f4, f5, f6, f7, f8, f9, f10, hw]
    refine h0 _ _ ?_
    try clear h0 K_h0
    exact T.ret (Fin.quiet rfl trivial (hL.quiet wf) ⟨by rw [hm0]; rfl, rfl⟩)
  have f10 : decide (m.traces ≤ m.pages * 64) = true := decide_eq_true c10
  have hm0 : decide (mayM m) = true := decide_eq_true ⟨c1, c2, c3, c4, c5, c6, c7, c8, c9, c10⟩
  refine T.seq_k (fun K_h0 h0 => ?_)
  refine T.regi hm ?_
  simp only [↓reduceIte, namesOf, List.any, I.names, aopsI, astep, ev, setd, List.set, List.getD, List.getElem?_cons_zero, List.getElem?_cons_succ, then_normal, Option.getD_some, Bool.or_false, Bool.false_eq_true, up_zero, binv, ↓opt_def, ldc, eq_self, hb, Nat.zero_add, f1, f2, f3, f4, f5, f6, f7, f8, f9, f10, hw]
  refine h0 _ _ ?_
  try clear h0 K_h0
  exact T.ret (Fin.quiet rfl trivial (hL.quiet wf) ⟨by rw [hm0]; rfl, rfl⟩)

structure Mk where
  id : Nat
  at_ : Int
  by_ : Nat

abbrev fairM (k : Mk) : Prop := (k.id : Int) ≥ 1 ∧ k.at_ ≥ 0 ∧ k.at_ ≤ 1099511627776 ∧ k.by_ ≠ k.id

abbrev mkC (k : Mk) : List AV := [.int .u64 (k.id : Int), .int .i64 k.at_, .int .u64 (k.by_ : Int)]

set_option maxRecDepth 10000 in
theorem mFair_ok {k : Mk} {σ : St} : ACalls Tryd.prog n_mFair [.agg [.int .u64 (k.id : Int), .int .i64 k.at_, .int .u64 (k.by_ : Int)]] σ (fun v σ' => v = .bool (decide (fairM k)) ∧ σ' = σ) := by
  refine s_mFair (fun wf => ?_)
  unfold c_mFair
  refine T.seq_k (fun K_h0 h0 => ?_)
  refine T.regi hm ?_
  simp only [↓reduceIte, namesOf, List.any, I.names, aopsI, astep, ev, setd, List.set, List.getD, List.getElem?_cons_zero, List.cons_append, List.nil_append, List.length_cons, List.length_nil, List.replicate, then_normal, Option.getD_some, Bool.or_false, Bool.false_eq_true, Nat.reduceAdd, Nat.reduceSub, AV.isAny, AV.cells, eq_self]
  refine h0 _ _ ?_
  try clear h0 K_h0
  have hb : ((σ.up 2).set (σ.next + 0) (.obj [.int .u64 (k.id : Int), .int .i64 k.at_, .int .u64 (k.by_ : Int)])).res (σ.next + 0) = some (.obj [.int .u64 (k.id : Int), .int .i64 k.at_, .int .u64 (k.by_ : Int)]) := St.set_same _ _ _
  have hL : Like σ ((σ.up 2).set (σ.next + 0) (.obj [.int .u64 (k.id : Int), .int .i64 k.at_, .int .u64 (k.by_ : Int)])) := (Like.refl σ).box (n := 2) (i := 0) _
  generalize ((σ.up 2).set (σ.next + 0) (.obj [.int .u64 (k.id : Int), .int .i64 k.at_, .int .u64 (k.by_ : Int)])) = t at hb hL ⊢
  generalize σ.next + 0 = b at hb ⊢
  by_cases c1 : (k.id : Int) ≥ 1
  case neg =>
    have f1 : decide ((k.id : Int) ≥ 1) = false := decide_eq_false c1
    have hm0 : decide (fairM k) = false := decide_eq_false (fun h => c1 (by have := h.1; omega))
    refine T.seq_k (fun K_h0 h0 => ?_)
    refine T.regi hm ?_
    simp only [↓reduceIte, namesOf, List.any, I.names, aopsI, astep, ev, setd, List.set, List.getD, List.getElem?_cons_zero, List.getElem?_cons_succ, then_normal, Option.getD_some, Bool.or_false, Bool.false_eq_true, up_zero, binv, ↓opt_def, ldc, eq_self, hb, Nat.zero_add, f1]
    refine h0 _ _ ?_
    try clear h0 K_h0
    exact T.ret (Fin.quiet rfl trivial (hL.quiet wf) ⟨by rw [hm0]; rfl, rfl⟩)
  have f1 : decide ((k.id : Int) ≥ 1) = true := decide_eq_true c1
  by_cases c2 : k.at_ ≥ 0
  case neg =>
    have f2 : decide (k.at_ ≥ 0) = false := decide_eq_false c2
    have hm0 : decide (fairM k) = false := decide_eq_false (fun h => c2 (by have := h.2.1; omega))
    refine T.seq_k (fun K_h0 h0 => ?_)
    refine T.regi hm ?_
    simp only [↓reduceIte, namesOf, List.any, I.names, aopsI, astep, ev, setd, List.set, List.getD, List.getElem?_cons_zero, List.getElem?_cons_succ, then_normal, Option.getD_some, Bool.or_false, Bool.false_eq_true, up_zero, binv, ↓opt_def, ldc, eq_self, hb, Nat.zero_add, f1, f2]
    refine h0 _ _ ?_
    try clear h0 K_h0
    exact T.ret (Fin.quiet rfl trivial (hL.quiet wf) ⟨by rw [hm0]; rfl, rfl⟩)
  have f2 : decide (k.at_ ≥ 0) = true := decide_eq_true c2
  by_cases c3 : k.at_ ≤ 1099511627776
  case neg =>
    have f3 : decide (k.at_ ≤ 1099511627776) = false := decide_eq_false c3
    have hm0 : decide (fairM k) = false := decide_eq_false (fun h => c3 (by have := h.2.2.1; omega))
    refine T.seq_k (fun K_h0 h0 => ?_)
    refine T.regi hm ?_
    simp only [↓reduceIte, namesOf, List.any, I.names, aopsI, astep, ev, setd, List.set, List.getD, List.getElem?_cons_zero, List.getElem?_cons_succ, then_normal, Option.getD_some, Bool.or_false, Bool.false_eq_true, up_zero, binv, ↓opt_def, ldc, eq_self, hb, Nat.zero_add, f1, f2, f3]
    refine h0 _ _ ?_
    try clear h0 K_h0
    exact T.ret (Fin.quiet rfl trivial (hL.quiet wf) ⟨by rw [hm0]; rfl, rfl⟩)
  have f3 : decide (k.at_ ≤ 1099511627776) = true := decide_eq_true c3
  have hm0 : decide (fairM k) = ((k.by_ : Int) != (k.id : Int)) := by
    by_cases h : k.by_ = k.id
    · rw [decide_eq_false (fun hf => hf.2.2.2 h), h]; simp
    · rw [decide_eq_true ⟨by omega, c2, c3, h⟩]; symm; simp; omega
  refine T.seq_k (fun K_h0 h0 => ?_)
  refine T.regi hm ?_
  simp only [↓reduceIte, namesOf, List.any, I.names, aopsI, astep, ev, setd, List.set, List.getD, List.getElem?_cons_zero, List.getElem?_cons_succ, then_normal, Option.getD_some, Bool.or_false, Bool.false_eq_true, up_zero, binv, ↓opt_def, ldc, eq_self, hb, Nat.zero_add, f1, f2, f3]
  refine h0 _ _ ?_
  try clear h0 K_h0
  exact T.ret (Fin.quiet rfl trivial (hL.quiet wf) ⟨by rw [hm0]; rfl, rfl⟩)

set_option maxRecDepth 10000 in
theorem rFair_ok {k : Mk} {σ : St} : ACalls Tryd.prog n_rFair [.agg [.int .u64 (k.id : Int), .int .i64 k.at_, .int .u64 (k.by_ : Int)]] σ (fun v σ' => v = .bool (decide (fairM k)) ∧ σ' = σ) := by
  refine s_rFair (fun wf => ?_)
  unfold c_rFair
  refine T.seq_k (fun K_h0 h0 => ?_)
  refine T.regi hm ?_
  simp only [↓reduceIte, namesOf, List.any, I.names, aopsI, astep, ev, setd, List.set, List.getD, List.getElem?_cons_zero, List.cons_append, List.nil_append, List.length_cons, List.length_nil, List.replicate, then_normal, Option.getD_some, Bool.or_false, Bool.false_eq_true, Nat.reduceAdd, Nat.reduceSub, AV.isAny, AV.cells, eq_self]
  refine h0 _ _ ?_
  try clear h0 K_h0
  have hb : ((σ.up 2).set (σ.next + 0) (.obj [.int .u64 (k.id : Int), .int .i64 k.at_, .int .u64 (k.by_ : Int)])).res (σ.next + 0) = some (.obj [.int .u64 (k.id : Int), .int .i64 k.at_, .int .u64 (k.by_ : Int)]) := St.set_same _ _ _
  have hL : Like σ ((σ.up 2).set (σ.next + 0) (.obj [.int .u64 (k.id : Int), .int .i64 k.at_, .int .u64 (k.by_ : Int)])) := (Like.refl σ).box (n := 2) (i := 0) _
  generalize ((σ.up 2).set (σ.next + 0) (.obj [.int .u64 (k.id : Int), .int .i64 k.at_, .int .u64 (k.by_ : Int)])) = t at hb hL ⊢
  generalize σ.next + 0 = b at hb ⊢
  by_cases c1 : (k.id : Int) > 0
  case neg =>
    have f1 : decide ((k.id : Int) > 0) = false := decide_eq_false c1
    have hm0 : decide (fairM k) = false := decide_eq_false (fun h => c1 (by have := h.1; omega))
    refine T.seq_k (fun K_h0 h0 => ?_)
    refine T.regi hm ?_
    simp only [↓reduceIte, namesOf, List.any, I.names, aopsI, astep, ev, setd, List.set, List.getD, List.getElem?_cons_zero, List.getElem?_cons_succ, then_normal, Option.getD_some, Bool.or_false, Bool.false_eq_true, up_zero, binv, ↓opt_def, ldc, eq_self, hb, Nat.zero_add, f1]
    refine h0 _ _ ?_
    try clear h0 K_h0
    exact T.ret (Fin.quiet rfl trivial (hL.quiet wf) ⟨by rw [hm0]; rfl, rfl⟩)
  have f1 : decide ((k.id : Int) > 0) = true := decide_eq_true c1
  by_cases c2 : k.at_ ≥ 0
  case neg =>
    have f2 : decide (k.at_ ≥ 0) = false := decide_eq_false c2
    have hm0 : decide (fairM k) = false := decide_eq_false (fun h => c2 (by have := h.2.1; omega))
    refine T.seq_k (fun K_h0 h0 => ?_)
    refine T.regi hm ?_
    simp only [↓reduceIte, namesOf, List.any, I.names, aopsI, astep, ev, setd, List.set, List.getD, List.getElem?_cons_zero, List.getElem?_cons_succ, then_normal, Option.getD_some, Bool.or_false, Bool.false_eq_true, up_zero, binv, ↓opt_def, ldc, eq_self, hb, Nat.zero_add, f1, f2]
    refine h0 _ _ ?_
    try clear h0 K_h0
    exact T.ret (Fin.quiet rfl trivial (hL.quiet wf) ⟨by rw [hm0]; rfl, rfl⟩)
  have f2 : decide (k.at_ ≥ 0) = true := decide_eq_true c2
  by_cases c3 : k.at_ ≤ 1099511627776
  case neg =>
    have f3 : decide (k.at_ ≤ 1099511627776) = false := decide_eq_false c3
    have hm0 : decide (fairM k) = false := decide_eq_false (fun h => c3 (by have := h.2.2.1; omega))
    refine T.seq_k (fun K_h0 h0 => ?_)
    refine T.regi hm ?_
    simp only [↓reduceIte, namesOf, List.any, I.names, aopsI, astep, ev, setd, List.set, List.getD, List.getElem?_cons_zero, List.getElem?_cons_succ, then_normal, Option.getD_some, Bool.or_false, Bool.false_eq_true, up_zero, binv, ↓opt_def, ldc, eq_self, hb, Nat.zero_add, f1, f2, f3]
    refine h0 _ _ ?_
    try clear h0 K_h0
    exact T.ret (Fin.quiet rfl trivial (hL.quiet wf) ⟨by rw [hm0]; rfl, rfl⟩)
  have f3 : decide (k.at_ ≤ 1099511627776) = true := decide_eq_true c3
  have hm0 : decide (fairM k) = ((k.by_ : Int) != (k.id : Int)) := by
    by_cases h : k.by_ = k.id
    · rw [decide_eq_false (fun hf => hf.2.2.2 h), h]; simp
    · rw [decide_eq_true ⟨by omega, c2, c3, h⟩]; symm; simp; omega
  refine T.seq_k (fun K_h0 h0 => ?_)
  refine T.regi hm ?_
  simp only [↓reduceIte, namesOf, List.any, I.names, aopsI, astep, ev, setd, List.set, List.getD, List.getElem?_cons_zero, List.getElem?_cons_succ, then_normal, Option.getD_some, Bool.or_false, Bool.false_eq_true, up_zero, binv, ↓opt_def, ldc, eq_self, hb, Nat.zero_add, f1, f2, f3]
  refine h0 _ _ ?_
  try clear h0 K_h0
  exact T.ret (Fin.quiet rfl trivial (hL.quiet wf) ⟨by rw [hm0]; rfl, rfl⟩)

/-- numbers, each of eight bytes, one behind the other -/
def w8s (l : List Nat) : List UInt8 := l.flatMap (beB 8)

theorem w8s_len (l : List Nat) : (w8s l).length = l.length * 8 := by
  induction l with
  | nil => rfl
  | cons n l ih => simp only [w8s, List.flatMap_cons, List.length_append, List.length_cons, beB_len] at ih ⊢; omega

def f8AV (l : List Nat) : List AV := l.map fun (n : Nat) => .agg [.int .i64 8, .int .u64 (n : Int)]

theorem f8_len (l : List Nat) : (f8AV l).length = l.length := by simp [f8AV]

theorem f8_get {l : List Nat} {i n : Nat} (h : l[i]? = some n) : (f8AV l)[i]? = some (.agg [.int .i64 8, .int .u64 (n : Int)]) := by simp [f8AV, h]

set_option maxRecDepth 10000 in
theorem mput8_ok {l : List Nat} {g : Ver} {σ : St} (hl : l.length ≤ 1000) : ACalls Tryd.prog n_mput [.sl (f8AV l) g] σ (fun v σ' => v = .tup [.sl (bytesAV (sealB (w8s l))) .none, .nili] ∧ σ' = σ) := by
  refine s_mput (fun wf => ?_)
  unfold c_mput
  refine T.seq_k (fun K_h0 h0 => ?_)
  refine T.regi hm ?_
  simp only [↓reduceIte, namesOf, List.any, I.names, aopsI, astep, ev, setd, List.set, List.cons_append, List.nil_append, List.length_cons, List.length_nil, List.replicate, then_normal, Bool.or_false, Bool.false_eq_true, up_zero, Nat.reduceAdd, Nat.reduceSub]
  refine h0 _ _ ?_
  try clear h0 K_h0
  refine T.seq_k (fun K_h0 h0 => ?_)
  refine T.regi hm ?_
  simp only [↓reduceIte, namesOf, List.any, I.names, aopsI, astep, ev, setd, List.set, then_normal, Bool.or_false, Bool.false_eq_true, up_zero]
  refine h0 _ _ ?_
  try clear h0 K_h0
  refine T.seq_k (fun K_h1 h1 => ?_)
  refine T.seq_k (fun K_h0 h0 => ?_)
  refine T.regi hm ?_
  simp only [↓reduceIte, namesOf, List.any, I.names, aopsI, astep, ev, setd, List.set, List.getD, List.getElem?_cons_zero, List.getElem?_cons_succ, then_normal, Option.getD_some, Bool.or_false, Bool.false_eq_true, up_zero, f8_len]
  refine h0 _ _ ?_
  try clear h0 K_h0
  refine T.block ?_
  refine T.gh (Gh.keep [4, 9, 10, 11]) ?_
  refine T.loopi (fun i ρ t => ∃ g2, Like σ t ∧ ρ = [.any, .any, .any, .any, .sl (bytesAV (w8s (l.take i))) g2, .any, .any, .any, .any, .sl (f8AV l) g, .int .i64 (l.length : Int), .int .i64 (i : Int)] ++ List.replicate 19 .any)
    l.length 0 (Nat.zero_le _) ⟨.nil, .refl _, rfl⟩ ?_
  rintro i ρ t hi ⟨g2, hL, rfl⟩
  refine T.seq_k (fun K_h0 h0 => ?_)
  refine T.regi hm ?_
  simp only [↓reduceIte, namesOf, List.any, I.names, aopsI, astep, ev, setd, List.set, List.getD, List.getElem?_cons_zero, List.getElem?_cons_succ, List.cons_append, List.nil_append, List.replicate, then_normal, Option.getD_some, Bool.or_false, Bool.false_eq_true, up_zero, binv, ↓opt_def, lt_len, eq_self]
  refine h0 _ _ ?_
  try clear h0 K_h0
  refine T.seq_k (fun K_h2 h2 => ?_)
  by_cases hil : i < l.length
  case neg =>
    refine T.cond (b := false) (by simp [ev]; omega) (fun h => by cases h) (fun _ => T.exit ?_)
    have hie : i = l.length := by omega
    subst hie
    rw [List.take_length]
    try simp only [List.cons_append, List.nil_append, List.replicate, then_normal, inBlock_exit, then_exit]
    refine h1 _ _ ?_
    try clear h1 K_h1
    refine T.seq_k (fun K_h1 h1 => ?_)
    refine T.regi hm ?_
    simp only [↓reduceIte, namesOf, List.any, I.names, aopsI, astep, ev, setd, List.set, List.getD, List.getElem?_cons_zero, List.getElem?_cons_succ, then_normal, Option.getD_some, Bool.or_false, Bool.false_eq_true, up_zero, List.map_cons, List.map_nil]
    refine (cseal_q (by rw [w8s_len]; omega)).mono ?_
    rintro v σ1 ⟨rfl, rfl⟩
    try simp only [↓reduceIte, namesOf, List.any, I.names, aops, aopsI, aopsT, qstep, CPt, qget, Tbl.get, astep, ev, setd, List.set, List.getD, List.getElem?_cons_zero, List.getElem?_cons_succ, List.getElem?_nil, List.cons_append, List.nil_append, List.length_cons, List.length_nil, List.replicate, then_normal, inBlock_normal, Option.getD_some, Option.getD_none, Bool.or_false, Bool.or_true, Bool.true_or, Bool.false_or, Bool.false_eq_true, if_false, if_true, up_zero, Nat.reduceAdd, Nat.reduceSub, binv, ↓opt_def, AV.isAny, AV.cells, ldc, List.map_cons, List.map_nil, St.set_next, St.set_same, St.up_next, Int.natCast_nonneg, lt_len, le_len, Int.toNat_natCast, true_and, and_true, eq_self, reduceCtorEq, decide_true, List.length_singleton, er_int, er_bool, er_str, srcR, up_zero]
    refine h1 _ _ ?_
    try clear h1 K_h1
    exact T.ret (Fin.quiet rfl ⟨⟨nb_bytes _ _, trivial⟩, trivial, trivial⟩ (hL.quiet wf) ⟨rfl, rfl⟩)
  refine T.cond (b := true) (by simp [ev]; omega) (fun _ => T.skip ?_) (fun h => by cases h)
  refine h2 _ _ ?_
  try clear h2 K_h2
  obtain ⟨n, hn⟩ : ∃ n, l[i]? = some n := ⟨_, List.getElem?_eq_getElem hil⟩
  have hgn := f8_get hn
  have hts : w8s (l.take (i + 1)) = w8s (l.take i) ++ beB 8 n := by
    rw [List.take_succ_eq_append_getElem hil]
    rw [List.getElem?_eq_getElem hil] at hn
    cases hn
    simp only [w8s, List.flatMap_append, List.flatMap_cons, List.flatMap_nil, List.append_nil]
  have hw := inc64' hil (by omega)
  have hlen : (w8s (l.take i)).length ≤ 1099511627776 := by rw [w8s_len, List.length_take]; omega
  refine T.seq_k (fun K_h3 h3 => ?_)
  refine T.block ?_
  refine T.seq_k (fun K_h0 h0 => ?_)
  refine T.regi hm ?_
  simp only [↓reduceIte, namesOf, List.any, I.names, aopsI, astep, ev, setd, List.set, List.getD, List.getElem?_cons_zero, List.getElem?_cons_succ, List.cons_append, List.nil_append, List.length_cons, List.length_nil, List.replicate, then_normal, Option.getD_some, Bool.or_false, Bool.or_true, Nat.reduceAdd, ↓opt_def, AV.isAny, AV.cells, ldc, St.set_same, Int.natCast_nonneg, lt_len, Int.toNat_natCast, true_and, and_true, eq_self, decide_true, hil, f8_len, hgn, AV.fits, AV.one, List.all_cons, List.all_nil, Nat.reduceBEq, Bool.not_false, Bool.and_self, Nat.zero_add, splice, List.take, List.drop, Nat.reduceLeDiff, St.set_set]
  refine h0 _ _ ?_
  try clear h0 K_h0
  have hb : ((t.up 4).set (t.next + 2) (.obj [.int .i64 8, .int .u64 (n : Int)])).res (t.next + 2) = some (.obj [.int .i64 8, .int .u64 (n : Int)]) := St.set_same _ _ _
  have hL1 : Like σ ((t.up 4).set (t.next + 2) (.obj [.int .i64 8, .int .u64 (n : Int)])) := hL.box (n := 4) (i := 2) _
  generalize ((t.up 4).set (t.next + 2) (.obj [.int .i64 8, .int .u64 (n : Int)])) = u at hb hL1 ⊢
  generalize t.next + 2 = b at hb ⊢
  refine T.seq_k (fun K_h4 h4 => ?_)
  refine T.regi hm ?_
  simp only [↓reduceIte, namesOf, List.any, I.names, aopsI, astep, ev, setd, List.set, List.getD, List.getElem?_cons_zero, List.getElem?_cons_succ, List.cons_append, List.nil_append, List.replicate, then_normal, Option.getD_some, Bool.or_false, Bool.false_eq_true, up_zero, ↓opt_def, ldc, List.map_cons, List.map_nil, hb, Nat.zero_add]
  refine (wput_ok (w := 8) hlen (by rfl) (fun h => absurd h (by omega))).mono ?_
  rintro v σ1 ⟨h, o1, rfl⟩
  try simp only [List.getElem?_cons_zero, List.getElem?_cons_succ]
  refine h4 _ _ ?_
  try clear h4 K_h4
  have hL2 : Like σ σ1 := hL1.trans (Like.one o1)
  refine T.seq_k (fun K_h4 h4 => ?_)
  refine T.seq_k (fun K_h0 h0 => ?_)
  refine T.regi hm ?_
  simp only [↓reduceIte, namesOf, List.any, I.names, aopsI, astep, ev, setd, List.set, List.getD, List.getElem?_cons_zero, List.getElem?_cons_succ, List.cons_append, List.nil_append, List.replicate, then_normal, Option.getD_some, Bool.or_false, Bool.false_eq_true, up_zero, eq_self, eqIv, bne_self_eq_false]
  refine h0 _ _ ?_
  try clear h0 K_h0
  refine T.cond rfl (fun h => by cases h) (fun _ => T.skip ?_)
  refine h4 _ _ ?_
  try clear h4 K_h4
  refine T.regi hm ?_
  simp only [↓reduceIte, namesOf, List.any, I.names, aopsI, astep, ev, setd, List.set, List.getD, List.getElem?_cons_zero, List.getElem?_cons_succ, List.cons_append, List.nil_append, List.replicate, then_normal, inBlock_normal, Option.getD_some, Bool.or_false, Bool.false_eq_true, up_zero]
  try simp only [↓reduceIte, namesOf, List.any, I.names, aops, aopsI, aopsT, qstep, CPt, qget, Tbl.get, astep, ev, setd, List.set, List.getD, List.getElem?_cons_zero, List.getElem?_cons_succ, List.getElem?_nil, List.cons_append, List.nil_append, List.length_cons, List.length_nil, List.replicate, then_normal, inBlock_normal, Option.getD_some, Option.getD_none, Bool.or_false, Bool.or_true, Bool.true_or, Bool.false_or, Bool.false_eq_true, if_false, if_true, up_zero, Nat.reduceAdd, Nat.reduceSub, binv, ↓opt_def, AV.isAny, AV.cells, ldc, List.map_cons, List.map_nil, St.set_next, St.set_same, St.up_next, Int.natCast_nonneg, lt_len, le_len, Int.toNat_natCast, true_and, and_true, eq_self, reduceCtorEq, decide_true, List.length_singleton, er_int, er_bool, er_str, srcR, inBlock_normal]
  refine h3 _ _ ?_
  try clear h3 K_h3
  refine T.regi hm ?_
  simp only [↓reduceIte, namesOf, List.any, I.names, aopsI, astep, ev, setd, List.set, List.getD, List.getElem?_cons_zero, List.getElem?_cons_succ, List.cons_append, List.nil_append, List.replicate, then_normal, Option.getD_some, Bool.or_false, Bool.false_eq_true, up_zero, binv, ↓opt_def, eq_self, hw]
  exact ⟨hil, _, _, Gh.keep [4, 9, 10, 11], .tip h, hL2, by rw [hts]; rfl⟩

/-- a marker's bytes -/
def markB (k : Mk) : List UInt8 := sealB (w8s [k.id, k.at_.toNat, k.by_])

set_option maxRecDepth 10000 in
theorem mMark_ok {k : Mk} {σ : St} (hf : fairM k) : ACalls Tryd.prog n_mMark [.agg [.int .u64 (k.id : Int), .int .i64 k.at_, .int .u64 (k.by_ : Int)]] σ
    (fun v σ' => v = .tup [.sl (bytesAV (markB k)) .none, .nili] ∧ σ' = σ) := by
  refine s_mMark (fun wf => ?_)
  unfold c_mMark
  refine T.seq_k (fun K_h0 h0 => ?_)
  refine T.regi hm ?_
  simp only [↓reduceIte, namesOf, List.any, I.names, aopsI, astep, ev, setd, List.set, List.getD, List.getElem?_cons_zero, List.cons_append, List.nil_append, List.length_cons, List.length_nil, List.replicate, then_normal, Option.getD_some, Bool.or_false, Bool.false_eq_true, Nat.reduceAdd, Nat.reduceSub, AV.isAny, AV.cells, eq_self]
  refine h0 _ _ ?_
  try clear h0 K_h0
  have hb : ((σ.up 3).set (σ.next + 0) (.obj (mkC k))).res (σ.next + 0) = some (.obj (mkC k)) := St.set_same _ _ _
  have hL : Like σ ((σ.up 3).set (σ.next + 0) (.obj (mkC k))) := (Like.refl σ).box (n := 3) (i := 0) _
  generalize ((σ.up 3).set (σ.next + 0) (.obj (mkC k))) = t at hb hL ⊢
  generalize σ.next + 0 = b at hb ⊢
  refine T.seq_k (fun K_h1 h1 => ?_)
  refine T.seq_k (fun K_h2 h2 => ?_)
  refine T.regi hm ?_
  simp only [↓reduceIte, namesOf, List.any, I.names, aopsI, astep, ev, setd, List.set, List.getD, List.getElem?_cons_zero, List.getElem?_cons_succ, List.length_cons, List.length_nil, then_normal, Option.getD_some, Bool.or_false, Bool.false_eq_true, up_zero, Nat.reduceAdd, ↓opt_def, ldc, List.map_cons, List.map_nil, hb, Nat.zero_add, Nat.zero_add, List.take, List.drop, Nat.reduceLeDiff]
  refine mFair_ok.mono ?_
  rintro v σ1 ⟨rfl, rfl⟩
  try simp only [decide_eq_true hf, Bool.not_true]
  refine h2 _ _ ?_
  try clear h2 K_h2
  refine T.cond rfl (fun h => by cases h) (fun _ => T.skip ?_)
  refine h1 _ _ ?_
  try clear h1 K_h1
  have ha : ((k.at_.toNat : Nat) : Int) = k.at_ := by have := hf.2.1; omega
  have hw : IntKind.u64.wrap k.at_ = ((k.at_.toNat : Nat) : Int) := by
    rw [← ha]
    rw [Int.toNat_natCast]
    exact u64w (by have := hf.2.2.1; omega)
  have hfl : [AV.agg [.int .i64 8, .int .u64 (k.id : Int)], .agg [.int .i64 8, .int .u64 ((k.at_.toNat : Nat) : Int)], .agg [.int .i64 8, .int .u64 (k.by_ : Int)]] = f8AV [k.id, k.at_.toNat, k.by_] := rfl
  refine T.seq_k (fun K_h1 h1 => ?_)
  refine T.regi hm ?_
  simp only [↓reduceIte, namesOf, List.any, I.names, aopsI, astep, ev, setd, List.set, List.getD, List.getElem?_cons_zero, List.getElem?_cons_succ, List.cons_append, List.nil_append, List.length_cons, List.length_nil, then_normal, Option.getD_some, Bool.or_false, Bool.false_eq_true, up_zero, Nat.reduceAdd, ↓opt_def, AV.isAny, AV.cells, ldc, List.map_cons, List.map_nil, and_true, eq_self, hb, Nat.zero_add, hw, held, fillA, ↓Option.map_some, hfl, AV.fits, AV.one, List.all_cons, List.all_nil, Nat.reduceBEq, Bool.not_false, Bool.and_self, Nat.zero_add, splice, List.take, List.drop, Nat.reduceLeDiff]
  refine (mput8_ok (l := [k.id, k.at_.toNat, k.by_]) (by simp)).mono ?_
  rintro v σ2 ⟨rfl, rfl⟩
  try simp only [List.getElem?_cons_zero, List.getElem?_cons_succ]
  refine h1 _ _ ?_
  try clear h1 K_h1
  exact T.ret (Fin.quiet rfl ⟨⟨nb_bytes _ _, trivial⟩, trivial, trivial⟩ (hL.quiet wf) ⟨rfl, rfl⟩)

end Go.VL

namespace Go.VL

open Go.Proofs

/-- numbers, each of its own width, one behind the other -/
def wWs (l : List (Nat × Nat)) : List UInt8 := l.flatMap fun p => beB p.1 p.2

theorem wWs_le {l : List (Nat × Nat)} (h : ∀ p ∈ l, p.1 ≤ 8) : (wWs l).length ≤ l.length * 8 := by
  induction l with
  | nil => simp [wWs]
  | cons p l ih =>
    have h1 := ih (fun q hq => h q (List.mem_cons_of_mem _ hq))
    have h2 := h p (by simp)
    simp only [wWs, List.flatMap_cons, List.length_append, List.length_cons, beB_len] at h1 ⊢
    omega

def fwAV (l : List (Nat × Nat)) : List AV := l.map fun p => .agg [.int .i64 (p.1 : Int), .int .u64 (p.2 : Int)]

theorem fw_len (l : List (Nat × Nat)) : (fwAV l).length = l.length := by simp [fwAV]

theorem fw_get {l : List (Nat × Nat)} {i : Nat} {p : Nat × Nat} (h : l[i]? = some p) : (fwAV l)[i]? = some (.agg [.int .i64 (p.1 : Int), .int .u64 (p.2 : Int)]) := by simp [fwAV, h]

set_option maxRecDepth 10000 in
theorem mputW_ok {l : List (Nat × Nat)} {g : Ver} {σ : St} (hl : l.length ≤ 1000) (hw : ∀ p ∈ l, rightB p.1 = true ∧ (p.1 < 8 → p.2 / 256 ^ p.1 = 0)) :
    ACalls Tryd.prog n_mput [.sl (fwAV l) g] σ (fun v σ' => v = .tup [.sl (bytesAV (sealB (wWs l))) .none, .nili] ∧ σ' = σ) := by
  have hw8 : ∀ p ∈ l, p.1 ≤ 8 := fun p hp => by have := (hw p hp).1; simp [rightB] at this; omega
  have hlen0 : ∀ i, (wWs (l.take i)).length ≤ 8000 := fun i => by
    have := wWs_le (l := l.take i) (fun p hp => hw8 p (List.mem_of_mem_take hp))
    rw [List.length_take] at this; omega
  refine s_mput (fun wf => ?_)
  unfold c_mput
  refine T.seq_k (fun K_h0 h0 => ?_)
  refine T.regi hm ?_
  simp only [↓reduceIte, namesOf, List.any, I.names, aopsI, astep, ev, setd, List.set, List.cons_append, List.nil_append, List.length_cons, List.length_nil, List.replicate, then_normal, Bool.or_false, Bool.false_eq_true, up_zero, Nat.reduceAdd, Nat.reduceSub]
  refine h0 _ _ ?_
  try clear h0 K_h0
  refine T.seq_k (fun K_h0 h0 => ?_)
  refine T.regi hm ?_
  simp only [↓reduceIte, namesOf, List.any, I.names, aopsI, astep, ev, setd, List.set, then_normal, Bool.or_false, Bool.false_eq_true, up_zero]
  refine h0 _ _ ?_
  try clear h0 K_h0
  refine T.seq_k (fun K_h1 h1 => ?_)
  refine T.seq_k (fun K_h0 h0 => ?_)
  refine T.regi hm ?_
  simp only [↓reduceIte, namesOf, List.any, I.names, aopsI, astep, ev, setd, List.set, List.getD, List.getElem?_cons_zero, List.getElem?_cons_succ, then_normal, Option.getD_some, Bool.or_false, Bool.false_eq_true, up_zero, fw_len]
  refine h0 _ _ ?_
  try clear h0 K_h0
  refine T.block ?_
  refine T.gh (Gh.keep [4, 9, 10, 11]) ?_
  refine T.loopi (fun i ρ t => ∃ g2, Like σ t ∧ ρ = [.any, .any, .any, .any, .sl (bytesAV (wWs (l.take i))) g2, .any, .any, .any, .any, .sl (fwAV l) g, .int .i64 (l.length : Int), .int .i64 (i : Int)] ++ List.replicate 19 .any)
    l.length 0 (Nat.zero_le _) ⟨.nil, .refl _, rfl⟩ ?_
  rintro i ρ t hi ⟨g2, hL, rfl⟩
  refine T.seq_k (fun K_h0 h0 => ?_)
  refine T.regi hm ?_
  simp only [↓reduceIte, namesOf, List.any, I.names, aopsI, astep, ev, setd, List.set, List.getD, List.getElem?_cons_zero, List.getElem?_cons_succ, List.cons_append, List.nil_append, List.replicate, then_normal, Option.getD_some, Bool.or_false, Bool.false_eq_true, up_zero, binv, ↓opt_def, lt_len, eq_self]
  refine h0 _ _ ?_
  try clear h0 K_h0
  refine T.seq_k (fun K_h2 h2 => ?_)
  by_cases hil : i < l.length
  case neg =>
    refine T.cond (b := false) (by simp [ev]; omega) (fun h => by cases h) (fun _ => T.exit ?_)
    have hie : i = l.length := by omega
    have hl0 := hlen0 i
    subst hie
    rw [List.take_length] at hl0 ⊢
    try simp only [List.cons_append, List.nil_append, List.replicate, then_normal, inBlock_exit, then_exit]
    refine h1 _ _ ?_
    try clear h1 K_h1
    refine T.seq_k (fun K_h1 h1 => ?_)
    refine T.regi hm ?_
    simp only [↓reduceIte, namesOf, List.any, I.names, aopsI, astep, ev, setd, List.set, List.getD, List.getElem?_cons_zero, List.getElem?_cons_succ, then_normal, Option.getD_some, Bool.or_false, Bool.false_eq_true, up_zero, List.map_cons, List.map_nil]
    refine (cseal_q (by omega)).mono ?_
    rintro v σ1 ⟨rfl, rfl⟩
    try simp only [↓reduceIte, namesOf, List.any, I.names, aops, aopsI, aopsT, qstep, CPt, qget, Tbl.get, astep, ev, setd, List.set, List.getD, List.getElem?_cons_zero, List.getElem?_cons_succ, List.getElem?_nil, List.cons_append, List.nil_append, List.length_cons, List.length_nil, List.replicate, then_normal, inBlock_normal, Option.getD_some, Option.getD_none, Bool.or_false, Bool.or_true, Bool.true_or, Bool.false_or, Bool.false_eq_true, if_false, if_true, up_zero, Nat.reduceAdd, Nat.reduceSub, binv, ↓opt_def, AV.isAny, AV.cells, ldc, List.map_cons, List.map_nil, St.set_next, St.set_same, St.up_next, Int.natCast_nonneg, lt_len, le_len, Int.toNat_natCast, true_and, and_true, eq_self, reduceCtorEq, decide_true, List.length_singleton, er_int, er_bool, er_str, srcR, up_zero]
    refine h1 _ _ ?_
    try clear h1 K_h1
    exact T.ret (Fin.quiet rfl ⟨⟨nb_bytes _ _, trivial⟩, trivial, trivial⟩ (hL.quiet wf) ⟨rfl, rfl⟩)
  refine T.cond (b := true) (by simp [ev]; omega) (fun _ => T.skip ?_) (fun h => by cases h)
  refine h2 _ _ ?_
  try clear h2 K_h2
  obtain ⟨p, hn⟩ : ∃ p, l[i]? = some p := ⟨_, List.getElem?_eq_getElem hil⟩
  have hgn := fw_get hn
  have hp := hw p (List.mem_of_getElem? hn)
  have hts : wWs (l.take (i + 1)) = wWs (l.take i) ++ beB p.1 p.2 := by
    rw [List.take_succ_eq_append_getElem hil]
    rw [List.getElem?_eq_getElem hil] at hn
    cases hn
    simp only [wWs, List.flatMap_append, List.flatMap_cons, List.flatMap_nil, List.append_nil]
  have hinc := inc64' hil (by omega)
  have hlen : (wWs (l.take i)).length ≤ 1099511627776 := by have := hlen0 i; omega
  refine T.seq_k (fun K_h3 h3 => ?_)
  refine T.block ?_
  refine T.seq_k (fun K_h0 h0 => ?_)
  refine T.regi hm ?_
  simp only [↓reduceIte, namesOf, List.any, I.names, aopsI, astep, ev, setd, List.set, List.getD, List.getElem?_cons_zero, List.getElem?_cons_succ, List.cons_append, List.nil_append, List.length_cons, List.length_nil, List.replicate, then_normal, Option.getD_some, Bool.or_false, Bool.or_true, Nat.reduceAdd, ↓opt_def, AV.isAny, AV.cells, ldc, St.set_same, Int.natCast_nonneg, lt_len, Int.toNat_natCast, true_and, and_true, eq_self, decide_true, hil, fw_len, hgn, AV.fits, AV.one, List.all_cons, List.all_nil, Nat.reduceBEq, Bool.not_false, Bool.and_self, Nat.zero_add, splice, List.take, List.drop, Nat.reduceLeDiff, St.set_set]
  refine h0 _ _ ?_
  try clear h0 K_h0
  have hb : ((t.up 4).set (t.next + 2) (.obj [.int .i64 (p.1 : Int), .int .u64 (p.2 : Int)])).res (t.next + 2) = some (.obj [.int .i64 (p.1 : Int), .int .u64 (p.2 : Int)]) := St.set_same _ _ _
  have hL1 : Like σ ((t.up 4).set (t.next + 2) (.obj [.int .i64 (p.1 : Int), .int .u64 (p.2 : Int)])) := hL.box (n := 4) (i := 2) _
  generalize ((t.up 4).set (t.next + 2) (.obj [.int .i64 (p.1 : Int), .int .u64 (p.2 : Int)])) = u at hb hL1 ⊢
  generalize t.next + 2 = b at hb ⊢
  refine T.seq_k (fun K_h4 h4 => ?_)
  refine T.regi hm ?_
  simp only [↓reduceIte, namesOf, List.any, I.names, aopsI, astep, ev, setd, List.set, List.getD, List.getElem?_cons_zero, List.getElem?_cons_succ, List.cons_append, List.nil_append, List.replicate, then_normal, Option.getD_some, Bool.or_false, Bool.false_eq_true, up_zero, ↓opt_def, ldc, List.map_cons, List.map_nil, hb, Nat.zero_add]
  refine (wput_ok (w := p.1) (n := p.2) hlen hp.1 hp.2).mono ?_
  rintro v σ1 ⟨h, o1, rfl⟩
  try simp only [List.getElem?_cons_zero, List.getElem?_cons_succ]
  refine h4 _ _ ?_
  try clear h4 K_h4
  have hL2 : Like σ σ1 := hL1.trans (Like.one o1)
  refine T.seq_k (fun K_h4 h4 => ?_)
  refine T.seq_k (fun K_h0 h0 => ?_)
  refine T.regi hm ?_
  simp only [↓reduceIte, namesOf, List.any, I.names, aopsI, astep, ev, setd, List.set, List.getD, List.getElem?_cons_zero, List.getElem?_cons_succ, List.cons_append, List.nil_append, List.replicate, then_normal, Option.getD_some, Bool.or_false, Bool.false_eq_true, up_zero, eq_self, eqIv, bne_self_eq_false]
  refine h0 _ _ ?_
  try clear h0 K_h0
  refine T.cond rfl (fun h => by cases h) (fun _ => T.skip ?_)
  refine h4 _ _ ?_
  try clear h4 K_h4
  refine T.regi hm ?_
  simp only [↓reduceIte, namesOf, List.any, I.names, aopsI, astep, ev, setd, List.set, List.getD, List.getElem?_cons_zero, List.getElem?_cons_succ, List.cons_append, List.nil_append, List.replicate, then_normal, inBlock_normal, Option.getD_some, Bool.or_false, Bool.false_eq_true, up_zero]
  try simp only [↓reduceIte, namesOf, List.any, I.names, aops, aopsI, aopsT, qstep, CPt, qget, Tbl.get, astep, ev, setd, List.set, List.getD, List.getElem?_cons_zero, List.getElem?_cons_succ, List.getElem?_nil, List.cons_append, List.nil_append, List.length_cons, List.length_nil, List.replicate, then_normal, inBlock_normal, Option.getD_some, Option.getD_none, Bool.or_false, Bool.or_true, Bool.true_or, Bool.false_or, Bool.false_eq_true, if_false, if_true, up_zero, Nat.reduceAdd, Nat.reduceSub, binv, ↓opt_def, AV.isAny, AV.cells, ldc, List.map_cons, List.map_nil, St.set_next, St.set_same, St.up_next, Int.natCast_nonneg, lt_len, le_len, Int.toNat_natCast, true_and, and_true, eq_self, reduceCtorEq, decide_true, List.length_singleton, er_int, er_bool, er_str, srcR, inBlock_normal]
  refine h3 _ _ ?_
  try clear h3 K_h3
  refine T.regi hm ?_
  simp only [↓reduceIte, namesOf, List.any, I.names, aopsI, astep, ev, setd, List.set, List.getD, List.getElem?_cons_zero, List.getElem?_cons_succ, List.cons_append, List.nil_append, List.replicate, then_normal, Option.getD_some, Bool.or_false, Bool.false_eq_true, up_zero, binv, ↓opt_def, eq_self, hinc]
  exact ⟨hil, _, _, Gh.keep [4, 9, 10, 11], .tip h, hL2, by rw [hts]; rfl⟩

/-- a meta's fields -/
def mtW (m : Mt) : List (Nat × Nat) := [(8, m.id), (8, m.st.toNat), (8, m.en.toNat), (1, m.level.toNat), (2, m.pages.toNat), (4, m.traces.toNat)]

def metaB (m : Mt) : List UInt8 := sealB (wWs (mtW m))

theorem toN {x : Int} (h : 0 ≤ x) : ((x.toNat : Nat) : Int) = x := Int.toNat_of_nonneg h

theorem u64n {x : Int} (h0 : 0 ≤ x) (h1 : x < 18446744073709551616) : IntKind.u64.wrap x = ((x.toNat : Nat) : Int) := by
  have := u64w (n := x.toNat) (by omega)
  rw [toN h0] at this
  rw [this, toN h0]

set_option maxRecDepth 10000 in
theorem mPut_ok {m : Mt} {σ : St} (hm0 : mayM m) (hid : m.id < 18446744073709551616) : ACalls Tryd.prog n_mPut [.agg (mtC m)] σ
    (fun v σ' => v = .tup [.sl (bytesAV (metaB m)) .none, .nili] ∧ σ' = σ) := by
  refine s_mPut (fun wf => ?_)
  unfold c_mPut
  refine T.seq_k (fun K_h0 h0 => ?_)
  refine T.regi hm ?_
  simp only [↓reduceIte, namesOf, List.any, I.names, aopsI, astep, ev, setd, List.set, List.getD, List.getElem?_cons_zero, List.cons_append, List.nil_append, List.length_cons, List.length_nil, List.replicate, then_normal, Option.getD_some, Bool.or_false, Bool.false_eq_true, Nat.reduceAdd, Nat.reduceSub, AV.isAny, AV.cells, eq_self]
  refine h0 _ _ ?_
  try clear h0 K_h0
  have hb : ((σ.up 3).set (σ.next + 0) (.obj (mtC m))).res (σ.next + 0) = some (.obj (mtC m)) := St.set_same _ _ _
  have hL : Like σ ((σ.up 3).set (σ.next + 0) (.obj (mtC m))) := (Like.refl σ).box (n := 3) (i := 0) _
  generalize ((σ.up 3).set (σ.next + 0) (.obj (mtC m))) = t at hb hL ⊢
  generalize σ.next + 0 = b at hb ⊢
  refine T.seq_k (fun K_h1 h1 => ?_)
  refine T.seq_k (fun K_h2 h2 => ?_)
  refine T.regi hm ?_
  simp only [↓reduceIte, namesOf, List.any, I.names, aopsI, astep, ev, setd, List.set, List.getD, List.getElem?_cons_zero, List.getElem?_cons_succ, List.length_cons, List.length_nil, then_normal, Option.getD_some, Bool.or_false, Bool.false_eq_true, up_zero, Nat.reduceAdd, ↓opt_def, ldc, List.map_cons, List.map_nil, hb, Nat.zero_add, Nat.zero_add, List.take, List.drop, Nat.reduceLeDiff]
  refine mMay_ok.mono ?_
  rintro v σ1 ⟨rfl, rfl⟩
  try simp only [decide_eq_true hm0, Bool.not_true]
  refine h2 _ _ ?_
  try clear h2 K_h2
  refine T.cond rfl (fun h => by cases h) (fun _ => T.skip ?_)
  refine h1 _ _ ?_
  try clear h1 K_h1
  obtain ⟨m1, m2, m3, m4, m5, m6, m7, m8, m9, m10⟩ := hm0
  have w3 := u64n (x := m.st) m4 (by omega)
  have w4 := u64n (x := m.en) (by omega) (by omega)
  have w2 := u64n (x := m.level) m2 (by omega)
  have w5 := u64n (x := m.pages) (by omega) (by omega)
  have w6 := u64n (x := m.traces) (by omega) (by omega)
  have hfl : [AV.agg [.int .i64 8, .int .u64 (m.id : Int)], .agg [.int .i64 8, .int .u64 ((m.st.toNat : Nat) : Int)], .agg [.int .i64 8, .int .u64 ((m.en.toNat : Nat) : Int)], .agg [.int .i64 1, .int .u64 ((m.level.toNat : Nat) : Int)], .agg [.int .i64 2, .int .u64 ((m.pages.toNat : Nat) : Int)], .agg [.int .i64 4, .int .u64 ((m.traces.toNat : Nat) : Int)]] = fwAV (mtW m) := rfl
  refine T.seq_k (fun K_h1 h1 => ?_)
  refine T.regi hm ?_
  simp only [↓reduceIte, namesOf, List.any, I.names, aopsI, astep, ev, setd, List.set, List.getD, List.getElem?_cons_zero, List.getElem?_cons_succ, List.cons_append, List.nil_append, List.length_cons, List.length_nil, then_normal, Option.getD_some, Bool.or_false, Bool.false_eq_true, up_zero, Nat.reduceAdd, ↓opt_def, AV.isAny, AV.cells, ldc, List.map_cons, List.map_nil, and_true, eq_self, hb, Nat.zero_add, w2, w3, w4, w5, w6, held, fillA, ↓Option.map_some, hfl, AV.fits, AV.one, List.all_cons, List.all_nil, Nat.reduceBEq, Bool.not_false, Bool.and_self, Nat.zero_add, splice, List.take, List.drop, Nat.reduceLeDiff]
  refine (mputW_ok (l := mtW m) (by simp [mtW]) (fun p hp => ?_)).mono ?_
  · have pw : ∀ n : Nat, n < 256 → n / 256 ^ 1 = 0 := fun n h => Nat.div_eq_of_lt (by omega)
    simp only [mtW, List.mem_cons, List.not_mem_nil, or_false] at hp
    rcases hp with rfl | rfl | rfl | rfl | rfl | rfl
    · exact ⟨rfl, fun h => by simp at h⟩
    · exact ⟨rfl, fun h => by simp at h⟩
    · exact ⟨rfl, fun h => by simp at h⟩
    · exact ⟨rfl, fun _ => Nat.div_eq_of_lt (show m.level.toNat < 256 by omega)⟩
    · exact ⟨rfl, fun _ => Nat.div_eq_of_lt (show m.pages.toNat < 65536 by omega)⟩
    · exact ⟨rfl, fun _ => Nat.div_eq_of_lt (show m.traces.toNat < 4294967296 by omega)⟩
  rintro v σ2 ⟨rfl, rfl⟩
  try simp only [List.getElem?_cons_zero, List.getElem?_cons_succ]
  refine h1 _ _ ?_
  try clear h1 K_h1
  exact T.ret (Fin.quiet rfl ⟨⟨nb_bytes _ _, trivial⟩, trivial, trivial⟩ (hL.quiet wf) ⟨rfl, rfl⟩)

theorem mPut_no {m : Mt} {σ : St} (hm0 : ¬ mayM m) : ACalls Tryd.prog n_mPut [.agg (mtC m)] σ (fun v σ' => v = .tup [.sl [] .nil, .iface tCode (.int .i64 1)] ∧ σ' = σ) := by
  refine s_mPut (fun wf => ?_)
  unfold c_mPut
  refine T.seq_k (fun K_h0 h0 => ?_)
  refine T.regi hm ?_
  simp only [↓reduceIte, namesOf, List.any, I.names, aopsI, astep, ev, setd, List.set, List.getD, List.getElem?_cons_zero, List.cons_append, List.nil_append, List.length_cons, List.length_nil, List.replicate, then_normal, Option.getD_some, Bool.or_false, Bool.false_eq_true, Nat.reduceAdd, Nat.reduceSub, AV.isAny, AV.cells, eq_self]
  refine h0 _ _ ?_
  try clear h0 K_h0
  have hb : ((σ.up 3).set (σ.next + 0) (.obj (mtC m))).res (σ.next + 0) = some (.obj (mtC m)) := St.set_same _ _ _
  have hL : Like σ ((σ.up 3).set (σ.next + 0) (.obj (mtC m))) := (Like.refl σ).box (n := 3) (i := 0) _
  generalize ((σ.up 3).set (σ.next + 0) (.obj (mtC m))) = t at hb hL ⊢
  generalize σ.next + 0 = b at hb ⊢
  refine T.seq_k (fun K_h1 h1 => ?_)
  refine T.seq_k (fun K_h2 h2 => ?_)
  refine T.regi hm ?_
  simp only [↓reduceIte, namesOf, List.any, I.names, aopsI, astep, ev, setd, List.set, List.getD, List.getElem?_cons_zero, List.getElem?_cons_succ, List.length_cons, List.length_nil, then_normal, Option.getD_some, Bool.or_false, Bool.false_eq_true, up_zero, Nat.reduceAdd, ↓opt_def, ldc, List.map_cons, List.map_nil, hb, Nat.zero_add, Nat.zero_add, List.take, List.drop, Nat.reduceLeDiff]
  refine mMay_ok.mono ?_
  rintro v σ1 ⟨rfl, rfl⟩
  try simp only [decide_eq_false hm0, Bool.not_false]
  refine h2 _ _ ?_
  try clear h2 K_h2
  refine T.cond rfl (fun _ => ?_) (fun h => by cases h)
  refine T.seq_k (fun K_h0 h0 => ?_)
  refine T.regi hm ?_
  simp only [↓reduceIte, namesOf, List.any, I.names, aopsI, astep, ev, setd, List.set, List.getD, List.getElem?_cons_zero, List.getElem?_cons_succ, then_normal, Option.getD_some, Bool.or_false, Bool.false_eq_true, up_zero]
  refine h0 _ _ ?_
  try clear h0 K_h0
  exact T.ret (Fin.quiet rfl ⟨⟨trivial, trivial⟩, trivial, trivial⟩ (hL.quiet wf) ⟨rfl, rfl⟩)

theorem mMark_no {k : Mk} {σ : St} (hf : ¬ fairM k) : ACalls Tryd.prog n_mMark [.agg (mkC k)] σ (fun v σ' => v = .tup [.sl [] .nil, .iface tCode (.int .i64 1)] ∧ σ' = σ) := by
  refine s_mMark (fun wf => ?_)
  unfold c_mMark
  refine T.seq_k (fun K_h0 h0 => ?_)
  refine T.regi hm ?_
  simp only [↓reduceIte, namesOf, List.any, I.names, aopsI, astep, ev, setd, List.set, List.getD, List.getElem?_cons_zero, List.cons_append, List.nil_append, List.length_cons, List.length_nil, List.replicate, then_normal, Option.getD_some, Bool.or_false, Bool.false_eq_true, Nat.reduceAdd, Nat.reduceSub, AV.isAny, AV.cells, eq_self]
  refine h0 _ _ ?_
  try clear h0 K_h0
  have hb : ((σ.up 3).set (σ.next + 0) (.obj (mkC k))).res (σ.next + 0) = some (.obj (mkC k)) := St.set_same _ _ _
  have hL : Like σ ((σ.up 3).set (σ.next + 0) (.obj (mkC k))) := (Like.refl σ).box (n := 3) (i := 0) _
  generalize ((σ.up 3).set (σ.next + 0) (.obj (mkC k))) = t at hb hL ⊢
  generalize σ.next + 0 = b at hb ⊢
  refine T.seq_k (fun K_h1 h1 => ?_)
  refine T.seq_k (fun K_h2 h2 => ?_)
  refine T.regi hm ?_
  simp only [↓reduceIte, namesOf, List.any, I.names, aopsI, astep, ev, setd, List.set, List.getD, List.getElem?_cons_zero, List.getElem?_cons_succ, List.length_cons, List.length_nil, then_normal, Option.getD_some, Bool.or_false, Bool.false_eq_true, up_zero, Nat.reduceAdd, ↓opt_def, ldc, List.map_cons, List.map_nil, hb, Nat.zero_add, Nat.zero_add, List.take, List.drop, Nat.reduceLeDiff]
  refine mFair_ok.mono ?_
  rintro v σ1 ⟨rfl, rfl⟩
  try simp only [decide_eq_false hf, Bool.not_false]
  refine h2 _ _ ?_
  try clear h2 K_h2
  refine T.cond rfl (fun _ => ?_) (fun h => by cases h)
  refine T.seq_k (fun K_h0 h0 => ?_)
  refine T.regi hm ?_
  simp only [↓reduceIte, namesOf, List.any, I.names, aopsI, astep, ev, setd, List.set, List.getD, List.getElem?_cons_zero, List.getElem?_cons_succ, then_normal, Option.getD_some, Bool.or_false, Bool.false_eq_true, up_zero]
  refine h0 _ _ ?_
  try clear h0 K_h0
  exact T.ret (Fin.quiet rfl ⟨⟨trivial, trivial⟩, trivial, trivial⟩ (hL.quiet wf) ⟨rfl, rfl⟩)

end Go.VL

namespace Go.VL

open Go.Proofs

set_option maxRecDepth 10000 in
theorem up13_ok {σ : St} (hT : Tabs σ) (hE : Errs σ) : ACalls Tryd.prog n_up13 [] σ (fun v σ' => v = .bool true ∧ σ' = σ) := by
  refine s_up13 (fun wf => ?_)
  unfold c_up13
  have hl : (⟨#[98, 47, 48, 48, 48, 48, 48, 48, 48, 48, 48, 48, 48, 48, 48, 48, 102, 102, 47, 109]⟩ : ByteArray) = ⟨(nmF 255 [109] 0).toArray⟩ := by decide +kernel
  have hV : V3 255 [109] 0 := ⟨by omega, .inr ⟨.inl rfl, rfl⟩⟩
  refine T.seq_k (fun K_h0 h0 => ?_)
  refine T.regi hm ?_
  simp only [↓reduceIte, namesOf, List.any, I.names, aopsI, astep, ev, setd, List.set, List.nil_append, List.length_nil, List.replicate, then_normal, Bool.or_false, Bool.false_eq_true, up_zero, Nat.reduceSub]
  refine h0 _ _ ?_
  try clear h0 K_h0
  refine T.seq_k (fun K_h1 h1 => ?_)
  refine T.regi hm ?_
  simp only [↓reduceIte, namesOf, List.any, I.names, aopsI, astep, ev, setd, List.set, List.getD, List.getElem?_cons_zero, List.getElem?_cons_succ, then_normal, Option.getD_some, Bool.or_false, Bool.false_eq_true, up_zero, ↓opt_def, List.map_cons, List.map_nil]
  rw [hl]
  refine (mParse_ok hT hE (by rw [nmp_len (.inr (.inl rfl))]; decide)).mono ?_
  rintro v σ1 ⟨rfl, hv⟩
  obtain rfl := hv.uniq (.inl ⟨255, [109], 0, hV, rfl, rfl⟩)
  try simp only [List.getElem?_cons_zero, List.getElem?_cons_succ]
  refine h1 _ _ ?_
  try clear h1 K_h1
  have hz : [AV.int .u64 0, .int .i64 0, .int .i64 0, .int .i64 0, .int .i64 0, .int .i64 0] = mtC ⟨0, 0, 0, 0, 0, 0⟩ := rfl
  have hno : ¬ mayM ⟨0, 0, 0, 0, 0, 0⟩ := by decide
  have ee : eqIv false [(tCode, .i64)] (.iface tCode (.int .i64 1)) (.iface tCode (.int .i64 1)) = some true := rfl
  have q1 : ∀ s : ByteArray, sbinv .eql s s = some (.bool true) := fun s => by simp [sbinv]
  have e255 : (((255 : Nat) : Int) == 255) = true := rfl
  refine T.seq_k (fun K_h1 h1 => ?_)
  refine T.regi hm ?_
  simp only [↓reduceIte, namesOf, List.any, I.names, aopsI, astep, ev, setd, List.set, List.getD, List.getElem?_cons_zero, List.getElem?_cons_succ, then_normal, Option.getD_some, Bool.or_false, Bool.false_eq_true, up_zero, ↓opt_def, List.map_cons, List.map_nil, fillA, ↓Option.map_some, hz]
  refine (mPut_no hno).mono ?_
  rintro v σ ⟨rfl, rfl⟩
  try simp only [List.getElem?_cons_zero, List.getElem?_cons_succ]
  refine h1 _ _ ?_
  try clear h1 K_h1
  have hnm := mName_ok (id := 255) (what := [109]) (page := 0) (σ := σ) hT (by omega) (by omega) (by simp)
  refine T.seq_k (fun K_h1 h1 => ?_)
  refine T.regt hm (tbl := []) Tbl.ok_nil ?_
  refine aopsT_cut 1 (fun K_c h_c => ?_)
  try simp only [↓reduceIte, namesOf, List.any, I.names, aopsT, qstep, CPt, Tbl.get, astep, ev, setd, List.set, Bool.or_false, Bool.false_eq_true, up_zero, List.map_cons, List.map_nil, List.take_succ_cons, List.take_zero, up_zero]
  refine (hnm).mono ?_
  rintro _ _ ⟨rfl, rfl⟩
  refine h_c _ _ ?_
  clear h_c K_c
  simp only [List.drop_succ_cons, List.drop_zero, Nat.zero_add]
  try simp only [↓reduceIte, namesOf, List.any, I.names, aops, aopsI, aopsT, qstep, CPt, qget, Tbl.get, astep, ev, setd, List.set, List.getD, List.getElem?_cons_zero, List.getElem?_cons_succ, List.getElem?_nil, List.cons_append, List.nil_append, List.length_cons, List.length_nil, List.replicate, then_normal, inBlock_normal, Option.getD_some, Option.getD_none, Bool.or_false, Bool.or_true, Bool.true_or, Bool.false_or, Bool.false_eq_true, if_false, if_true, up_zero, Nat.reduceAdd, Nat.reduceSub, binv, ↓opt_def, AV.isAny, AV.cells, ldc, List.map_cons, List.map_nil, St.set_next, St.set_same, St.up_next, Int.natCast_nonneg, lt_len, le_len, Int.toNat_natCast, true_and, and_true, eq_self, reduceCtorEq, decide_true, List.length_singleton, er_int, er_bool, er_str, srcR, up_zero, q1, ee, e255, bne_self_eq_false, Bool.bne_false]
  refine h1 _ _ ?_
  try clear h1 K_h1
  exact T.ret (Fin.ret rfl ⟨rfl, rfl⟩)

end Go.VL

namespace Go.VL

open Go.Proofs

/-- a slice that began as nil, and was appended to: nothing yet, or a named end; what was there ahead of it is as it was -/
def AccG (σ t : St) (k : Nat) (xs : List AV) (x : AV) : Option Nat → Prop
  | none => x = .sl [] .nil ∧ xs = [] ∧ Like σ t
  | some g => x = .sl xs (.tip g) ∧ Tq σ t g k

section

variable {σ t u : St} {k : Nat} {xs : List AV} {x : AV} {G : Option Nat}

theorem AccG.like (h : AccG σ t k xs x G) : Like σ t := by
  cases G with
  | none => exact h.2.2
  | some g => exact h.2.like

theorem AccG.nil (h : Like σ t) : AccG σ t k [] (.sl [] .nil) none := ⟨rfl, rfl, h⟩

theorem AccG.ex (h : AccG σ t k xs x G) : ∃ v, x = .sl xs v := by
  cases G with
  | none => obtain ⟨h1, h2, _⟩ := h; subst h2; exact ⟨_, h1⟩
  | some g => exact ⟨_, h.1⟩

theorem AccG.up (h : AccG σ t k xs x G) (n : Nat) : AccG σ (t.up n) k xs x G := by
  cases G with
  | none => exact ⟨h.1, h.2.1, h.2.2.up n⟩
  | some g => exact ⟨h.1, h.2.up n⟩

theorem AccG.lt (h : AccG σ t k xs x G) : ∀ g, G = some g → σ.next ≤ g ∧ g < t.next := by
  rintro g rfl
  exact ⟨h.2.lo, h.2.hi⟩

theorem AccG.keep (h : AccG σ t k xs x G) (hn : t.next ≤ u.next) (hs : ∀ m, m < σ.next → u.res m = t.res m) (hg : ∀ g, G = some g → u.res g = t.res g) : AccG σ u k xs x G := by
  have hl : Like σ u := ⟨Nat.le_trans h.like.next hn, fun m hm => (hs m hm).trans (h.like.same m hm)⟩
  cases G with
  | none => exact ⟨h.1, h.2.1, hl⟩
  | some g => exact ⟨h.1, hl, by rw [hg g rfl]; exact h.2.at_, h.2.lo, Nat.lt_of_lt_of_le h.2.hi hn⟩

theorem AccG.set (h : AccG σ t k xs x G) {a : Nat} (r : Res) (ha : σ.next ≤ a) (hg : ∀ g, G = some g → a ≠ g) : AccG σ (t.set a r) k xs x G :=
  h.keep (Nat.le_refl _) (fun m hm => St.set_other _ _ (by omega)) (fun g e => St.set_other _ _ (Ne.symm (hg g e)))

theorem AccG.box (h : AccG σ t k xs x G) {n i : Nat} (hi : i < n) (r : Res) : AccG σ ((t.up n).set (t.next + i) r) k xs x G :=
  (h.up n).set r (by have := h.like.next; omega) (fun g e => by have := (h.lt g e).2; omega)

theorem AccG.quiet (wf : WF σ) (h : AccG σ t k xs x G) : ∀ n r, σ.res n = some r → t.res n = some r := h.like.quiet wf

theorem AccG.wk (h : AccG σ t k xs x G) : Wk x (.sl xs .none) := by
  obtain ⟨v, rfl⟩ := h.ex
  exact .sl _ _

end

end Go.VL

namespace Go.VL

open Go.Proofs

/-- what a store holds: names, and bytes -/
abbrev Objs := List (ByteArray × List UInt8)

def objsAV (L : Objs) : List (AV × AV) := L.map fun e => (.str e.1, .sl (bytesAV e.2) .none)

/-- a store stands at p, its map at m -/
structure StS (σ : St) (p m : Nat) (room left calls : Int) (L : Objs) : Prop where
  obj : σ.res p = some (.obj [.int .i64 room, .map m, .int .i64 left, .int .i64 calls])
  map : ∃ ts clk, σ.res m = some (.map (objsAV L) ts clk) ∧ ts.length = L.length ∧ ts.Nodup ∧ ∀ t ∈ ts, t < clk
  ne : p ≠ m

theorem StS.mono {σ σ' : St} {p m : Nat} {room left calls : Int} {L : Objs} (h : StS σ p m room left calls L) (ho : ∀ n x, σ.res n = some x → σ'.res n = some x) : StS σ' p m room left calls L := by
  obtain ⟨ts, clk, h1, h2⟩ := h.map
  exact ⟨ho _ _ h.obj, ⟨ts, clk, ho _ _ h1, h2⟩, h.ne⟩

end Go.VL

namespace Go.VL

open Go.Proofs

/-- an owned row that comes back, told to be a value -/
theorem Gv.freeze {σ0 σ : St} {n off len k : Nat} {cs xs : List AV} (hr : σ.res n = some (.obj cs)) (hlen : xs.length = len) (hk : ∀ x ∈ xs, x.cells.length = k)
    (hx : xs.flatMap AV.cells = (cs.drop off).take (len * k)) : Gv σ0 (.ref n off len) σ (.sl xs .none) (σ.del n) := by
  intro κ0 w0 B0 F0 F κ w v h0 hR he hd hn hv
  obtain ⟨hdm, us, rest, ty, fz, h1, h2, h3, h4, _⟩ := hR.own n _ hr
  have e : Ext κ w { κ with I := fun b o => κ.I b o ∨ (b = κ.φ n ∧ o < us.length) } w := ⟨fun _ _ x => .inl x, fun _ _ => rfl, fun _ _ => rfl, fun _ _ => rfl, fun _ _ => rfl, fun _ x => x, fun _ _ _ => rfl⟩
  have hlt := hR.lt hr
  have hR' : R w0.heap.size F { κ with I := fun b o => κ.I b o ∨ (b = κ.φ n ∧ o < us.length) } w (σ.del n) := by
    refine hR.step e (fun m hm => hR.dom m hm) (fun b o hi => ?_) (fun m r hm => ?_)
    · rcases hi with hi | ⟨rfl, _⟩
      · exact hR.imm b o hi
      · exact hlt
    · have hmn : m ≠ n := by intro e; subst e; simp [St.del] at hm
      have hm' : σ.res m = some r := by simpa [St.del, hmn] using hm
      refine .inl ⟨hm', rfl, fun o hi => ?_⟩
      rcases hi with hi | ⟨hx, _⟩
      · exact hi
      · exact absurd (hR.apart _ _ _ _ hm' hr hx) hmn
  obtain ⟨cap, rfl, hcap, _⟩ := hv.ref_inv
  refine ⟨_, hR', he.trans e, hd, hn, ?_⟩
  rw [← hlen]
  refine .sl _ _ cap k xs hk (by rw [hlen]; exact hcap) ?_
  rw [hx]
  refine Vs.mk (us := (us.drop off).take (len * k)) (((h3.mono e).drop off).take _) (fun i u hu => ?_)
  have hu2 : us[off + i]? = some u := by
    rw [List.getElem?_take] at hu
    split at hu
    · simpa using hu
    · cases hu
  have hil : off + i < us.length := (List.getElem?_eq_some_iff.1 hu2).1
  exact ⟨.inr ⟨rfl, hil⟩, by rw [cell_of h1, List.getElem?_append_left hil]; exact hu2⟩

/-- all else is as it was -/
structure Nx (σ σ' : St) (p m : Nat) : Prop where
  next : σ.next ≤ σ'.next
  old : ∀ n x, n ≠ p → n ≠ m → σ.res n = some x → σ'.res n = some x

theorem Nx.refl (σ : St) (p m : Nat) : Nx σ σ p m := ⟨Nat.le_refl _, fun _ _ _ _ h => h⟩

theorem Nx.trans {σ σ1 σ2 : St} {p m : Nat} (h : Nx σ σ1 p m) (k : Nx σ1 σ2 p m) : Nx σ σ2 p m := ⟨Nat.le_trans h.next k.next, fun n x h1 h2 h3 => k.old n x h1 h2 (h.old n x h1 h2 h3)⟩

theorem Nx.set {σ : St} {p m : Nat} (r : Res) : Nx σ (σ.set p r) p m := ⟨Nat.le_refl _, fun n x h1 _ h3 => by rw [St.set_other _ _ h1]; exact h3⟩

end Go.VL

namespace Go.VL

open Go.Proofs

/-- a deed -/
structure Dd where
  what : Int
  name : ByteArray
  n : Int
  x : Int
  b : List UInt8

def Dd.av (d : Dd) : AV := .agg [.int .i64 d.what, .str d.name, .int .i64 d.n, .int .u8 d.x, .sl (bytesAV d.b) .none]

def Dd.ok (d : Dd) : Prop := (-9223372036854775808 ≤ d.what ∧ d.what ≤ 9223372036854775807) ∧ (-9223372036854775808 ≤ d.n ∧ d.n ≤ 9223372036854775807) ∧ (0 ≤ d.x ∧ d.x ≤ 255) ∧ d.name.size ≤ 9223372036854775807 ∧ d.b.length ≤ 9223372036854775807

end Go.VL

namespace Go.VL

open Go.Proofs

set_option maxRecDepth 10000 in
set_option maxHeartbeats 1000000 in
theorem rMay_ok {m : Mt} {σ : St} : ACalls Tryd.prog n_rMay [.agg [.int .u64 (m.id : Int), .int .i64 m.level, .int .i64 m.st, .int .i64 m.en, .int .i64 m.pages, .int .i64 m.traces]] σ (fun v σ' => v = .bool (decide (mayM m)) ∧ σ' = σ) := by
  refine s_rMay (fun wf => ?_)
  unfold c_rMay
  refine T.seq_k (fun K_h0 h0 => ?_)
  refine T.regi hm ?_
  simp only [↓reduceIte, namesOf, List.any, I.names, aopsI, astep, ev, setd, List.set, List.getD, List.getElem?_cons_zero, List.cons_append, List.nil_append, List.length_cons, List.length_nil, List.replicate, then_normal, Option.getD_some, Bool.or_false, Bool.false_eq_true, Nat.reduceAdd, Nat.reduceSub, AV.isAny, AV.cells, eq_self]
  refine h0 _ _ ?_
  try clear h0 K_h0
  have hb : ((σ.up 2).set (σ.next + 0) (.obj [.int .u64 (m.id : Int), .int .i64 m.level, .int .i64 m.st, .int .i64 m.en, .int .i64 m.pages, .int .i64 m.traces])).res (σ.next + 0) = some (.obj [.int .u64 (m.id : Int), .int .i64 m.level, .int .i64 m.st, .int .i64 m.en, .int .i64 m.pages, .int .i64 m.traces]) := St.set_same _ _ _
  have hL : Like σ ((σ.up 2).set (σ.next + 0) (.obj [.int .u64 (m.id : Int), .int .i64 m.level, .int .i64 m.st, .int .i64 m.en, .int .i64 m.pages, .int .i64 m.traces])) := (Like.refl σ).box (n := 2) (i := 0) _
  generalize ((σ.up 2).set (σ.next + 0) (.obj [.int .u64 (m.id : Int), .int .i64 m.level, .int .i64 m.st, .int .i64 m.en, .int .i64 m.pages, .int .i64 m.traces])) = t at hb hL ⊢
  generalize σ.next + 0 = b at hb ⊢
  by_cases c1 : (m.id : Int) > 0
  case neg =>
    have f1 : decide ((m.id : Int) > 0) = false := decide_eq_false c1
    have hm0 : decide (mayM m) = false := decide_eq_false (fun h => c1 (by have := h.1; omega))
    refine T.seq_k (fun K_h0 h0 => ?_)
    refine T.regi hm ?_
    simp only [↓reduceIte, namesOf, List.any, I.names, aopsI, astep, ev, setd, List.set, List.getD, List.getElem?_cons_zero, List.getElem?_cons_succ, then_normal, Option.getD_some, Bool.or_false, Bool.false_eq_true, up_zero, binv, ↓opt_def, ldc, eq_self, hb, Nat.zero_add, f1]
    refine h0 _ _ ?_
    try clear h0 K_h0
    exact T.ret (Fin.quiet rfl trivial (hL.quiet wf) ⟨by rw [hm0]; rfl, rfl⟩)
  have f1 : decide ((m.id : Int) > 0) = true := decide_eq_true c1
  by_cases c2 : m.level ≥ 0
  case neg =>
    have f2 : decide (m.level ≥ 0) = false := decide_eq_false c2
    have hm0 : decide (mayM m) = false := decide_eq_false (fun h => c2 h.2.1)
    refine T.seq_k (fun K_h0 h0 => ?_)
    refine T.regi hm ?_
    simp only [↓reduceIte, namesOf, List.any, I.names, aopsI, astep, ev, setd, List.set, List.getD, List.getElem?_cons_zero, List.getElem?_cons_succ, then_normal, Option.getD_some, Bool.or_false, Bool.false_eq_true, up_zero, binv, ↓opt_def, ldc, eq_self, hb, Nat.zero_add, f1, f2]
    refine h0 _ _ ?_
    try clear h0 K_h0
    exact T.ret (Fin.quiet rfl trivial (hL.quiet wf) ⟨by rw [hm0]; rfl, rfl⟩)
  have f2 : decide (m.level ≥ 0) = true := decide_eq_true c2
  by_cases c3 : m.level ≤ 10
  case neg =>
    have f3 : decide (m.level ≤ 10) = false := decide_eq_false c3
    have hm0 : decide (mayM m) = false := decide_eq_false (fun h => c3 h.2.2.1)
    refine T.seq_k (fun K_h0 h0 => ?_)
    refine T.regi hm ?_
    simp only [↓reduceIte, namesOf, List.any, I.names, aopsI, astep, ev, setd, List.set, List.getD, List.getElem?_cons_zero, List.getElem?_cons_succ, then_normal, Option.getD_some, Bool.or_false, Bool.false_eq_true, up_zero, binv, ↓opt_def, ldc, eq_self, hb, Nat.zero_add, f1, f2, f3]
    refine h0 _ _ ?_
    try clear h0 K_h0
    exact T.ret (Fin.quiet rfl trivial (hL.quiet wf) ⟨by rw [hm0]; rfl, rfl⟩)
  have f3 : decide (m.level ≤ 10) = true := decide_eq_true c3
  by_cases c4 : m.st ≥ 0
  case neg =>
    have f4 : decide (m.st ≥ 0) = false := decide_eq_false c4
    have hm0 : decide (mayM m) = false := decide_eq_false (fun h => c4 h.2.2.2.1)
    refine T.seq_k (fun K_h0 h0 => ?_)
    refine T.regi hm ?_
    simp only [↓reduceIte, namesOf, List.any, I.names, aopsI, astep, ev, setd, List.set, List.getD, List.getElem?_cons_zero, List.getElem?_cons_succ, then_normal, Option.getD_some, Bool.or_false, Bool.false_eq_true, up_zero, binv, ↓opt_def, ldc, eq_self, hb, Nat.zero_add, f1, f2, f3, f4]
    refine h0 _ _ ?_
    try clear h0 K_h0
    exact T.ret (Fin.quiet rfl trivial (hL.quiet wf) ⟨by rw [hm0]; rfl, rfl⟩)
  have f4 : decide (m.st ≥ 0) = true := decide_eq_true c4
  by_cases c5 : m.st ≤ m.en
  case neg =>
    have f5 : decide (m.st ≤ m.en) = false := decide_eq_false c5
    have hm0 : decide (mayM m) = false := decide_eq_false (fun h => c5 h.2.2.2.2.1)
    refine T.seq_k (fun K_h0 h0 => ?_)
    refine T.regi hm ?_
    simp only [↓reduceIte, namesOf, List.any, I.names, aopsI, astep, ev, setd, List.set, List.getD, List.getElem?_cons_zero, List.getElem?_cons_succ, then_normal, Option.getD_some, Bool.or_false, Bool.false_eq_true, up_zero, binv, ↓opt_def, ldc, eq_self, hb, Nat.zero_add, f1, f2, f3, f4, f5]
    refine h0 _ _ ?_
    try clear h0 K_h0
    exact T.ret (Fin.quiet rfl trivial (hL.quiet wf) ⟨by rw [hm0]; rfl, rfl⟩)
  have f5 : decide (m.st ≤ m.en) = true := decide_eq_true c5
  by_cases c6 : m.en ≤ 1099511627776
  case neg =>
    have f6 : decide (m.en ≤ 1099511627776) = false := decide_eq_false c6
    have hm0 : decide (mayM m) = false := decide_eq_false (fun h => c6 h.2.2.2.2.2.1)
    refine T.seq_k (fun K_h0 h0 => ?_)
    refine T.regi hm ?_
    simp only [↓reduceIte, namesOf, List.any, I.names, aopsI, astep, ev, setd, List.set, List.getD, List.getElem?_cons_zero, List.getElem?_cons_succ, then_normal, Option.getD_some, Bool.or_false, Bool.false_eq_true, up_zero, binv, ↓opt_def, ldc, eq_self, hb, Nat.zero_add, f1, f2, f3, f4, f5, f6]
    refine h0 _ _ ?_
    try clear h0 K_h0
    exact T.ret (Fin.quiet rfl trivial (hL.quiet wf) ⟨by rw [hm0]; rfl, rfl⟩)
  have f6 : decide (m.en ≤ 1099511627776) = true := decide_eq_true c6
  by_cases c7 : m.pages ≥ 1
  case neg =>
    have f7 : decide (m.pages ≥ 1) = false := decide_eq_false c7
    have hm0 : decide (mayM m) = false := decide_eq_false (fun h => c7 h.2.2.2.2.2.2.1)
    refine T.seq_k (fun K_h0 h0 => ?_)
    refine T.regi hm ?_
    simp only [↓reduceIte, namesOf, List.any, I.names, aopsI, astep, ev, setd, List.set, List.getD, List.getElem?_cons_zero, List.getElem?_cons_succ, then_normal, Option.getD_some, Bool.or_false, Bool.false_eq_true, up_zero, binv, ↓opt_def, ldc, eq_self, hb, Nat.zero_add, f1, f2, f3, f4, f5, f6, f7]
    refine h0 _ _ ?_
    try clear h0 K_h0
    exact T.ret (Fin.quiet rfl trivial (hL.quiet wf) ⟨by rw [hm0]; rfl, rfl⟩)
  have f7 : decide (m.pages ≥ 1) = true := decide_eq_true c7
  by_cases c8 : m.pages ≤ 200
  case neg =>
    have f8 : decide (m.pages ≤ 200) = false := decide_eq_false c8
    have hm0 : decide (mayM m) = false := decide_eq_false (fun h => c8 h.2.2.2.2.2.2.2.1)
    refine T.seq_k (fun K_h0 h0 => ?_)
    refine T.regi hm ?_
    simp only [↓reduceIte, namesOf, List.any, I.names, aopsI, astep, ev, setd, List.set, List.getD, List.getElem?_cons_zero, List.getElem?_cons_succ, then_normal, Option.getD_some, Bool.or_false, Bool.false_eq_true, up_zero, binv, ↓opt_def, ldc, eq_self, hb, Nat.zero_add, f1, f2, f3, f4, f5, f6, f7, f8]
    refine h0 _ _ ?_
    try clear h0 K_h0
    exact T.ret (Fin.quiet rfl trivial (hL.quiet wf) ⟨by rw [hm0]; rfl, rfl⟩)
  have f8 : decide (m.pages ≤ 200) = true := decide_eq_true c8
  by_cases c9 : m.traces ≥ m.pages
  case neg =>
    have f9 : decide (m.traces ≥ m.pages) = false := decide_eq_false c9
    have hm0 : decide (mayM m) = false := decide_eq_false (fun h => c9 h.2.2.2.2.2.2.2.2.1)
    refine T.seq_k (fun K_h0 h0 => ?_)
    refine T.regi hm ?_
    simp only [↓reduceIte, namesOf, List.any, I.names, aopsI, astep, ev, setd, List.set, List.getD, List.getElem?_cons_zero, List.getElem?_cons_succ, then_normal, Option.getD_some, Bool.or_false, Bool.false_eq_true, up_zero, binv, ↓opt_def, ldc, eq_self, hb, Nat.zero_add, f1, f2, f3, f4, f5, f6, f7, f8, f9]
    refine h0 _ _ ?_
    try clear h0 K_h0
    exact T.ret (Fin.quiet rfl trivial (hL.quiet wf) ⟨by rw [hm0]; rfl, rfl⟩)
  have f9 : decide (m.traces ≥ m.pages) = true := decide_eq_true c9
  have hw : IntKind.i64.wrap (64 * m.pages) = 64 * m.pages := wrap64 (by omega) (by omega)
  by_cases c10 : m.traces ≤ 64 * m.pages
  case neg =>
    have f10 : decide (m.traces ≤ 64 * m.pages) = false := decide_eq_false c10
    have hm0 : decide (mayM m) = false := decide_eq_false (fun h => c10 (by have := h.2.2.2.2.2.2.2.2.2; omega))
    refine T.seq_k (fun K_h0 h0 => ?_)
    refine T.regi hm ?_
    simp only [↓reduceIte, namesOf, List.any, I.names, aopsI, astep, ev, setd, List.set, List.getD, List.getElem?_cons_zero, List.getElem?_cons_succ, then_normal, Option.getD_some, Bool.or_false, Bool.false_eq_true, up_zero, binv, ↓opt_def, ldc, eq_self, hb, Nat.zero_add, f1, f2, f3, f4, f5, f6, f7, f8, f9, f10, hw]
    refine h0 _ _ ?_
    try clear h0 K_h0
    exact T.ret (Fin.quiet rfl trivial (hL.quiet wf) ⟨by rw [hm0]; rfl, rfl⟩)
  have f10 : decide (m.traces ≤ 64 * m.pages) = true := decide_eq_true c10
  have hm0 : decide (mayM m) = true := decide_eq_true ⟨by omega, c2, c3, c4, c5, c6, c7, c8, c9, by omega⟩
  refine T.seq_k (fun K_h0 h0 => ?_)
  refine T.regi hm ?_
  simp only [↓reduceIte, namesOf, List.any, I.names, aopsI, astep, ev, setd, List.set, List.getD, List.getElem?_cons_zero, List.getElem?_cons_succ, then_normal, Option.getD_some, Bool.or_false, Bool.false_eq_true, up_zero, binv, ↓opt_def, ldc, eq_self, hb, Nat.zero_add, f1, f2, f3, f4, f5, f6, f7, f8, f9, f10, hw]
  refine h0 _ _ ?_
  try clear h0 K_h0
  exact T.ret (Fin.quiet rfl trivial (hL.quiet wf) ⟨by rw [hm0]; rfl, rfl⟩)

set_option maxRecDepth 10000 in
set_option maxHeartbeats 1000000 in
theorem rBare_ok {k : Mk} {σ : St} (h1i : k.id < 18446744073709551616) (h2i : k.by_ < 18446744073709551616) (h3i : 0 ≤ k.at_ ∧ k.at_ ≤ 1099511627776) :
    ACalls Tryd.prog n_rBare [.agg [.int .u64 (k.id : Int), .int .i64 k.at_, .int .u64 (k.by_ : Int)]] σ (fun v σ' => v = .sl (bytesAV (w8s [k.id, k.at_.toNat, k.by_])) .none ∧ σ' = σ) := by
  refine s_rBare (fun wf => ?_)
  unfold c_rBare
  have e3 : IntKind.u64.wrap k.at_ = ((k.at_.toNat : Nat) : Int) := by
    have := u64w (n := k.at_.toNat) (by omega)
    rw [Int.toNat_of_nonneg h3i.1] at this
    rw [this, Int.toNat_of_nonneg h3i.1]
  refine T.seq_k (fun K_h0 h0 => ?_)
  refine T.regi hm ?_
  simp only [↓reduceIte, namesOf, List.any, I.names, aopsI, astep, ev, setd, List.set, List.getD, List.getElem?_cons_zero, List.cons_append, List.nil_append, List.length_cons, List.length_nil, List.replicate, then_normal, Option.getD_some, Bool.or_false, Bool.false_eq_true, Nat.reduceAdd, Nat.reduceSub, AV.isAny, AV.cells, eq_self]
  refine h0 _ _ ?_
  try clear h0 K_h0
  have hb : ((σ.up 2).set (σ.next + 0) (.obj [.int .u64 (k.id : Int), .int .i64 k.at_, .int .u64 (k.by_ : Int)])).res (σ.next + 0) = some (.obj [.int .u64 (k.id : Int), .int .i64 k.at_, .int .u64 (k.by_ : Int)]) := St.set_same _ _ _
  have hL : Like σ ((σ.up 2).set (σ.next + 0) (.obj [.int .u64 (k.id : Int), .int .i64 k.at_, .int .u64 (k.by_ : Int)])) := (Like.refl σ).box (n := 2) (i := 0) _
  have hbn : σ.next + 0 < ((σ.up 2).set (σ.next + 0) (.obj [.int .u64 (k.id : Int), .int .i64 k.at_, .int .u64 (k.by_ : Int)])).next := by simp
  generalize ((σ.up 2).set (σ.next + 0) (.obj [.int .u64 (k.id : Int), .int .i64 k.at_, .int .u64 (k.by_ : Int)])) = t at hb hL hbn ⊢
  generalize σ.next + 0 = b at hb hbn ⊢
  have hbs : ∀ r, ((t.up 9).set (t.next + 2) r).res b = some (.obj [.int .u64 (k.id : Int), .int .i64 k.at_, .int .u64 (k.by_ : Int)]) := fun r => (St.set_other _ _ (by omega)).trans hb
  have hbu : ∀ k', (t.up k').res b = some (.obj [.int .u64 (k.id : Int), .int .i64 k.at_, .int .u64 (k.by_ : Int)]) := fun _ => hb
  have hb4 : b + 4 < t.next + 4 := by omega
  have hints : ∀ l : List UInt8, (bytesAV l).all AV.isInt = true := fun l => by simp [bytesAV, AV.isInt]
  have hw8 : w8s [k.id, k.at_.toNat, k.by_] = beB 8 k.id ++ beB 8 k.at_.toNat ++ beB 8 k.by_ := by simp [w8s]
  have q1 : Tq σ ((((t.up 9).set (t.next + 2) (.tip 1)).del (t.next + 2)).set (t.next + 7) (.tip 1)) (t.next + 7) 1 := (Tq.new hL (n := 9) (i := 2) (by omega) 1).mv (by have := hL.next; omega) (by simp)
  have hb2 : ((((t.up 9).set (t.next + 2) (.tip 1)).del (t.next + 2)).set (t.next + 7) (.tip 1)).res b = some (.obj [.int .u64 (k.id : Int), .int .i64 k.at_, .int .u64 (k.by_ : Int)]) := by
    rw [St.set_other _ _ (by omega)]; simp only [St.del]; rw [if_neg (by omega)]; exact hbs _
  refine T.seq_k (fun K_h1 h1 => ?_)
  refine T.regi hm ?_
  simp only [↓reduceIte, namesOf, List.any, I.names, aopsI, astep, ev, setd, List.set, List.getD, List.getElem?_cons_zero, List.getElem?_cons_succ, List.length_cons, List.length_nil, then_normal, Option.getD_some, Bool.or_false, Bool.or_true, Nat.reduceAdd, ↓opt_def, ldc, List.map_cons, List.map_nil, St.set_same, eq_self, hbu, Nat.zero_add, Nat.add_zero]
  refine ⟨bytesAV (beB 8 k.id), fun σ2 => (rbytes_ok (w := 8) (n := k.id) (by omega) h1i).mono ?_, hints _, ?_⟩
  · rintro v s2 (⟨h0, _⟩ | ⟨h, o1, rfl⟩)
    · cases h0
    · exact ⟨h, o1.lo, o1.hi, o1.res, rfl⟩
  try simp only [↓reduceIte, List.getElem?_cons_zero, List.getElem?_cons_succ, hbs, hb4, e3]
  refine ⟨_, rbytes_q (w := 8) (n := k.at_.toNat) (by omega) (by omega), ?_⟩
  try simp only [↓reduceIte, Nat.reduceAdd, eq_self, decide_true, srcOf, bytesAV_er, bytesAV_app, bytes_all, bytesAV_len, Bool.and_self, beB_len, Nat.reduceAdd, Nat.reduceMul, Nat.reduceLeDiff, and_self]
  generalize ((((t.up 9).set (t.next + 2) (.tip 1)).del (t.next + 2)).set (t.next + 7) (.tip 1)) = u at q1 hb2 ⊢
  generalize t.next + 7 = g at q1 ⊢
  clear hb hL hbn hbs hbu hb4
  have hat1 := q1.ats
  have hbu : ∀ k', (u.up k').res b = some (.obj [.int .u64 (k.id : Int), .int .i64 k.at_, .int .u64 (k.by_ : Int)]) := fun _ => hb2
  refine h1 _ _ ?_
  try clear h1 K_h1
  refine T.seq_k (fun K_h1 h1 => ?_)
  refine T.regi hm ?_
  simp only [↓reduceIte, namesOf, List.any, I.names, aopsI, astep, ev, setd, List.set, List.getD, List.getElem?_cons_zero, List.getElem?_cons_succ, List.length_cons, List.length_nil, then_normal, Option.getD_some, Bool.or_false, Bool.or_true, Nat.reduceAdd, ↓opt_def, ldc, List.map_cons, List.map_nil, eq_self, hbu]
  refine (rbytes_q (w := 8) (n := k.by_) (by omega) h2i).mono ?_
  rintro v s2 ⟨rfl, rfl⟩
  try simp only [↓reduceIte, Nat.reduceAdd, eq_self, decide_true, srcOf, bytesAV_er, bytesAV_app, bytes_all, bytesAV_len, List.length_append, Bool.and_self, hat1, beB_len, Nat.reduceAdd, Nat.reduceMul, Nat.reduceLeDiff, and_self]
  have q2 := q1.app (n := 6) (i := 4) (by omega)
  refine h1 _ _ ?_
  try clear h1 K_h1
  exact T.ret (Fin.quietw rfl (Wk.sl _ _) ⟨nb_bytes _ _, trivial⟩ (q2.quiet wf) ⟨by rw [hw8], rfl⟩)

end Go.VL

namespace Go.VL

open Go.Proofs

set_option maxRecDepth 10000 in
set_option maxHeartbeats 1000000 in
theorem rPlain_ok {m : Mt} {σ : St} (hm0 : mayM m) (hid : m.id < 18446744073709551616) : ACalls Tryd.prog n_rPlain [.agg (mtC m)] σ (fun v σ' => v = .sl (bytesAV (wWs (mtW m))) .none ∧ σ' = σ) := by
  refine s_rPlain (fun wf => ?_)
  unfold c_rPlain
  obtain ⟨m1, m2, m3, m4, m5, m6, m7, m8, m9, m10⟩ := hm0
  have w3 := u64n (x := m.st) m4 (by omega)
  have w4 := u64n (x := m.en) (by omega) (by omega)
  have w5 := u64n (x := m.pages) (by omega) (by omega)
  have w6 := u64n (x := m.traces) (by omega) (by omega)
  have w2 : IntKind.u8.wrap m.level = ((UInt8.ofNat m.level.toNat).toNat : Int) := by rw [← u8w, toN m2]
  have hall : wWs (mtW m) = (((((beB 8 m.id ++ beB 8 m.st.toNat) ++ beB 8 m.en.toNat) ++ [UInt8.ofNat m.level.toNat]) ++ beB 2 m.pages.toNat) ++ beB 4 m.traces.toNat) := by
    have h1 : beB 1 m.level.toNat = [UInt8.ofNat m.level.toNat] := by
      simp only [beB, List.nil_append]
      rw [Nat.mod_eq_of_lt (by omega)]
    simp only [wWs, mtW, List.flatMap_cons, List.flatMap_nil, List.append_nil, h1, List.append_assoc]
  have hints : ∀ l : List UInt8, (bytesAV l).all AV.isInt = true := fun l => by simp [bytesAV, AV.isInt]
  refine T.seq_k (fun K_h0 h0 => ?_)
  refine T.regi hm ?_
  simp only [↓reduceIte, namesOf, List.any, I.names, aopsI, astep, ev, setd, List.set, List.getD, List.getElem?_cons_zero, List.cons_append, List.nil_append, List.length_cons, List.length_nil, List.replicate, then_normal, Option.getD_some, Bool.or_false, Bool.false_eq_true, Nat.reduceAdd, Nat.reduceSub, AV.isAny, AV.cells, eq_self]
  refine h0 _ _ ?_
  try clear h0 K_h0
  have hb : ((σ.up 2).set (σ.next + 0) (.obj (mtC m))).res (σ.next + 0) = some (.obj (mtC m)) := St.set_same _ _ _
  have hL : Like σ ((σ.up 2).set (σ.next + 0) (.obj (mtC m))) := (Like.refl σ).box (n := 2) (i := 0) _
  have hbn : σ.next + 0 < ((σ.up 2).set (σ.next + 0) (.obj (mtC m))).next := by simp
  generalize ((σ.up 2).set (σ.next + 0) (.obj (mtC m))) = t at hb hL hbn ⊢
  generalize σ.next + 0 = b at hb hbn ⊢
  have hbs : ∀ r, ((t.up 9).set (t.next + 2) r).res b = some (.obj (mtC m)) := fun r => (St.set_other _ _ (by omega)).trans hb
  have hbu : ∀ k', (t.up k').res b = some (.obj (mtC m)) := fun _ => hb
  have hb4 : b + 4 < t.next + 4 := by omega
  have q1 : Tq σ ((((t.up 9).set (t.next + 2) (.tip 1)).del (t.next + 2)).set (t.next + 7) (.tip 1)) (t.next + 7) 1 := (Tq.new hL (n := 9) (i := 2) (by omega) 1).mv (by have := hL.next; omega) (by simp)
  have hb2 : ((((t.up 9).set (t.next + 2) (.tip 1)).del (t.next + 2)).set (t.next + 7) (.tip 1)).res b = some (.obj (mtC m)) := by
    rw [St.set_other _ _ (by omega)]; simp only [St.del]; rw [if_neg (by omega)]; exact hbs _
  have hbl2 : b < ((((t.up 9).set (t.next + 2) (.tip 1)).del (t.next + 2)).set (t.next + 7) (.tip 1)).next := by simp; omega
  refine T.seq_k (fun K_h1 h1 => ?_)
  refine T.regi hm ?_
  simp only [↓reduceIte, namesOf, List.any, I.names, aopsI, astep, ev, setd, List.set, List.getD, List.getElem?_cons_zero, List.getElem?_cons_succ, List.length_cons, List.length_nil, then_normal, Option.getD_some, Bool.or_false, Bool.or_true, Nat.reduceAdd, ↓opt_def, ldc, List.map_cons, List.map_nil, St.set_same, eq_self, hbu, Nat.zero_add, Nat.add_zero]
  refine ⟨bytesAV (beB 8 m.id), fun σ2 => (rbytes_ok (w := 8) (n := m.id) (by omega) hid).mono ?_, hints _, ?_⟩
  · rintro v s2 (⟨h0, _⟩ | ⟨h, o1, rfl⟩)
    · cases h0
    · exact ⟨h, o1.lo, o1.hi, o1.res, rfl⟩
  try simp only [↓reduceIte, List.getElem?_cons_zero, List.getElem?_cons_succ, hbs, hb4, w3]
  refine ⟨_, rbytes_q (w := 8) (n := m.st.toNat) (by omega) (by omega), ?_⟩
  try simp only [↓reduceIte, Nat.reduceAdd, eq_self, decide_true, srcOf, bytesAV_er, bytesAV_app, bytes_all, bytesAV_len, Bool.and_self, beB_len, Nat.reduceAdd, Nat.reduceMul, Nat.reduceLeDiff, and_self]
  generalize hu : ((((t.up 9).set (t.next + 2) (.tip 1)).del (t.next + 2)).set (t.next + 7) (.tip 1)) = u at q1 hb2 hbl2 ⊢
  generalize t.next + 7 = g at q1 ⊢
  clear hu hb hL hbn hbs hbu hb4
  have tb : Tb σ u g 1 b (.obj (mtC m)) := ⟨q1, hb2, hbl2, fun e => by have h1 := q1.at_; rw [← e, hb2] at h1; cases h1⟩
  clear q1 hb2 hbl2
  refine h1 _ _ ?_
  try clear h1 K_h1
  have hbu := tb.bs
  have hat := tb.q.ats
  refine T.seq_k (fun K_h1 h1 => ?_)
  refine T.regi hm ?_
  simp only [↓reduceIte, namesOf, List.any, I.names, aopsI, astep, ev, setd, List.set, List.getD, List.getElem?_cons_zero, List.getElem?_cons_succ, List.length_cons, List.length_nil, then_normal, Option.getD_some, Bool.or_false, Bool.or_true, Nat.reduceAdd, ↓opt_def, ldc, List.map_cons, List.map_nil, eq_self, hbu, w4]
  refine (rbytes_q (w := 8) (n := m.en.toNat) (by omega) (by omega)).mono ?_
  rintro v s2 ⟨rfl, rfl⟩
  try simp only [↓reduceIte, Nat.reduceAdd, eq_self, decide_true, srcOf, bytesAV_er, bytesAV_app, bytes_all, bytesAV_len, List.length_append, Bool.and_self, hat, beB_len, Nat.reduceAdd, Nat.reduceMul, Nat.reduceLeDiff, and_self]
  have tb2 := tb.app (n := 7) (i := 5) (by omega)
  generalize (((u.up 7).del g).set (u.next + 5) (.tip 1)) = u2 at tb2 ⊢
  generalize u.next + 5 = g2 at tb2 ⊢
  clear tb hbu hat
  refine h1 _ _ ?_
  try clear h1 K_h1
  have hbu := tb2.bs
  have hat := tb2.q.ats
  have hone : [AV.int .u8 ((UInt8.ofNat m.level.toNat).toNat : Int)] = bytesAV [UInt8.ofNat m.level.toNat] := rfl
  refine T.seq_k (fun K_h1 h1 => ?_)
  refine T.regi hm ?_
  simp only [↓reduceIte, namesOf, List.any, I.names, aopsI, astep, ev, setd, List.set, List.getD, List.getElem?_cons_zero, List.getElem?_cons_succ, List.length_cons, List.length_nil, then_normal, Option.getD_some, Bool.or_false, Bool.or_true, Nat.reduceAdd, ↓opt_def, ldc, List.map_cons, List.map_nil, eq_self, decide_true, hbu, hat, w2, Bool.and_self, hone, held, srcOf, bytesAV_er, bytesAV_app, bytes_all, bytesAV_len, List.length_append, Bool.and_self, beB_len, Nat.reduceAdd, Nat.reduceMul, Nat.reduceLeDiff, and_self]
  have tb3 := tb2.app (n := 7) (i := 5) (by omega)
  generalize (((u2.up 7).del g2).set (u2.next + 5) (.tip 1)) = u3 at tb3 ⊢
  generalize u2.next + 5 = g3 at tb3 ⊢
  clear tb2 hbu hat
  refine h1 _ _ ?_
  try clear h1 K_h1
  have hbu := tb3.bs
  have hat := tb3.q.ats
  refine T.seq_k (fun K_h1 h1 => ?_)
  refine T.regi hm ?_
  simp only [↓reduceIte, namesOf, List.any, I.names, aopsI, astep, ev, setd, List.set, List.getD, List.getElem?_cons_zero, List.getElem?_cons_succ, List.length_cons, List.length_nil, then_normal, Option.getD_some, Bool.or_false, Bool.or_true, Nat.reduceAdd, ↓opt_def, ldc, List.map_cons, List.map_nil, eq_self, hbu, w5]
  refine (rbytes_q (w := 2) (n := m.pages.toNat) (by omega) (by omega)).mono ?_
  rintro v s2 ⟨rfl, rfl⟩
  try simp only [↓reduceIte, List.length_cons, List.length_nil, Nat.reduceAdd, eq_self, decide_true, srcOf, bytesAV_er, bytesAV_app, bytes_all, bytesAV_len, List.length_append, Bool.and_self, hat, beB_len, Nat.reduceAdd, Nat.reduceMul, Nat.reduceLeDiff, and_self]
  have tb4 := tb3.app (n := 7) (i := 5) (by omega)
  generalize (((u3.up 7).del g3).set (u3.next + 5) (.tip 1)) = u4 at tb4 ⊢
  generalize u3.next + 5 = g4 at tb4 ⊢
  clear tb3 hbu hat
  refine h1 _ _ ?_
  try clear h1 K_h1
  have hbu := tb4.bs
  have hat := tb4.q.ats
  refine T.seq_k (fun K_h1 h1 => ?_)
  refine T.regi hm ?_
  simp only [↓reduceIte, namesOf, List.any, I.names, aopsI, astep, ev, setd, List.set, List.getD, List.getElem?_cons_zero, List.getElem?_cons_succ, List.length_cons, List.length_nil, then_normal, Option.getD_some, Bool.or_false, Bool.or_true, Nat.reduceAdd, ↓opt_def, ldc, List.map_cons, List.map_nil, eq_self, hbu, w6]
  refine (rbytes_q (w := 4) (n := m.traces.toNat) (by omega) (by omega)).mono ?_
  rintro v s2 ⟨rfl, rfl⟩
  try simp only [↓reduceIte, List.length_cons, List.length_nil, Nat.reduceAdd, eq_self, decide_true, srcOf, bytesAV_er, bytesAV_app, bytes_all, bytesAV_len, List.length_append, Bool.and_self, hat, beB_len, Nat.reduceAdd, Nat.reduceMul, Nat.reduceLeDiff, and_self]
  have tb5 := tb4.app (n := 7) (i := 5) (by omega)
  generalize (((u4.up 7).del g4).set (u4.next + 5) (.tip 1)) = u5 at tb5 ⊢
  generalize u4.next + 5 = g5 at tb5 ⊢
  clear tb4 hbu hat
  refine h1 _ _ ?_
  try clear h1 K_h1
  rw [← hall]
  exact T.ret (Fin.quietw rfl (Wk.sl _ _) ⟨nb_bytes _ _, trivial⟩ (tb5.q.quiet wf) ⟨rfl, rfl⟩)

end Go.VL

namespace Go.VL

open Go.Proofs

set_option maxRecDepth 10000 in
set_option maxHeartbeats 2000000 in
theorem metaPuts_ok {m : Mt} {k : Mk} {σ : St} (hT : Tabs σ) (hE : Errs σ) (hid : m.id < 18446744073709551616) (h1i : k.id < 18446744073709551616) (h2i : k.by_ < 18446744073709551616) :
    ACalls Tryd.prog n_metaPuts [.agg (mtC m), .agg (mkC k)] σ (fun v σ' => v = .bool true ∧ σ' = σ) := by
  refine s_metaPuts (fun wf => ?_)
  unfold c_metaPuts
  have en : eqIv true [(tCode, .i64)] .nili .nili = some true := rfl
  have en2 : eqIv false [(tCode, .i64)] .nili .nili = none := rfl
  have ee : eqIv false [(tCode, .i64)] (.iface tCode (.int .i64 1)) (.iface tCode (.int .i64 1)) = some true := rfl
  have z0 : (((0 : Nat) : Int) != 0) = false := rfl
  have z1 : (((0 : Nat) : Int) == 0) = true := rfl
  have sn : ∀ s : ByteArray, sbinv .neq s s = some (.bool false) := fun s => by simp [sbinv]
  have sq : ∀ s : ByteArray, sbinv .eql s s = some (.bool true) := fun s => by simp [sbinv]
  have hbb : ∀ b : Bool, ((b == b) != true) = false := fun b => by cases b <;> rfl
  refine T.seq_k (fun K_h0 h0 => ?_)
  refine T.regi hm ?_
  simp only [↓reduceIte, namesOf, List.any, I.names, aopsI, astep, ev, setd, List.set, List.getD, List.getElem?_cons_zero, List.getElem?_cons_succ, List.cons_append, List.nil_append, List.length_cons, List.length_nil, List.replicate, then_normal, Option.getD_some, Bool.or_false, Bool.or_true, Bool.false_eq_true, Nat.reduceAdd, Nat.reduceSub, AV.isAny, AV.cells, eq_self]
  refine h0 _ _ ?_
  try clear h0 K_h0
  have hb : (((σ.up 3).set (σ.next + 0) (.obj (mtC m))).set (σ.next + 1) (.obj (mkC k))).res (σ.next + 0) = some (.obj (mtC m)) := by rw [St.set_other _ _ (by omega)]; exact St.set_same _ _ _
  have hk : (((σ.up 3).set (σ.next + 0) (.obj (mtC m))).set (σ.next + 1) (.obj (mkC k))).res (σ.next + 1) = some (.obj (mkC k)) := St.set_same _ _ _
  have hL : Like σ (((σ.up 3).set (σ.next + 0) (.obj (mtC m))).set (σ.next + 1) (.obj (mkC k))) := ((Like.refl σ).box (n := 3) (i := 0) _).set _ (by omega)
  generalize (((σ.up 3).set (σ.next + 0) (.obj (mtC m))).set (σ.next + 1) (.obj (mkC k))) = t at hb hk hL ⊢
  generalize σ.next + 0 = p at hb ⊢
  generalize σ.next + 1 = q at hk ⊢
  have hTt := hT.like wf hL
  have hEt := hE.like wf hL
  refine T.seq_k (fun K_h1 h1 => ?_)
  refine T.regi hm ?_
  simp only [↓reduceIte, namesOf, List.any, I.names, aopsI, astep, ev, setd, List.set, List.getD, List.getElem?_cons_zero, List.getElem?_cons_succ, then_normal, Option.getD_some, Bool.or_false, Bool.false_eq_true, up_zero, List.map_nil]
  refine (up13_ok hTt hEt).mono ?_
  rintro v t ⟨rfl, rfl⟩
  try simp only [↓reduceIte, namesOf, List.any, I.names, aops, aopsI, aopsT, qstep, CPt, qget, Tbl.get, astep, ev, setd, List.set, List.getD, List.getElem?_cons_zero, List.getElem?_cons_succ, List.getElem?_nil, List.cons_append, List.nil_append, List.length_cons, List.length_nil, List.replicate, then_normal, inBlock_normal, Option.getD_some, Option.getD_none, Bool.or_false, Bool.or_true, Bool.true_or, Bool.false_or, Bool.false_eq_true, if_false, if_true, up_zero, Nat.reduceAdd, Nat.reduceSub, binv, ↓opt_def, AV.isAny, AV.cells, ldc, List.map_cons, List.map_nil, St.set_next, St.set_same, St.up_next, Int.natCast_nonneg, lt_len, le_len, Int.toNat_natCast, true_and, and_true, eq_self, reduceCtorEq, decide_true, List.length_singleton, er_int, er_bool, er_str, srcR, up_zero]
  refine h1 _ _ ?_
  try clear h1 K_h1
  obtain ⟨vb, ve, hput, hp1, hp2⟩ : ∃ vb ve, ACalls Tryd.prog n_mPut [.agg (mtC m)] t (fun v σ' => v = .tup [vb, ve] ∧ σ' = t) ∧ (mayM m → vb = .sl (bytesAV (metaB m)) .none ∧ ve = .nili) ∧ (¬ mayM m → vb = .sl [] .nil ∧ ve = .iface tCode (.int .i64 1)) := by
    by_cases hm0 : mayM m
    · exact ⟨_, _, mPut_ok hm0 hid, fun _ => ⟨rfl, rfl⟩, fun h => absurd hm0 h⟩
    · exact ⟨_, _, mPut_no hm0, fun h => absurd h hm0, fun _ => ⟨rfl, rfl⟩⟩
  obtain ⟨wb, we, hmark, hk1, hk2⟩ : ∃ vb ve, ACalls Tryd.prog n_mMark [.agg (mkC k)] t (fun v σ' => v = .tup [vb, ve] ∧ σ' = t) ∧ (fairM k → vb = .sl (bytesAV (markB k)) .none ∧ ve = .nili) ∧ (¬ fairM k → vb = .sl [] .nil ∧ ve = .iface tCode (.int .i64 1)) := by
    by_cases hm0 : fairM k
    · exact ⟨_, _, mMark_ok hm0, fun _ => ⟨rfl, rfl⟩, fun h => absurd hm0 h⟩
    · exact ⟨_, _, mMark_no hm0, fun h => absurd h hm0, fun _ => ⟨rfl, rfl⟩⟩
  refine T.seq_k (fun K_h1 h1 => ?_)
  refine T.regi hm ?_
  simp only [↓reduceIte, namesOf, List.any, I.names, aopsI, astep, ev, setd, List.set, List.getD, List.getElem?_cons_zero, List.getElem?_cons_succ, List.length_cons, List.length_nil, then_normal, Option.getD_some, Bool.or_false, Bool.false_eq_true, up_zero, Nat.reduceAdd, ↓opt_def, ldc, List.map_cons, List.map_nil, hb, Nat.zero_add, Nat.zero_add, List.take, List.drop, Nat.reduceLeDiff]
  refine hput.mono ?_
  rintro v t ⟨rfl, rfl⟩
  try simp only [List.getElem?_cons_zero, List.getElem?_cons_succ]
  refine h1 _ _ ?_
  try clear h1 K_h1
  refine T.seq_k (fun K_h1 h1 => ?_)
  refine T.regi hm ?_
  simp only [↓reduceIte, namesOf, List.any, I.names, aopsI, astep, ev, setd, List.set, List.getD, List.getElem?_cons_zero, List.getElem?_cons_succ, List.length_cons, List.length_nil, then_normal, Option.getD_some, Bool.or_false, Bool.false_eq_true, up_zero, Nat.reduceAdd, ↓opt_def, ldc, List.map_cons, List.map_nil, hk, Nat.zero_add, Nat.zero_add, List.take, List.drop, Nat.reduceLeDiff]
  refine hmark.mono ?_
  rintro v t ⟨rfl, rfl⟩
  try simp only [List.getElem?_cons_zero, List.getElem?_cons_succ]
  refine h1 _ _ ?_
  try clear h1 K_h1
  refine T.seq_k (fun K_h1 h1 => ?_)
  refine T.regi hm ?_
  simp only [↓reduceIte, namesOf, List.any, I.names, aopsI, astep, ev, setd, List.set, List.getD, List.getElem?_cons_zero, List.getElem?_cons_succ, List.length_cons, List.length_nil, then_normal, Option.getD_some, Bool.or_false, Bool.false_eq_true, up_zero, Nat.reduceAdd, ↓opt_def, ldc, List.map_cons, List.map_nil, hb, Nat.zero_add, Nat.zero_add, List.take, List.drop, Nat.reduceLeDiff]
  refine (rMay_ok (m := m)).mono ?_
  rintro v t ⟨rfl, rfl⟩
  try simp only [↓reduceIte, namesOf, List.any, I.names, aops, aopsI, aopsT, qstep, CPt, qget, Tbl.get, astep, ev, setd, List.set, List.getD, List.getElem?_cons_zero, List.getElem?_cons_succ, List.getElem?_nil, List.cons_append, List.nil_append, List.length_cons, List.length_nil, List.replicate, then_normal, inBlock_normal, Option.getD_some, Option.getD_none, Bool.or_false, Bool.or_true, Bool.true_or, Bool.false_or, Bool.false_eq_true, if_false, if_true, up_zero, Nat.reduceAdd, Nat.reduceSub, binv, ↓opt_def, AV.isAny, AV.cells, ldc, List.map_cons, List.map_nil, St.set_next, St.set_same, St.up_next, Int.natCast_nonneg, lt_len, le_len, Int.toNat_natCast, true_and, and_true, eq_self, reduceCtorEq, decide_true, List.length_singleton, er_int, er_bool, er_str, srcR, up_zero]
  refine h1 _ _ ?_
  try clear h1 K_h1
  refine T.seq_k (fun K_h1 h1 => ?_)
  refine T.regi hm ?_
  simp only [↓reduceIte, namesOf, List.any, I.names, aopsI, astep, ev, setd, List.set, List.getD, List.getElem?_cons_zero, List.getElem?_cons_succ, List.length_cons, List.length_nil, then_normal, Option.getD_some, Bool.or_false, Bool.false_eq_true, up_zero, Nat.reduceAdd, ↓opt_def, ldc, List.map_cons, List.map_nil, hk, Nat.zero_add, Nat.zero_add, List.take, List.drop, Nat.reduceLeDiff]
  refine (rFair_ok (k := k)).mono ?_
  rintro v t ⟨rfl, rfl⟩
  try simp only [↓reduceIte, namesOf, List.any, I.names, aops, aopsI, aopsT, qstep, CPt, qget, Tbl.get, astep, ev, setd, List.set, List.getD, List.getElem?_cons_zero, List.getElem?_cons_succ, List.getElem?_nil, List.cons_append, List.nil_append, List.length_cons, List.length_nil, List.replicate, then_normal, inBlock_normal, Option.getD_some, Option.getD_none, Bool.or_false, Bool.or_true, Bool.true_or, Bool.false_or, Bool.false_eq_true, if_false, if_true, up_zero, Nat.reduceAdd, Nat.reduceSub, binv, ↓opt_def, AV.isAny, AV.cells, ldc, List.map_cons, List.map_nil, St.set_next, St.set_same, St.up_next, Int.natCast_nonneg, lt_len, le_len, Int.toNat_natCast, true_and, and_true, eq_self, reduceCtorEq, decide_true, List.length_singleton, er_int, er_bool, er_str, srcR, up_zero]
  refine h1 _ _ ?_
  try clear h1 K_h1
  have c1 := mMay_ok (m := m) (σ := t)
  have c2 := mFair_ok (k := k) (σ := t)
  refine T.seq_k (fun K_h1 h1 => ?_)
  refine T.seq_k (fun K_h2 h2 => ?_)
  refine T.regt hm (tbl := []) Tbl.ok_nil ?_
  refine aopsT_cut 2 (fun K_c h_c => ?_)
  try simp only [↓reduceIte, namesOf, List.any, I.names, aopsT, qstep, CPt, Tbl.get, astep, ev, setd, List.set, List.getD, List.getElem?_cons_zero, List.getElem?_cons_succ, List.length_cons, List.length_nil, Option.getD_some, Bool.or_false, Bool.false_eq_true, up_zero, Nat.reduceAdd, ↓opt_def, ldc, List.map_cons, List.map_nil, List.take_succ_cons, up_zero, hb, Nat.zero_add, Nat.zero_add, List.take, List.drop, Nat.reduceLeDiff]
  refine (c1).mono ?_
  rintro _ _ ⟨rfl, rfl⟩
  refine h_c _ _ ?_
  clear h_c K_c
  simp only [List.drop_succ_cons, List.drop_zero, Nat.zero_add]
  refine aopsT_cut 5 (fun K_c h_c => ?_)
  try simp only [↓reduceIte, aopsT, qstep, CPt, Tbl.get, astep, ev, setd, List.set, List.getD, List.getElem?_cons_zero, List.getElem?_cons_succ, List.length_cons, List.length_nil, Option.getD_some, Nat.reduceAdd, ↓opt_def, ldc, List.map_cons, List.map_nil, eq_self, List.take_succ_cons, hk, hbb, Nat.zero_add, Nat.zero_add, List.take, List.drop, Nat.reduceLeDiff]
  refine (c2).mono ?_
  rintro _ _ ⟨rfl, rfl⟩
  refine h_c _ _ ?_
  clear h_c K_c
  simp only [List.drop_succ_cons, List.drop_zero, Nat.reduceAdd]
  rename_i t
  try simp only [↓reduceIte, aopsT, qstep, astep, ev, setd, List.set, List.getD, List.getElem?_cons_zero, List.getElem?_cons_succ, then_normal, Option.getD_some, Bool.false_eq_true, eq_self, hbb]
  refine h2 _ _ ?_
  try clear h2 K_h2
  refine T.cond rfl (fun h => by cases h) (fun _ => T.skip ?_)
  refine h1 _ _ ?_
  try clear h1 K_h1
  -- the meta
  refine T.seq_k (fun K_h1 h1 => ?_)
  have nxt : ∀ ρ', keep [3, 5, 8, 9, 11] 0 ρ' = [.any, .any, .any, .ptr q 0, .any, .bool true, .any, .any, wb, we, .any, .bool (decide (fairM k))] ++ List.replicate 73 .any → K_h1 ρ' t := by
    intro ρ' hρ
    refine h1 _ _ ?_
    try clear h1 K_h1
    refine T.gh (Gh.keep [3, 5, 8, 9, 11]) ?_
    rw [hρ]
    clear hρ ρ'
    refine T.seq_k (fun K_h1 h1 => ?_)
    by_cases hf : fairM k
    · obtain ⟨rfl, rfl⟩ := hk1 hf
      have d1 : decide (fairM k) = true := decide_eq_true hf
      have hseal := rseal_q (l := w8s [k.id, k.at_.toNat, k.by_]) (g := .none) (σ := t) (by rw [w8s_len]; simp)
      have hbare := rBare_ok (σ := t) h1i h2i ⟨hf.2.1, hf.2.2.1⟩
      refine T.seq_k (fun K_h0 h0 => ?_)
      refine T.regi hm ?_
      simp only [↓reduceIte, namesOf, List.any, I.names, aopsI, astep, ev, setd, List.set, List.getD, List.getElem?_cons_zero, List.getElem?_cons_succ, List.cons_append, List.nil_append, List.replicate, then_normal, Option.getD_some, Bool.or_false, Bool.false_eq_true, up_zero, d1, Bool.not_true]
      refine h0 _ _ ?_
      try clear h0 K_h0
      refine T.cond rfl (fun h => by cases h) (fun _ => T.skip ?_)
      refine h1 _ _ ?_
      try clear h1 K_h1
      refine T.seq_k (fun K_h1 h1 => ?_)
      refine T.regt hm (tbl := []) Tbl.ok_nil ?_
      refine aopsT_cut 10 (fun K_c h_c => ?_)
      try simp only [↓reduceIte, namesOf, List.any, I.names, aopsT, qstep, qget, Tbl.get, astep, ev, setd, List.set, List.getD, List.getElem?_cons_zero, List.getElem?_cons_succ, List.length_cons, List.length_nil, Option.getD_some, Bool.or_false, Bool.false_eq_true, up_zero, Nat.reduceAdd, ↓opt_def, ldc, List.map_cons, List.map_nil, eq_self, List.take_succ_cons, toBytes_bytes, hk, Nat.zero_add, Bool.bne_false, eqIv, Nat.zero_add, List.take, List.drop, Nat.reduceLeDiff]
      refine ⟨_, hbare, ?_⟩
      refine h_c _ _ ?_
      clear h_c K_c
      simp only [List.drop_succ_cons, List.drop_zero, Nat.zero_add]
      refine aopsT_cut 1 (fun K_c h_c => ?_)
      try simp only [↓reduceIte, aopsT, qstep, qget, Tbl.get, ev, setd, List.set, List.getD, List.getElem?_cons_zero, List.getElem?_cons_succ, Option.getD_some, List.map_cons, List.map_nil, eq_self, List.take_succ_cons, List.take_zero, ]
      refine ⟨_, hseal, ?_⟩
      refine h_c _ _ ?_
      clear h_c K_c
      simp only [List.drop_succ_cons, List.drop_zero, Nat.reduceAdd]
      have hmk : sealB (w8s [k.id, k.at_.toNat, k.by_]) = markB k := rfl
      try simp only [↓reduceIte, aopsT, qstep, astep, ev, setd, List.set, List.getD, List.getElem?_cons_zero, List.getElem?_cons_succ, then_normal, Option.getD_some, ↓opt_def, eq_self, toBytes_bytes, hmk, sq]
      refine h1 _ _ ?_
      try clear h1 K_h1
      exact T.ret (Fin.quiet rfl trivial (hL.quiet wf) ⟨rfl, rfl⟩)
    · obtain ⟨rfl, rfl⟩ := hk2 hf
      have d1 : decide (fairM k) = false := decide_eq_false hf
      refine T.seq_k (fun K_h0 h0 => ?_)
      refine T.regi hm ?_
      simp only [↓reduceIte, namesOf, List.any, I.names, aopsI, astep, ev, setd, List.set, List.getD, List.getElem?_cons_zero, List.getElem?_cons_succ, List.cons_append, List.nil_append, List.replicate, then_normal, Option.getD_some, Bool.or_false, Bool.false_eq_true, up_zero, d1, Bool.not_false]
      refine h0 _ _ ?_
      try clear h0 K_h0
      refine T.cond rfl (fun _ => ?_) (fun h => by cases h)
      refine T.seq_k (fun K_h0 h0 => ?_)
      refine T.regi hm ?_
      simp only [↓reduceIte, namesOf, List.any, I.names, aopsI, astep, ev, setd, List.set, List.getD, List.getElem?_cons_zero, List.getElem?_cons_succ, List.length_nil, then_normal, Option.getD_some, Bool.or_false, Bool.false_eq_true, up_zero, binv, ↓opt_def, eq_self, ee, z1, Bool.bne_false]
      refine h0 _ _ ?_
      try clear h0 K_h0
      exact T.ret (Fin.quiet rfl trivial (hL.quiet wf) ⟨rfl, rfl⟩)
  by_cases hm0 : mayM m
  · obtain ⟨rfl, rfl⟩ := hp1 hm0
    have d1 : decide (mayM m) = true := decide_eq_true hm0
    have hseal := rseal_q (l := wWs (mtW m)) (g := .none) (σ := t) (by
      have := wWs_le (l := mtW m) (fun p hp => by simp only [mtW, List.mem_cons, List.not_mem_nil, or_false] at hp; rcases hp with rfl | rfl | rfl | rfl | rfl | rfl <;> simp)
      have h6 : (mtW m).length = 6 := rfl
      omega)
    have hplain := rPlain_ok (σ := t) hm0 hid
    refine T.seq_k (fun K_h0 h0 => ?_)
    refine T.regi hm ?_
    simp only [↓reduceIte, namesOf, List.any, I.names, aopsI, astep, ev, setd, List.set, List.getD, List.getElem?_cons_zero, List.getElem?_cons_succ, then_normal, Option.getD_some, Bool.or_false, Bool.false_eq_true, up_zero, d1, Bool.not_true]
    refine h0 _ _ ?_
    try clear h0 K_h0
    refine T.cond rfl (fun h => by cases h) (fun _ => ?_)
    refine T.seq_k (fun K_h2 h2 => ?_)
    refine T.regt hm (tbl := []) Tbl.ok_nil ?_
    refine aopsT_cut 7 (fun K_c h_c => ?_)
    try simp only [↓reduceIte, namesOf, List.any, I.names, aopsT, qstep, qget, Tbl.get, astep, ev, setd, List.set, List.getD, List.getElem?_cons_zero, List.getElem?_cons_succ, List.length_cons, List.length_nil, Option.getD_some, Bool.or_false, Bool.false_eq_true, up_zero, Nat.reduceAdd, ↓opt_def, ldc, List.map_cons, List.map_nil, eq_self, List.take_succ_cons, en, toBytes_bytes, hb, Nat.zero_add, bne_self_eq_false, Nat.zero_add, List.take, List.drop, Nat.reduceLeDiff]
    refine ⟨_, hplain, ?_⟩
    refine h_c _ _ ?_
    clear h_c K_c
    simp only [List.drop_succ_cons, List.drop_zero, Nat.zero_add]
    refine aopsT_cut 1 (fun K_c h_c => ?_)
    try simp only [↓reduceIte, aopsT, qstep, qget, Tbl.get, ev, setd, List.set, List.getD, List.getElem?_cons_zero, List.getElem?_cons_succ, Option.getD_some, List.map_cons, List.map_nil, eq_self, List.take_succ_cons, List.take_zero, ]
    refine ⟨_, hseal, ?_⟩
    refine h_c _ _ ?_
    clear h_c K_c
    simp only [List.drop_succ_cons, List.drop_zero, Nat.reduceAdd]
    have hmk : sealB (wWs (mtW m)) = metaB m := rfl
    try simp only [↓reduceIte, aopsT, qstep, astep, ev, setd, List.set, List.getD, List.getElem?_cons_zero, List.getElem?_cons_succ, then_normal, Option.getD_some, Bool.false_eq_true, ↓opt_def, eq_self, toBytes_bytes, hmk, sn]
    refine h2 _ _ ?_
    try clear h2 K_h2
    refine T.cond rfl (fun h => by cases h) (fun _ => T.skip ?_)
    exact nxt _ rfl
  · obtain ⟨rfl, rfl⟩ := hp2 hm0
    have d1 : decide (mayM m) = false := decide_eq_false hm0
    refine T.seq_k (fun K_h0 h0 => ?_)
    refine T.regi hm ?_
    simp only [↓reduceIte, namesOf, List.any, I.names, aopsI, astep, ev, setd, List.set, List.getD, List.getElem?_cons_zero, List.getElem?_cons_succ, then_normal, Option.getD_some, Bool.or_false, Bool.false_eq_true, up_zero, d1, Bool.not_false]
    refine h0 _ _ ?_
    try clear h0 K_h0
    refine T.cond rfl (fun _ => ?_) (fun h => by cases h)
    refine T.seq_k (fun K_h0 h0 => ?_)
    refine T.regi hm ?_
    simp only [↓reduceIte, namesOf, List.any, I.names, aopsI, astep, ev, setd, List.set, List.getD, List.getElem?_cons_zero, List.getElem?_cons_succ, List.length_nil, then_normal, Option.getD_some, Bool.or_false, Bool.false_eq_true, up_zero, binv, ↓opt_def, eq_self, ee, z0, bne_self_eq_false]
    refine h0 _ _ ?_
    try clear h0 K_h0
    refine T.cond rfl (fun h => by cases h) (fun _ => T.skip ?_)
    exact nxt _ rfl

end Go.VL

namespace Go.VL

open Go.Proofs

set_option maxRecDepth 100000 in
theorem meta_ftsT : fts Tryd.prog t_meta = some [t_u64, t_int, t_i64, t_i64, t_int, t_int] := by kernel_rfl

theorem u64_tyT : Tryd.prog.underlying t_u64 = some (.int .u64) := by kernel_rfl

theorem i64_tyT : Tryd.prog.underlying t_i64 = some (.int .i64) := by kernel_rfl

theorem int_tyT : Tryd.prog.underlying t_int = some (.int .i64) := by kernel_rfl

theorem meta_ofT {n : Nat} {y : AV} (h : HasE Tryd.prog (n + 2) t_meta y) : ∃ m : Mt, y = .agg (mtC m) ∧ m.id < 18446744073709551616 ∧ (-9223372036854775808 ≤ m.en ∧ m.en ≤ 9223372036854775807) := by
  obtain ⟨zs, hy, hf⟩ := has_fields meta_ftsT h
  clear h
  subst hy
  have h := hf
  clear hf
  obtain ⟨y1, z1, rfl, k1, h⟩ := h
  obtain ⟨y2, z2, rfl, k2, h⟩ := h
  obtain ⟨y3, z3, rfl, k3, h⟩ := h
  obtain ⟨y4, z4, rfl, k4, h⟩ := h
  obtain ⟨y5, z5, rfl, k5, h⟩ := h
  obtain ⟨y6, z6, rfl, k6, h⟩ := h
  have hz : z6 = [] := h
  subst hz
  obtain ⟨m1, rfl, a1, b1⟩ := hasT_int u64_tyT k1
  obtain ⟨m2, rfl, a2, b2⟩ := hasT_int int_tyT k2
  obtain ⟨m3, rfl, a3, b3⟩ := hasT_int i64_tyT k3
  obtain ⟨m4, rfl, a4, b4⟩ := hasT_int i64_tyT k4
  obtain ⟨m5, rfl, a5, b5⟩ := hasT_int int_tyT k5
  obtain ⟨m6, rfl, a6, b6⟩ := hasT_int int_tyT k6
  obtain ⟨n1, rfl, c1⟩ := u64_nat a1 b1
  exact ⟨⟨n1, m2, m3, m4, m5, m6⟩, rfl, c1, a4, b4⟩

end Go.VL

namespace Go.VL

open Go.Proofs

/-- a type -/
abbrev t_mark : Nat := 56

end Go.VL

namespace Go.VL

open Go.Proofs

set_option maxRecDepth 100000 in
theorem mark_ftsT : fts Tryd.prog t_mark = some [t_u64, t_i64, t_u64] := by kernel_rfl

theorem mark_ofT {n : Nat} {y : AV} (h : HasE Tryd.prog (n + 2) t_mark y) : ∃ k : Mk, y = .agg (mkC k) ∧ k.id < 18446744073709551616 ∧ k.by_ < 18446744073709551616 := by
  obtain ⟨zs, hy, hf⟩ := has_fields mark_ftsT h
  clear h
  subst hy
  have h := hf
  clear hf
  obtain ⟨y1, z1, rfl, k1, h⟩ := h
  obtain ⟨y2, z2, rfl, k2, h⟩ := h
  obtain ⟨y3, z3, rfl, k3, h⟩ := h
  have hz : z3 = [] := h
  subst hz
  obtain ⟨m1, rfl, a1, b1⟩ := hasT_int u64_tyT k1
  obtain ⟨m2, rfl, a2, b2⟩ := hasT_int i64_tyT k2
  obtain ⟨m3, rfl, a3, b3⟩ := hasT_int u64_tyT k3
  obtain ⟨n1, rfl, c1⟩ := u64_nat a1 b1
  obtain ⟨n3, rfl, c3⟩ := u64_nat a3 b3
  exact ⟨⟨n1, m2, n3⟩, rfl, c1, c3⟩

end Go.VL

namespace Go.Proofs.YtnifkggcldalbaaDoor

open Go.ChangeShapes Go.WideShapes Go.ChangeAt Go.RowKit Go.VL

set_option maxRecDepth 100000 in
theorem metaPuts_lifted (os : Os) (started : os.Started) (H : Type) (enc : TypeId × Value → H) :
    ReturnsInHanded {} Tryd.checked os n_metaPuts .any (fun w args => (Rows.metaPutsSpec.pre enc Tryd.prog Tryd.f5 [] false w args ∧ laidMetH Tryd.prog laidU w) ∧ sizedMet enc Tryd.prog Tryd.f5 (OpenSpec.ofChange Rows.metaPutsSpec) false w args)
      (Rows.metaPutsSpec.post enc Tryd.prog Tryd.f5 false true false false) := by
  refine returnsInHanded_of_change_and (C := Tryd.checked) (X := fun w _ => laidMetH Tryd.prog laidU w) (fun _ _ _ hh h => h.of_heap hh) own started (by kernel_rfl) Tryd.func5
    (ChangeSpec.witness_at (enc := enc) (C := Tryd.checked) (os := os) (X := fun w _ => laidMetH Tryd.prog laidU w) false (laidWorldU os) #[.agg #[.int .u64 0, .int .i64 0, .int .i64 0, .int .i64 0, .int .i64 0, .int .i64 0], .agg #[.int .u64 0, .int .i64 0, .int .u64 0]] 8 rfl (by kernel_rfl) (by kernel_rfl) (by kernel_rfl) (by kernel_rfl) (by kernel_rfl) (laidWorldU_met os _)) ?_
  intro W base args ds gs before hval0 hW _ _ hL _
  refine law_calls_tabsU 3 (tb := 4) laidOut (by kernel_rfl) rfl (by kernel_rfl) (by kernel_rfl) (fun ds hds => ?_) (fun xs hxs σ hG => ?_) hval0 hW (tabsU_of_laid hL)
  · match ds, hds with
    | [_d1, _d2], _ => rfl
  · have hxs' : HasAll Tryd.prog 3 [_, _] xs := hxs
    cases hxs' with
    | cons h1 r1 =>
    cases r1 with
    | cons h2 r2 =>
    cases r2
    obtain ⟨m, rfl, hm1, _⟩ := meta_ofT (n := 1) h1
    obtain ⟨k, rfl, hk1, hk2⟩ := mark_ofT (n := 1) h2
    exact (metaPuts_ok hG.1 hG.2 hm1 hk1 hk2).mono fun v _ ⟨e, _⟩ => e

theorem metaPuts_holds : Rows.MetaPutsSaid :=
  OpenClaim.holds_of_wide n_metaPuts Tryd.f5 rfl rfl rfl rfl rfl rfl rfl ⟨rfl, rfl, rfl, rfl, rfl⟩ rfl rfl rfl rfl rfl (by kernel_rfl) Tryd.func5 (by kernel_rfl)
    (of_decide_eq_true (by kernel_rfl)) (by unfold Func.isWrapper; first | (rw [if_pos (by decide +kernel)]; kernel_rfl) | (rw [if_neg (by decide +kernel)]; exact ⟨rfl, rfl⟩))
    (fun os started H enc _ => metaPuts_lifted os started H enc)

theorem metaPuts_card : Rows.MetaPutsCardSaid :=
  Claim7.holds_tied_plain_at .later [] [.data, .data, .data, .data, .sentinel, .sentinel, .pinned] true Rows.metaPutsCard.stood.harness true
    metaPuts_holds (fun _ h => by cases h) (by kernel_rfl) (fun _ h => by cases h) metaPuts_row_tie rfl ⟨rfl, rfl⟩ (by kernel_rfl) rfl
    (fun f fn hf hfn => by
      obtain rfl : f = 5 := Option.some.inj ((show Tryd.prog.funcNamed Rows.metaPutsRow.func = some 5 by kernel_rfl).symm.trans hf) |>.symm
      obtain rfl : fn = Tryd.f5 := (Option.some.inj (Tryd.func5.symm.trans hfn)).symm
      refine ⟨by kernel_rfl, fun j t ht => ?_⟩
      have hm : t ∈ Tryd.f5.params.toList := by simpa using Array.mem_of_getElem? ht
      have hall : (Tryd.f5.params.toList.all fun u => !Tryd.prog.wantsStandIn u) = true := by kernel_rfl
      exact (show Tryd.prog.wantsStandIn t = false by simpa using List.all_eq_true.1 hall t hm))
    (by kernel_rfl)

end Go.Proofs.YtnifkggcldalbaaDoor
