/- The card of MetaBack. -/
import Derived.Test.YtnifkggcldalbaaDoorKMetaBackCard5

set_option linter.unusedSimpArgs false
set_option linter.unusedVariables false

namespace Go.VL

open Go.Proofs

set_option maxRecDepth 10000 in
set_option maxHeartbeats 4000000 in
theorem metaBack_ok {m : Mt} {pos page : Int} {d : UInt8} {a b : Nat} {σ : St} (hT : Tabs σ) (hE : Errs σ) (hno : NoReal σ) (hid : m.id < 18446744073709551616) (ha : a < 18446744073709551616) (hb0 : b < 18446744073709551616)
    (hpg : -9223372036854775808 ≤ page ∧ page ≤ 9223372036854775807) :
    ACalls Tryd.prog n_metaBack [.agg (mtC m), .int .i64 pos, .int .u8 (d.toNat : Int), .int .u64 (a : Int), .int .u64 (b : Int), .int .i64 page] σ (fun v _ => v = .bool true) := by
  refine s_metaBack (fun wf => ?_)
  unfold c_metaBack
  have en : eqIv true [(tCode, .i64)] .nili .nili = some true := rfl
  have en1 : eqIv true [(tCode, .i64)] (.iface tCode (.int .i64 1)) .nili = some false := rfl
  refine T.seq_k (fun K_h0 h0 => ?_)
  refine T.regi hm ?_
  simp only [↓reduceIte, namesOf, List.any, I.names, aopsI, astep, ev, setd, List.set, List.getD, List.getElem?_cons_zero, List.cons_append, List.nil_append, List.length_cons, List.length_nil, List.replicate, then_normal, Option.getD_some, Bool.or_false, Bool.false_eq_true, Nat.reduceAdd, Nat.reduceSub, AV.isAny, AV.cells, eq_self]
  refine h0 _ _ ?_
  try clear h0 K_h0
  have hbx : ((σ.up 2).set (σ.next + 0) (.obj (mtC m))).res (σ.next + 0) = some (.obj (mtC m)) := St.set_same _ _ _
  have hdr : ∀ n r, (⟨((σ.up 2).set (σ.next + 0) (.obj (mtC m))).next, σ.res⟩ : St).res n = some r → (((σ.up 2).set (σ.next + 0) (.obj (mtC m))).del (σ.next + 0)).res n = some r := fun n r hr => by
    have hlt := wf.lt (show σ.res n = some r from hr)
    show (if n = σ.next + 0 then none else (if n = σ.next + 0 then _ else σ.res n)) = some r
    rw [if_neg (by omega), if_neg (by omega)]; exact hr
  refine T.gh (Gh.trans (Gh.box (t := 6) (off := 0) rfl hbx) (Gh.drop (σ' := ⟨((σ.up 2).set (σ.next + 0) (.obj (mtC m))).next, σ.res⟩) rfl hdr)) ?_
  have hbx2 : (mtC m).drop 0 = mtC m := rfl
  show T _ _ _ _ ([.agg (mtC m), .int .i64 pos, .int .u8 (d.toNat : Int), .int .u64 (a : Int), .int .u64 (b : Int), .int .i64 page, .eptr (mtC m), .tup [], .tup [], .tup [], .tup [], .tup [], .bool false] ++ List.replicate 115 (.tup [])) _
  have hTt : Tabs (⟨((σ.up 2).set (σ.next + 0) (.obj (mtC m))).next, σ.res⟩ : St) := hT.mono (fun _ _ h => h)
  have hEt : Errs (⟨((σ.up 2).set (σ.next + 0) (.obj (mtC m))).next, σ.res⟩ : St) := hE.mono (fun _ _ h => h)
  have hnt : NoReal (⟨((σ.up 2).set (σ.next + 0) (.obj (mtC m))).next, σ.res⟩ : St) := hno
  have hst : ∀ n r, σ.res n = some r → (⟨((σ.up 2).set (σ.next + 0) (.obj (mtC m))).next, σ.res⟩ : St).res n = some r := fun _ _ h => h
  have hss : ∀ n, σ.next ≤ n → (⟨((σ.up 2).set (σ.next + 0) (.obj (mtC m))).next, σ.res⟩ : St).res n = none := fun n hn => wf n hn
  have hlt0 : σ.next ≤ (⟨((σ.up 2).set (σ.next + 0) (.obj (mtC m))).next, σ.res⟩ : St).next := by simp
  generalize (⟨((σ.up 2).set (σ.next + 0) (.obj (mtC m))).next, σ.res⟩ : St) = t at hTt hEt hnt hst hss hlt0 ⊢
  clear hbx hdr
  refine T.seq_k (fun K_h1 h1 => ?_)
  refine T.regi hm ?_
  simp only [↓reduceIte, namesOf, List.any, I.names, aopsI, astep, ev, setd, List.set, List.getD, List.getElem?_cons_zero, List.getElem?_cons_succ, List.cons_append, List.nil_append, List.replicate, then_normal, Option.getD_some, Bool.or_false, Bool.false_eq_true, up_zero, List.map_nil]
  refine (up13_ok hTt hEt).mono ?_
  rintro v t ⟨rfl, rfl⟩
  try simp only [↓reduceIte, namesOf, List.any, I.names, aops, aopsI, aopsT, qstep, CPt, qget, Tbl.get, astep, ev, setd, List.set, List.getD, List.getElem?_cons_zero, List.getElem?_cons_succ, List.getElem?_nil, List.cons_append, List.nil_append, List.length_cons, List.length_nil, List.replicate, then_normal, inBlock_normal, Option.getD_some, Option.getD_none, Bool.or_false, Bool.or_true, Bool.true_or, Bool.false_or, Bool.false_eq_true, if_false, if_true, up_zero, Nat.reduceAdd, Nat.reduceSub, binv, ↓opt_def, AV.isAny, AV.cells, ldc, List.map_cons, List.map_nil, St.set_next, St.set_same, St.up_next, Int.natCast_nonneg, lt_len, le_len, Int.toNat_natCast, true_and, and_true, eq_self, reduceCtorEq, decide_true, List.length_singleton, er_int, er_bool, er_str, srcR, up_zero]
  refine h1 _ _ ?_
  try clear h1 K_h1
  have wp1 := nmp_mod a page
  have hm1000 : page.toNat % 1000 < 1000 := Nat.mod_lt _ (by omega)
  have hV : V3 a [112] ((page.toNat % 1000 : Nat) : Int) := ⟨ha, .inl ⟨rfl, by omega, by omega⟩⟩
  have hnl : (nmF a [112] page).length ≤ 1000000 := by rw [nmp_len (.inl rfl)]; decide
  have hput : ACalls Tryd.prog n_mPut [.agg (mtC m)] t (fun v u => ∃ vb ve, v = .tup [vb, ve] ∧ (∀ n r, σ.res n = some r → u.res n = some r) ∧
      ((mayM m ∧ ve = .nili ∧ ∃ g o, vb = .ref g o (metaB m).length ∧ σ.next ≤ g ∧ g < u.next ∧ u.res g = some (.obj (List.replicate o .any ++ bytesAV (metaB m)))) ∨ (¬ mayM m ∧ vb = .sl [] .nil ∧ ve = .iface tCode (.int .i64 1)))) := by
    by_cases hm0 : mayM m
    · refine (ACalls.thawN hnt (flat_bytes _) (mPutT_ok hm0 hid)).mono ?_
      rintro v u ⟨g, o, rfl, h1, h2, h3⟩
      have hgl : σ.next ≤ g := by omega
      rw [bytesAV_len, bytes_flat] at *
      exact ⟨_, _, rfl, fun n r hr => by rw [h3, St.set_other _ _ (by have := wf.lt hr; omega)]; exact hst n r hr, .inl ⟨hm0, rfl, g, o, rfl, hgl, h2, by rw [h3]; exact St.set_same _ _ _⟩⟩
    · refine (mPut_no hm0).mono ?_
      rintro v u ⟨rfl, rfl⟩
      exact ⟨_, _, rfl, hst, .inr ⟨hm0, rfl, rfl⟩⟩
  refine T.seq_k (fun K_h1 h1 => ?_)
  refine T.regi hm ?_
  simp only [↓reduceIte, namesOf, List.any, I.names, aopsI, astep, ev, setd, List.set, List.getD, List.getElem?_cons_zero, List.getElem?_cons_succ, List.length_cons, List.length_nil, then_normal, Option.getD_some, Bool.or_false, Bool.false_eq_true, up_zero, Nat.reduceAdd, ↓opt_def, ldc, List.map_cons, List.map_nil, Nat.zero_add, List.take, List.drop, Nat.reduceLeDiff]
  refine hput.mono ?_
  rintro v u ⟨vb, ve, rfl, hu, hc⟩
  try simp only [List.getElem?_cons_zero, List.getElem?_cons_succ]
  refine h1 _ _ ?_
  try clear h1 K_h1
  clear hput hst hss hTt hEt hnt
  refine T.seq_k (fun K_h1 h1 => ?_)
  -- the names
  have part2 : ∀ (ρ' : List AV) (u : St), (∀ n r, σ.res n = some r → u.res n = some r) → keep [3, 4, 5, 13] 0 ρ' = [.any, .any, .any, .int .u64 (a : Int), .int .u64 (b : Int), .int .i64 page, .any, .any, .any, .any, .any, .any, .any, .bool true] ++ List.replicate 114 .any → K_h1 ρ' u := by
    intro ρ' u hu hρ
    refine h1 _ _ ?_
    try clear h1 K_h1
    refine T.gh (Gh.keep [3, 4, 5, 13]) ?_
    rw [hρ]
    clear hρ ρ' hc
    have hTu := hT.mono hu
    have hEu := hE.mono hu
    refine T.seq_k (fun K_h1 h1 => ?_)
    refine T.regi hm ?_
    simp only [↓reduceIte, namesOf, List.any, I.names, aopsI, astep, ev, setd, List.set, List.getD, List.getElem?_cons_zero, List.getElem?_cons_succ, List.cons_append, List.nil_append, List.replicate, then_normal, Option.getD_some, Bool.or_false, Bool.false_eq_true, up_zero, ↓opt_def, List.map_cons, List.map_nil]
    refine (mName_ok (what := [112]) hTu ha hpg (by simp)).mono ?_
    rintro v u ⟨rfl, rfl⟩
    try simp only [↓reduceIte, namesOf, List.any, I.names, aops, aopsI, aopsT, qstep, CPt, qget, Tbl.get, astep, ev, setd, List.set, List.getD, List.getElem?_cons_zero, List.getElem?_cons_succ, List.getElem?_nil, List.cons_append, List.nil_append, List.length_cons, List.length_nil, List.replicate, then_normal, inBlock_normal, Option.getD_some, Option.getD_none, Bool.or_false, Bool.or_true, Bool.true_or, Bool.false_or, Bool.false_eq_true, if_false, if_true, up_zero, Nat.reduceAdd, Nat.reduceSub, binv, ↓opt_def, AV.isAny, AV.cells, ldc, List.map_cons, List.map_nil, St.set_next, St.set_same, St.up_next, Int.natCast_nonneg, lt_len, le_len, Int.toNat_natCast, true_and, and_true, eq_self, reduceCtorEq, decide_true, List.length_singleton, er_int, er_bool, er_str, srcR, up_zero]
    refine (mParse_ok hTu hEu hnl).mono ?_
    rintro v u ⟨rfl, hv⟩
    obtain rfl := hv.uniq (.inl ⟨a, [112], _, hV, wp1, rfl⟩)
    try simp only [List.getElem?_cons_zero, List.getElem?_cons_succ]
    refine h1 _ _ ?_
    try clear h1 K_h1
    refine T.seq_k (fun K_h1 h1 => ?_)
    have part3 : ∀ ρ', keep [3, 4, 13] 0 ρ' = [.any, .any, .any, .int .u64 (a : Int), .int .u64 (b : Int), .any, .any, .any, .any, .any, .any, .any, .any, .bool true] ++ List.replicate 114 .any → K_h1 ρ' u := by
      intro ρ' hρ
      refine h1 _ _ ?_
      try clear h1 K_h1
      refine T.gh (Gh.keep [3, 4, 13]) ?_
      rw [hρ]
      have n1 := mName_ok (id := a) (what := [109]) (page := 0) hTu ha (by omega) (by simp)
      have n2 := mName_ok (id := b) (what := [109]) (page := 0) hTu hb0 (by omega) (by simp)
      have n3 := mName_ok (id := b) (what := [120]) (page := 0) hTu hb0 (by omega) (by simp)
      have n4 := mName_ok (id := a) (what := [113]) (page := 0) hTu ha (by omega) (by simp)
      have s2 : sbinv .eql ⟨(nmF a [109] 0).toArray⟩ ⟨(nmF b [109] 0).toArray⟩ = some (.bool (decide (a = b))) := by
        simp only [sbinv, ba_eq]
        exact congrArg some (congrArg AV.bool (decide_eq_decide.2 (nmM_inj ha hb0)))
      have e2 : ((a : Int) == (b : Int)) = decide (a = b) := by by_cases h : a = b <;> simp [h]; omega
      have bb : ((decide (a = b) == decide (a = b)) != false) = true := by cases decide (a = b) <;> rfl
      have s3 : sbinv .neq ⟨(nmF a [109] 0).toArray⟩ ⟨(nmF b [120] 0).toArray⟩ = some (.bool true) := by
        simp only [sbinv, ba_eq, decide_eq_false (nmMX_ne ha hb0)]; rfl
      have s4 : sbinv .eql ⟨(nmF a [113] 0).toArray⟩ ⟨#[]⟩ = some (.bool true) := by
        have : nmF a [113] 0 = [] := rfl
        rw [this]; simp [sbinv]
      have hu' := hu
      generalize (nmF a [109] 0).toArray = A1 at n1 s2 s3
      generalize (nmF b [109] 0).toArray = A2 at n2 s2
      generalize (nmF b [120] 0).toArray = A3 at n3 s3
      generalize (nmF a [113] 0).toArray = A4 at n4 s4
      refine T.seq_k (fun K_h1 h1 => ?_)
      refine T.regt hm (tbl := []) Tbl.ok_nil ?_
      refine aopsT_cut 4 (fun K_c h_c => ?_)
      try simp only [↓reduceIte, namesOf, List.any, I.names, aopsT, qstep, CPt, Tbl.get, astep, ev, setd, List.set, List.getD, List.getElem?_cons_zero, List.getElem?_cons_succ, List.cons_append, List.nil_append, List.replicate, Option.getD_some, Bool.or_false, Bool.false_eq_true, up_zero, List.map_cons, List.map_nil, eq_self, List.take_succ_cons, List.take_zero, up_zero]
      refine (n1).mono ?_
      rintro _ _ ⟨rfl, rfl⟩
      refine h_c _ _ ?_
      clear h_c K_c
      simp only [List.drop_succ_cons, List.drop_zero, Nat.zero_add]
      refine aopsT_cut 2 (fun K_c h_c => ?_)
      try simp only [↓reduceIte, aopsT, qstep, CPt, Tbl.get, astep, ev, setd, List.set, List.getD, List.getElem?_cons_zero, List.getElem?_cons_succ, Option.getD_some, List.map_cons, List.map_nil, eq_self, List.take_succ_cons, List.take_zero]
      refine (n2).mono ?_
      rintro _ _ ⟨rfl, rfl⟩
      refine h_c _ _ ?_
      clear h_c K_c
      simp only [List.drop_succ_cons, List.drop_zero, Nat.reduceAdd]
      refine aopsT_cut 9 (fun K_c h_c => ?_)
      try simp only [↓reduceIte, aopsT, qstep, CPt, Tbl.get, astep, ev, setd, List.set, List.getD, List.getElem?_cons_zero, List.getElem?_cons_succ, Option.getD_some, binv, ↓opt_def, List.map_cons, List.map_nil, eq_self, List.take_succ_cons, List.take_zero, s2, e2, bb]
      refine (n1).mono ?_
      rintro _ _ ⟨rfl, rfl⟩
      refine h_c _ _ ?_
      clear h_c K_c
      simp only [List.drop_succ_cons, List.drop_zero, Nat.reduceAdd]
      refine aopsT_cut 2 (fun K_c h_c => ?_)
      try simp only [↓reduceIte, aopsT, qstep, CPt, Tbl.get, astep, ev, setd, List.set, List.getD, List.getElem?_cons_zero, List.getElem?_cons_succ, Option.getD_some, List.map_cons, List.map_nil, eq_self, List.take_succ_cons, List.take_zero]
      refine (n3).mono ?_
      rintro _ _ ⟨rfl, rfl⟩
      refine h_c _ _ ?_
      clear h_c K_c
      simp only [List.drop_succ_cons, List.drop_zero, Nat.reduceAdd]
      refine aopsT_cut 5 (fun K_c h_c => ?_)
      try simp only [↓reduceIte, aopsT, qstep, CPt, Tbl.get, astep, ev, setd, List.set, List.getD, List.getElem?_cons_zero, List.getElem?_cons_succ, Option.getD_some, ↓opt_def, List.map_cons, List.map_nil, eq_self, List.take_succ_cons, List.take_zero, s3]
      refine (n4).mono ?_
      rintro _ _ ⟨rfl, rfl⟩
      refine h_c _ _ ?_
      clear h_c K_c
      simp only [List.drop_succ_cons, List.drop_zero, Nat.reduceAdd]
      try simp only [↓reduceIte, aopsT, qstep, astep, ev, setd, List.set, List.getD, List.getElem?_cons_zero, List.getElem?_cons_succ, then_normal, Option.getD_some, ↓opt_def, eq_self, s4]
      refine h1 _ _ ?_
      try clear h1 K_h1
      exact T.ret (Fin.quiet rfl trivial hu' rfl)
    have e1 : ((a : Int) != (a : Int)) = false := by simp
    have s1 : sbinv .neq ⟨[112].toArray⟩ ⟨#[112]⟩ = some (.bool false) := by simp [sbinv]
    by_cases h0 : page ≥ 0
    · have f1 : decide (page ≥ 0) = true := decide_eq_true h0
      by_cases h1k : page < 1000
      · have f2 : decide (page < 1000) = true := decide_eq_true h1k
        have f3 : (((page.toNat % 1000 : Nat) : Int) != page) = false := by
          have : ((page.toNat % 1000 : Nat) : Int) = page := by omega
          rw [this]; simp
        refine T.seq_k (fun K_h0 h0 => ?_)
        refine T.regi hm ?_
        simp only [↓reduceIte, namesOf, List.any, I.names, aopsI, astep, ev, setd, List.set, List.getD, List.getElem?_cons_zero, List.getElem?_cons_succ, then_normal, Option.getD_some, Bool.or_false, Bool.false_eq_true, up_zero, binv, ↓opt_def, eq_self, e1, s1, f1, f2, f3, Bool.not_true]
        refine h0 _ _ ?_
        try clear h0 K_h0
        refine T.cond rfl (fun h => by cases h) (fun _ => T.skip ?_)
        exact part3 _ rfl
      · have f2 : decide (page < 1000) = false := decide_eq_false h1k
        refine T.seq_k (fun K_h0 h0 => ?_)
        refine T.regi hm ?_
        simp only [↓reduceIte, namesOf, List.any, I.names, aopsI, astep, ev, setd, List.set, List.getD, List.getElem?_cons_zero, List.getElem?_cons_succ, then_normal, Option.getD_some, Bool.or_false, Bool.false_eq_true, up_zero, binv, ↓opt_def, eq_self, e1, s1, f1, f2, Bool.not_true]
        refine h0 _ _ ?_
        try clear h0 K_h0
        refine T.cond rfl (fun h => by cases h) (fun _ => T.skip ?_)
        exact part3 _ rfl
    · have f1 : decide (page ≥ 0) = false := decide_eq_false h0
      refine T.seq_k (fun K_h0 h0 => ?_)
      refine T.regi hm ?_
      simp only [↓reduceIte, namesOf, List.any, I.names, aopsI, astep, ev, setd, List.set, List.getD, List.getElem?_cons_zero, List.getElem?_cons_succ, then_normal, Option.getD_some, Bool.or_false, Bool.false_eq_true, up_zero, binv, ↓opt_def, eq_self, e1, s1, f1, Bool.not_true]
      refine h0 _ _ ?_
      try clear h0 K_h0
      refine T.cond rfl (fun h => by cases h) (fun _ => T.skip ?_)
      exact part3 _ rfl
  rcases hc with ⟨hm0, rfl, g, o, rfl, hg1, hg2, hres⟩ | ⟨hm0, rfl, rfl⟩
  case inr =>
    refine T.seq_k (fun K_h0 h0 => ?_)
    refine T.regi hm ?_
    simp only [↓reduceIte, namesOf, List.any, I.names, aopsI, astep, ev, setd, List.set, List.getD, List.getElem?_cons_zero, List.getElem?_cons_succ, then_normal, Option.getD_some, Bool.or_false, Bool.false_eq_true, up_zero, en1, bne_self_eq_false]
    refine h0 _ _ ?_
    try clear h0 K_h0
    refine T.cond rfl (fun h => by cases h) (fun _ => T.skip ?_)
    exact part2 _ _ hu rfl
  have hback := metaG_back hm0 hid
  have hcut := fun (i : Nat) (c : UInt8) (h1 : i < (metaB m).length) h2 => metaG_cut (m := m) (i := i) (c := c) h1 h2
  have hlen := metaB_len m
  generalize metaB m = B at hback hcut hlen hres ⊢
  refine T.seq_k (fun K_h0 h0 => ?_)
  refine T.regi hm ?_
  simp only [↓reduceIte, namesOf, List.any, I.names, aopsI, astep, ev, setd, List.set, List.getD, List.getElem?_cons_zero, List.getElem?_cons_succ, then_normal, Option.getD_some, Bool.or_false, Bool.false_eq_true, up_zero, en, Bool.bne_false]
  refine h0 _ _ ?_
  try clear h0 K_h0
  refine T.cond rfl (fun _ => ?_) (fun h => by cases h)
  -- the bytes are lent
  have hlend : ∀ n r, (⟨u.next, σ.res⟩ : St).res n = some r → (u.del g).res n = some r := fun n r hr => by
    have hlt := wf.lt (show σ.res n = some r from hr)
    show (if n = g then none else u.res n) = some r
    rw [if_neg (by omega)]; exact hu n r hr
  refine TL.start (Gh.trans (Gh.freeze (t := 14) (k := 1) rfl hres (bytesAV_len B) (fun x hx => by obtain ⟨c, _, rfl⟩ := List.mem_map.1 hx; rfl) (by rw [bytes_flat, List.drop_left' (List.length_replicate ..), Nat.mul_one, List.take_of_length_le (by rw [bytesAV_len]; exact Nat.le_refl _)]) (by simp)) (Gh.drop (σ' := ⟨u.next, σ.res⟩) rfl hlend)) ?_
  refine TL.seqN_k hno (fun K1 k1 => ?_)
  simp only [List.set]
  have e0 : errAV 0 = .nili := rfl
  refine T.regi hm ?_
  simp only [↓reduceIte, namesOf, List.any, I.names, aopsI, astep, ev, setd, List.set, List.getD, List.getElem?_cons_zero, List.getElem?_cons_succ, List.length_cons, List.length_nil, then_normal, Option.getD_some, Bool.or_false, Bool.or_true, Nat.reduceAdd, ↓opt_def, AV.cells, List.map_cons, List.map_nil, St.set_same, eq_self]
  refine (mGet_ok (x := B) (by omega)).mono ?_
  rintro v τ ⟨rfl, rfl⟩
  rw [hback]
  try simp only [↓reduceIte, List.getElem?_cons_zero, List.getElem?_cons_succ, List.cons_append, List.nil_append, List.length_cons, List.length_nil, Nat.reduceAdd, AV.isAny, AV.cells, eq_self, decide_true, e0, AV.fits, AV.one, List.all_cons, List.all_nil, Nat.reduceBEq, Bool.not_false, Bool.and_self, Nat.zero_add, splice, List.take, List.drop, Nat.reduceLeDiff, St.set_set]
  have hb16 : (((⟨u.next, σ.res⟩ : St).up 8).set (u.next + 5) (.obj (mtC m))).res (u.next + 5) = some (.obj (mtC m)) := St.set_same _ _ _
  have hul : σ.next ≤ u.next := by omega
  have hdr16 : ∀ n r, (⟨u.next + 8, σ.res⟩ : St).res n = some r → ((((⟨u.next, σ.res⟩ : St).up 8).set (u.next + 5) (.obj (mtC m))).del (u.next + 5)).res n = some r := fun n r hr => by
    have hlt := wf.lt (show σ.res n = some r from hr)
    show (if n = u.next + 5 then none else (if n = u.next + 5 then _ else σ.res n)) = some r
    rw [if_neg (by omega), if_neg (by omega)]; exact hr
  refine k1 _ _ ?_
  clear k1 K1
  refine TL.gh (Gh.trans (Gh.box (t := 16) (off := 0) rfl hb16) (Gh.drop (σ' := ⟨u.next + 8, σ.res⟩) rfl hdr16)) ?_
  refine TL.seqN_k hno (fun K2 k2 => ?_)
  have hbx3 : (AV.eptr ((mtC m).drop 0)) = .eptr (mtC m) := rfl
  rw [hbx3]
  simp only [List.set]
  refine T.seq_k (fun K_h3 h3 => ?_)
  refine T.regi hm ?_
  simp only [↓reduceIte, namesOf, List.any, I.names, aopsI, astep, ev, setd, List.set, List.getD, List.getElem?_cons_zero, List.getElem?_cons_succ, List.length_cons, List.length_nil, then_normal, Option.getD_some, Bool.or_false, Bool.false_eq_true, up_zero, Nat.reduceAdd, ↓opt_def, ldc, and_true, eq_self, en, bne_self_eq_false, ints, eqAv, beq_self_eq_true, ↓Option.map_some, Bool.and_self, Bool.and_self, Nat.zero_add, List.take, List.drop, Nat.reduceLeDiff]
  refine h3 _ _ ?_
  try clear h3 K_h3
  refine T.cond rfl (fun h => by cases h) (fun _ => T.skip ?_)
  refine k2 _ _ ?_
  clear k2 K2
  -- they come back
  refine TL.thaw ?_
  refine T.gh (Gh.keep [1, 2, 3, 4, 5, 13, 14]) ?_
  show T _ _ _ _ ([.any, .int .i64 pos, .int .u8 (d.toNat : Int), .int .u64 (a : Int), .int .u64 (b : Int), .int .i64 page, .any, .any, .any, .any, .any, .any, .any, .bool true, .ref g o B.length] ++ List.replicate 113 .any) u
  refine T.seq_k (fun K_h3 h3 => ?_)
  by_cases hp0 : 0 ≤ pos
  case neg =>
    have e1 : decide (pos ≥ 0) = false := decide_eq_false hp0
    refine T.regi hm ?_
    simp only [↓reduceIte, namesOf, List.any, I.names, aopsI, astep, ev, setd, List.set, List.getD, List.getElem?_cons_zero, List.getElem?_cons_succ, List.cons_append, List.nil_append, List.replicate, then_normal, Option.getD_some, Bool.or_false, Bool.false_eq_true, up_zero, binv, ↓opt_def, eq_self, e1]
    refine h3 _ _ ?_
    try clear h3 K_h3
    refine T.cond rfl (fun h => by cases h) (fun _ => T.skip ?_)
    exact part2 _ _ hu rfl
  have e1 : decide (pos ≥ 0) = true := decide_eq_true hp0
  by_cases hp1 : pos < B.length
  case neg =>
    have e2 : decide (pos < (B.length : Int)) = false := decide_eq_false hp1
    refine T.regi hm ?_
    simp only [↓reduceIte, namesOf, List.any, I.names, aopsI, astep, ev, setd, List.set, List.getD, List.getElem?_cons_zero, List.getElem?_cons_succ, List.cons_append, List.nil_append, List.replicate, then_normal, Option.getD_some, Bool.or_false, Bool.false_eq_true, up_zero, binv, ↓opt_def, eq_self, e1, e2]
    refine h3 _ _ ?_
    try clear h3 K_h3
    refine T.cond rfl (fun h => by cases h) (fun _ => T.skip ?_)
    exact part2 _ _ hu rfl
  have e2 : decide (pos < (B.length : Int)) = true := decide_eq_true hp1
  by_cases hd0 : d = 0
  · have e3 : ((d.toNat : Int) != 0) = false := by rw [hd0]; rfl
    refine T.regi hm ?_
    simp only [↓reduceIte, namesOf, List.any, I.names, aopsI, astep, ev, setd, List.set, List.getD, List.getElem?_cons_zero, List.getElem?_cons_succ, List.cons_append, List.nil_append, List.replicate, then_normal, Option.getD_some, Bool.or_false, Bool.false_eq_true, up_zero, binv, ↓opt_def, eq_self, e1, e2, e3]
    refine h3 _ _ ?_
    try clear h3 K_h3
    refine T.cond rfl (fun h => by cases h) (fun _ => T.skip ?_)
    exact part2 _ _ hu rfl
  have e3 : ((d.toNat : Int) != 0) = true := by
    rw [bne_iff_ne]
    intro hz
    exact hd0 (UInt8.toNat_inj.1 (by simpa using hz))
  refine T.regi hm ?_
  simp only [↓reduceIte, namesOf, List.any, I.names, aopsI, astep, ev, setd, List.set, List.getD, List.getElem?_cons_zero, List.getElem?_cons_succ, List.cons_append, List.nil_append, List.replicate, then_normal, Option.getD_some, Bool.or_false, Bool.false_eq_true, up_zero, binv, ↓opt_def, eq_self, e1, e2, e3]
  refine h3 _ _ ?_
  try clear h3 K_h3
  refine T.cond rfl (fun _ => ?_) (fun h => by cases h)
  clear e1 e2 e3
  obtain ⟨n, rfl⟩ : ∃ n : Nat, pos = (n : Int) := ⟨pos.toNat, by omega⟩
  have hn : n < B.length := by omega
  have hcl : (List.replicate o AV.any ++ bytesAV B).length = o + B.length := by rw [List.length_append, List.length_replicate, bytesAV_len]
  have hcg : (List.replicate o AV.any ++ bytesAV B)[o + n]? = some (.int .u8 (B[n].toNat : Int)) := by
    rw [List.getElem?_append_right (by simp), List.length_replicate, Nat.add_sub_cancel_left, bytes_get hn]
  have hcs : splice (List.replicate o AV.any ++ bytesAV B) (o + n) [.int .u8 ((B[n] ^^^ d).toNat : Int)] = List.replicate o AV.any ++ bytesAV (B.set n (B[n] ^^^ d)) := by
    rw [splice_one (by rw [hcl]; omega), List.set_append_right _ _ (by simp), List.length_replicate, Nat.add_sub_cancel_left]
    simp [bytesAV]
  have hxb := xor_byte B[n] d
  have hopen := hcut n (B[n] ^^^ d) hn (xor_ne (c := B[n]) hd0)
  have hBl : (B.set n (B[n] ^^^ d)).length = B.length := List.length_set ..
  generalize B.set n (B[n] ^^^ d) = B' at hcs hopen hBl
  generalize B[n] = c at hcg hcs hxb
  have hfit1 : AV.fits 1 (.int .u8 ((c ^^^ d).toNat : Int)) = true := rfl
  have hdle : decide (o + n + 1 ≤ o + B.length) = true := decide_eq_true (by omega)
  have hb2 : ∀ k, (u.up k).res g = some (.obj (List.replicate o .any ++ bytesAV B)) := fun _ => hres
  generalize (List.replicate o AV.any ++ bytesAV B) = CS at hcl hcg hcs hres hb2
  refine T.seq_k (fun K_h3 h3 => ?_)
  refine T.regi hm ?_
  simp only [↓reduceIte, namesOf, List.any, I.names, aopsI, astep, ev, setd, List.set, List.getD, List.getElem?_cons_zero, List.getElem?_cons_succ, then_normal, Option.getD_some, Bool.or_false, Bool.false_eq_true, up_zero, binv, ↓opt_def, AV.cells, ldc, Int.natCast_nonneg, lt_len, Int.toNat_natCast, and_true, eq_self, hres, hn, hcg, hxb, hcs, hcl, hfit1, hdle, Nat.mul_one, Bool.and_true]
  have hb3 : (u.set g (.obj (List.replicate o .any ++ bytesAV B'))).res g = some (.obj (List.replicate o .any ++ bytesAV B')) := St.set_same _ _ _
  have hu3 : ∀ n r, σ.res n = some r → ((u.set g (.obj (List.replicate o .any ++ bytesAV B'))).del g).res n = some r := fun n r hr => by
    have hlt := wf.lt hr
    show (if n = g then none else (if n = g then _ else u.res n)) = some r
    rw [if_neg (by omega), if_neg (by omega)]; exact hu n r hr
  generalize (u.set g (.obj (List.replicate o .any ++ bytesAV B'))) = u4 at hb3 hu3 ⊢
  refine h3 _ _ ?_
  try clear h3 K_h3
  refine T.gh (Gh.keep [3, 4, 5, 13, 14]) ?_
  refine T.gh (Gh.freeze (t := 14) (k := 1) rfl hb3 ((bytesAV_len B').trans hBl) (fun x hx => by obtain ⟨c, _, rfl⟩ := List.mem_map.1 hx; rfl) (by rw [bytes_flat, List.drop_left' (List.length_replicate ..), Nat.mul_one, List.take_of_length_le (by rw [bytesAV_len, hBl]; exact Nat.le_refl _)]) (by simp)) ?_
  show T _ _ _ _ ([.any, .any, .any, .int .u64 (a : Int), .int .u64 (b : Int), .int .i64 page, .any, .any, .any, .any, .any, .any, .any, .bool true, .sl (bytesAV B') .none] ++ List.replicate 113 .any) _
  generalize (u4.del g) = u5 at hu3 ⊢
  have e7 : errAV 7 = .iface tCode (.int .i64 7) := rfl
  have ee7 : eqIv false [(tCode, .i64)] (.iface tCode (.int .i64 7)) (.iface tCode (.int .i64 7)) = some true := rfl
  refine T.seq_k (fun K_h3 h3 => ?_)
  refine T.regi hm ?_
  simp only [↓reduceIte, namesOf, List.any, I.names, aopsI, astep, ev, setd, List.set, List.getD, List.getElem?_cons_zero, List.getElem?_cons_succ, List.cons_append, List.nil_append, List.replicate, then_normal, Option.getD_some, Bool.or_false, Bool.false_eq_true, up_zero, ↓opt_def, List.map_cons, List.map_nil]
  refine (mGet_ok (x := B') (by omega)).mono ?_
  rintro v τ ⟨rfl, rfl⟩
  rw [hopen]
  try simp only [List.getElem?_cons_zero, List.getElem?_cons_succ, e7]
  refine h3 _ _ ?_
  try clear h3 K_h3
  refine T.seq_k (fun K_h0 h0 => ?_)
  refine T.regi hm ?_
  simp only [↓reduceIte, namesOf, List.any, I.names, aopsI, astep, ev, setd, List.set, List.getD, List.getElem?_cons_zero, List.getElem?_cons_succ, then_normal, Option.getD_some, Bool.or_false, Bool.false_eq_true, up_zero, ee7, bne_self_eq_false]
  refine h0 _ _ ?_
  try clear h0 K_h0
  refine T.cond rfl (fun h => by cases h) (fun _ => T.skip ?_)
  exact part2 _ _ hu3 rfl

end Go.VL

namespace Go.VL

open Go.Proofs

set_option maxRecDepth 100000 in
theorem meta_ftsT : fts Tryd.prog t_meta = some [t_u64, t_int, t_i64, t_i64, t_int, t_int] := by kernel_rfl

theorem u64_tyT : Tryd.prog.underlying t_u64 = some (.int .u64) := by kernel_rfl

theorem i64_tyT : Tryd.prog.underlying t_i64 = some (.int .i64) := by kernel_rfl

theorem int_tyT : Tryd.prog.underlying t_int = some (.int .i64) := by kernel_rfl

theorem u8_tyT : Tryd.prog.underlying t_u8 = some (.int .u8) := by kernel_rfl

theorem meta_ofT {n : Nat} {y : AV} (h : HasE Tryd.prog (n + 2) t_meta y) : ∃ m : Mt, y = .agg (mtC m) ∧ m.id < 18446744073709551616 ∧ (-9223372036854775808 ≤ m.en ∧ m.en ≤ 9223372036854775807) := by
  obtain ⟨zs, hy, hf⟩ := has_fields meta_ftsT h
  clear h
  subst hy
  have h := hf
  clear hf
  obtain ⟨y1, z1, rfl, k1, h⟩ := h
  obtain ⟨y2, z2, rfl, k2, h⟩ := h
  obtain ⟨y3, z3, rfl, k3, h⟩ := h
  obtain ⟨y4, z4, rfl, k4, h⟩ := h
  obtain ⟨y5, z5, rfl, k5, h⟩ := h
  obtain ⟨y6, z6, rfl, k6, h⟩ := h
  have hz : z6 = [] := h
  subst hz
  obtain ⟨m1, rfl, a1, b1⟩ := hasT_int u64_tyT k1
  obtain ⟨m2, rfl, a2, b2⟩ := hasT_int int_tyT k2
  obtain ⟨m3, rfl, a3, b3⟩ := hasT_int i64_tyT k3
  obtain ⟨m4, rfl, a4, b4⟩ := hasT_int i64_tyT k4
  obtain ⟨m5, rfl, a5, b5⟩ := hasT_int int_tyT k5
  obtain ⟨m6, rfl, a6, b6⟩ := hasT_int int_tyT k6
  obtain ⟨n1, rfl, c1⟩ := u64_nat a1 b1
  exact ⟨⟨n1, m2, m3, m4, m5, m6⟩, rfl, c1, a4, b4⟩

end Go.VL

namespace Go.Proofs.YtnifkggcldalbaaDoor

open Go.ChangeShapes Go.WideShapes Go.ChangeAt Go.RowKit Go.VL

set_option maxRecDepth 100000 in
theorem metaBack_lifted (os : Os) (started : os.Started) (H : Type) (enc : TypeId × Value → H) :
    ReturnsInHanded {} Tryd.checked os n_metaBack .any (fun w args => (Rows.metaBackSpec.pre enc Tryd.prog Tryd.f6 [] false w args ∧ laidMetH Tryd.prog laidU w) ∧ sizedMet enc Tryd.prog Tryd.f6 (OpenSpec.ofChange Rows.metaBackSpec) false w args)
      (Rows.metaBackSpec.post enc Tryd.prog Tryd.f6 false true false false) := by
  refine returnsInHanded_of_change_and (C := Tryd.checked) (X := fun w _ => laidMetH Tryd.prog laidU w) (fun _ _ _ hh h => h.of_heap hh) own started (by kernel_rfl) Tryd.func6
    (ChangeSpec.witness_at (enc := enc) (C := Tryd.checked) (os := os) (X := fun w _ => laidMetH Tryd.prog laidU w) false (laidWorldU os) #[.agg #[.int .u64 0, .int .i64 0, .int .i64 0, .int .i64 0, .int .i64 0, .int .i64 0], .int .i64 0, .int .u8 0, .int .u64 0, .int .u64 0, .int .i64 0] 8 rfl (by kernel_rfl) (by kernel_rfl) (by kernel_rfl) (by kernel_rfl) (by kernel_rfl) (laidWorldU_met os _)) ?_
  intro W base args ds gs before hval0 hW _ _ hL _
  refine law_calls_tabsU 3 (tb := 4) laidOut (by kernel_rfl) rfl (by kernel_rfl) (by kernel_rfl) (fun ds hds => ?_) (fun xs hxs σ hG hNR => ?_) hval0 hW (tabsU_of_laid hL)
  · match ds, hds with
    | [_d1, _d2, _d3, _d4, _d5, _d6], _ => rfl
  · have hxs' : HasAll Tryd.prog 3 [_, _, _, _, _, _] xs := hxs
    cases hxs' with
    | cons h1 r1 =>
    cases r1 with
    | cons h2 r2 =>
    cases r2 with
    | cons h3 r3 =>
    cases r3 with
    | cons h4 r4 =>
    cases r4 with
    | cons h5 r5 =>
    cases r5 with
    | cons h6 r6 =>
    cases r6
    obtain ⟨m, rfl, hm1, _⟩ := meta_ofT (n := 1) h1
    obtain ⟨pos, rfl, _⟩ := has_int int_tyT h2
    obtain ⟨d0, rfl, d1, d2⟩ := has_int u8_tyT h3
    obtain ⟨d, rfl⟩ := u8_of d1 d2
    obtain ⟨a0, rfl, a1, a2⟩ := has_int u64_tyT h4
    obtain ⟨a, rfl, ha⟩ := u64_nat a1 a2
    obtain ⟨b0, rfl, b1, b2⟩ := has_int u64_tyT h5
    obtain ⟨b, rfl, hb⟩ := u64_nat b1 b2
    obtain ⟨page, rfl, q1, q2⟩ := has_int int_tyT h6
    exact (metaBack_ok hG.1 hG.2 hNR hm1 ha hb ⟨q1, q2⟩).mono fun v _ e => e

theorem metaBack_holds : Rows.MetaBackSaid :=
  OpenClaim.holds_of_wide n_metaBack Tryd.f6 rfl rfl rfl rfl rfl rfl rfl ⟨rfl, rfl, rfl, rfl, rfl⟩ rfl rfl rfl rfl rfl (by kernel_rfl) Tryd.func6 (by kernel_rfl)
    (of_decide_eq_true (by kernel_rfl)) (by unfold Func.isWrapper; first | (rw [if_pos (by decide +kernel)]; kernel_rfl) | (rw [if_neg (by decide +kernel)]; exact ⟨rfl, rfl⟩))
    (fun os started H enc _ => metaBack_lifted os started H enc)

theorem metaBack_card : Rows.MetaBackCardSaid :=
  Claim7.holds_tied_plain_at .later [] [.data, .data, .data, .data, .sentinel, .sentinel, .pinned] true Rows.metaBackCard.stood.harness true
    metaBack_holds (fun _ h => by cases h) (by kernel_rfl) (fun _ h => by cases h) metaBack_row_tie rfl ⟨rfl, rfl⟩ (by kernel_rfl) rfl
    (fun f fn hf hfn => by
      obtain rfl : f = 6 := Option.some.inj ((show Tryd.prog.funcNamed Rows.metaBackRow.func = some 6 by kernel_rfl).symm.trans hf) |>.symm
      obtain rfl : fn = Tryd.f6 := (Option.some.inj (Tryd.func6.symm.trans hfn)).symm
      refine ⟨by kernel_rfl, fun j t ht => ?_⟩
      have hm : t ∈ Tryd.f6.params.toList := by simpa using Array.mem_of_getElem? ht
      have hall : (Tryd.f6.params.toList.all fun u => !Tryd.prog.wantsStandIn u) = true := by kernel_rfl
      exact (show Tryd.prog.wantsStandIn t = false by simpa using List.all_eq_true.1 hall t hm))
    (by kernel_rfl)

end Go.Proofs.YtnifkggcldalbaaDoor
