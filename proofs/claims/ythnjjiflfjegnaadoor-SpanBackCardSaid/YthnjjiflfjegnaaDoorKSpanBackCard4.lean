/- SpanBack (layer 3): whatever the spans and the bytes, the law returns true, and the arguments read as they did. Conditions: the package variable errors.errorType holds what the program's text lays (tied). -/
import Derived.Test.YthnjjiflfjegnaaDoorKSpanBackCard3
import Derived.Test.YthnjjiflfjegnaaDoorRows
import Derived.Test.YthnjjiflfjegnaaDoorTie
import Derived.Test.YthnjjiflfjegnaaDoorCards
import Derived.Test.YthnjjiflfjegnaaDoorChecked

set_option linter.unusedSimpArgs false
set_option linter.unusedVariables false

namespace Go.VL

open Go.Proofs

/-- a word that lies there is read -/
theorem rd_word {b post : List UInt8} {p w n : Nat} (hw : 0 < w) (hn : n < 256 ^ w) (hd : b.drop p = beB w n ++ post) :
    rW b ⟨(p : Int), -1⟩ w = n ∧ rN b ⟨(p : Int), -1⟩ w = ⟨((p + w : Nat) : Int), -1⟩ ∧ b.drop (p + w) = post := by
  have hl : (b.drop p).length = w + post.length := by rw [hd, List.length_append, beB_len]
  rw [List.length_drop] at hl
  have ht : rT b ⟨(p : Int), -1⟩ w = true := by unfold rT; exact decide_eq_true ⟨rfl, by simp only []; omega⟩
  have hT : (b.drop p).take w = beB w n := by rw [hd, List.take_append_of_le_length (by rw [beB_len]; omega), List.take_of_length_le (by rw [beB_len]; omega)]
  refine ⟨?_, ?_, ?_⟩
  · unfold rW; rw [if_pos ht, Int.toNat_natCast, hT]; exact numB_beB w n hn
  · unfold rN; rw [if_pos ht]; rfl
  · rw [← List.drop_drop, hd, List.drop_append_of_le_length (by rw [beB_len]; omega), List.drop_of_length_le (by rw [beB_len]; omega), List.nil_append]

/-- so is a text -/
theorem rd_text {b d post : List UInt8} {p : Nat} (hd : d.length < 65536) (h : b.drop p = textB d ++ post) :
    rX b ⟨(p : Int), -1⟩ = d ∧ rXN b ⟨(p : Int), -1⟩ = ⟨((p + (textB d).length : Nat) : Int), -1⟩ ∧ b.drop (p + (textB d).length) = post := by
  unfold textB at h
  rw [List.append_assoc] at h
  obtain ⟨h1, h2, h3⟩ := rd_word (w := 2) (by omega) (by omega) h
  have hl : (b.drop (p + 2)).length = d.length + post.length := by rw [h3, List.length_append]
  have hl0 : (b.drop p).length = 2 + (d.length + post.length) := by rw [h, List.length_append, beB_len, List.length_append]
  rw [List.length_drop] at hl hl0
  have htl : (textB d).length = 2 + d.length := by unfold textB; rw [List.length_append, beB_len]
  have hX : rXbad b ⟨(p : Int), -1⟩ = false := by
    unfold rXbad; rw [h1, h2, Bool.or_eq_false_iff]
    exact ⟨decide_eq_false (fun h => h rfl), decide_eq_false (by show ¬ ((d.length : Int) > (b.length : Int) - ((p + 2 : Nat) : Int)); omega)⟩
  refine ⟨?_, ?_, ?_⟩
  · unfold rX; rw [hX, h1, h2, Int.toNat_natCast, h3]; simp
  · unfold rXN; rw [h1, h2, if_neg (fun h => h rfl), if_neg (by show ¬ ((d.length : Int) > (b.length : Int) - ((p + 2 : Nat) : Int)); omega), htl]
    simp only [Rs.mk.injEq, and_true]; omega
  · rw [htl, show p + (2 + d.length) = (p + 2) + d.length by omega, ← List.drop_drop, h3]; simp

theorem span_len (s : Sp) : (spanB s).length = 32 + (textB s.da).length := by
  unfold spanB spanN runB; simp [beB_len]; omega

/-- so is a span -/
theorem rd_span {b post : List UInt8} {s : Sp} {p : Nat} (hs : s.wd) (hm : mayS s = true) (h : b.drop p = spanB s ++ post) :
    oneS b ⟨(p : Int), -1⟩ = s ∧ oneN b ⟨(p : Int), -1⟩ = ⟨((p + (spanB s).length : Nat) : Int), -1⟩ ∧ b.drop (p + (spanB s).length) = post := by
  have hm' : 0 ≤ s.st ∧ s.st ≤ s.en ∧ s.en ≤ 1099511627776 ∧ (s.da.length : Int) ≤ 64 := of_decide_eq_true hm
  obtain ⟨m1, m2, m3, m4⟩ := hm'
  have hB : spanB s = beB 8 s.tr ++ (beB 8 s.id ++ (beB 8 s.st.toNat ++ (beB 8 s.en.toNat ++ textB s.da))) := by
    unfold spanB spanN runB; simp
  have hlen := span_len s
  rw [hB] at h
  simp only [List.append_assoc] at h
  obtain ⟨a1, a2, a3⟩ := rd_word (w := 8) (by omega) hs.1 h
  obtain ⟨b1, b2, b3⟩ := rd_word (w := 8) (by omega) hs.2 a3
  obtain ⟨c1, c2, c3⟩ := rd_word (w := 8) (by omega) (by omega) b3
  obtain ⟨d1, d2, d3⟩ := rd_word (w := 8) (by omega) (by omega) c3
  obtain ⟨e1, e2, e3⟩ := rd_text (by omega) d3
  have w1 : IntKind.i64.wrap ((s.st.toNat : Nat) : Int) = s.st := by rw [wrap64 (by omega) (by omega)]; omega
  have w2 : IntKind.i64.wrap ((s.en.toNat : Nat) : Int) = s.en := by rw [wrap64 (by omega) (by omega)]; omega
  refine ⟨?_, ?_, ?_⟩
  · unfold oneS; rw [a1, a2, b1, b2, c1, c2, d1, d2, e1, w1, w2]
  · unfold oneN; rw [a2, b2, c2, d2, e2, hlen]; congr 2; omega
  · rw [hlen, show p + (32 + (textB s.da).length) = p + 8 + 8 + 8 + 8 + (textB s.da).length by omega]; exact e3

theorem rd_spans {b : List UInt8} : ∀ {l : List Sp} {post : List UInt8} {p : Nat} {acc : List Sp}, (∀ s ∈ l, s.wd ∧ mayS s = true) → b.drop p = l.flatMap spanB ++ post →
    goS b l.length ⟨(p : Int), -1⟩ acc = (-1, acc ++ l, ⟨((p + (l.flatMap spanB).length : Nat) : Int), -1⟩)
  | [], post, p, acc, hl, h => by unfold goS; simp
  | s :: r, post, p, acc, hl, h => by
    rw [List.flatMap_cons, List.append_assoc] at h
    obtain ⟨h1, h2, h3⟩ := rd_span (hl s (by simp)).1 (hl s (by simp)).2 h
    have ih := @rd_spans b r post (p + (spanB s).length) (acc ++ [s]) (fun x hx => hl x (List.mem_cons_of_mem _ hx)) h3
    rw [List.length_cons]
    conv => lhs; unfold goS
    rw [h1, h2, if_neg (by simp only []; omega), if_neg (by simp only []; omega), if_pos (hl s (by simp)).2, ih]
    simp only [List.append_assoc, List.cons_append, List.nil_append, List.flatMap_cons, List.length_append, Nat.add_assoc]

/-- spans: what was put is got -/
theorem getS_put {l : List Sp} (hn : l.length < 65536) (hl : ∀ s ∈ l, s.wd ∧ mayS s = true) : getS (spansB l) = (-1, l) := by
  have h0 : (spansB l).drop 0 = beB 2 l.length ++ (l.flatMap spanB ++ []) := by unfold spansB; simp
  obtain ⟨h1, h2, h3⟩ := rd_word (p := 0) (w := 2) (by omega) (by omega) h0
  have h4 := @rd_spans (spansB l) l [] (0 + 2) [] hl h3
  have hlen : (spansB l).length = 2 + (l.flatMap spanB).length := by unfold spansB; rw [List.length_append, beB_len]
  have e0 : r0 = ⟨((0 : Nat) : Int), -1⟩ := rfl
  unfold getS
  rw [e0, h1, h2, h4, hlen]
  simp only []
  rw [if_neg (by omega), if_neg (by omega)]; rfl

end Go.VL

namespace Go.VL

open Go.Proofs

theorem numB_snoc (a : List UInt8) (c : UInt8) : numB (a ++ [c]) = 256 * numB a + c.toNat := by rw [numB_app]; rfl

theorem beB_numB : ∀ (n : Nat) (a : List UInt8), a.length = n → beB n (numB a) = a
  | 0, a, h => by rw [List.length_eq_zero_iff.1 h]; rfl
  | n + 1, a, h => by
    have hne : a ≠ [] := by intro e; subst e; cases h
    have hd := List.dropLast_concat_getLast hne
    have hl : a.dropLast.length = n := by rw [List.length_dropLast]; omega
    have ih := beB_numB n a.dropLast hl
    generalize a.getLast hne = c at hd
    generalize a.dropLast = d at hd ih
    subst hd
    have hc := c.toNat_lt
    rw [numB_snoc]
    unfold beB
    rw [show (256 * numB d + c.toNat) / 256 = numB d by omega, show (256 * numB d + c.toNat) % 256 = c.toNat by omega, ih]
    simp

theorem rN_bad {b : List UInt8} {s : Rs} {w : Nat} (h : (rN b s w).bad = -1) : s.bad = -1 := by
  unfold rN at h
  split at h
  · exact h
  · unfold rF at h
    simp only at h
    split at h
    · assumption
    · exact h

/-- a word that was read lies there -/
theorem got_word {b : List UInt8} {p w : Nat} (h : (rN b ⟨(p : Int), -1⟩ w).bad = -1) :
    rN b ⟨(p : Int), -1⟩ w = ⟨((p + w : Nat) : Int), -1⟩ ∧ b.drop p = beB w (rW b ⟨(p : Int), -1⟩ w) ++ b.drop (p + w) ∧ (p ≤ b.length → p + w ≤ b.length ∧ rW b ⟨(p : Int), -1⟩ w < 256 ^ w) := by
  unfold rN at h ⊢
  unfold rW
  cases ht : rT b ⟨(p : Int), -1⟩ w with
  | false =>
    rw [ht] at h
    simp [rF] at h
  | true =>
    have ht' := ht
    rw [rT_iff] at ht'
    obtain ⟨_, t2⟩ := ht'
    simp only at t2
    have hlen : w ≤ (b.drop p).length ∨ b.length < p := by rw [List.length_drop]; omega
    refine ⟨by simp, ?_, fun hp => ?_⟩
    · simp only [if_true, Int.toNat_natCast]
      have : ((b.drop p).take w).length = w ∨ b.length < p := by
        rcases hlen with h | h
        · left; rw [List.length_take]; omega
        · right; exact h
      rcases this with h1 | h1
      · have e := beB_numB w _ h1
        rw [e, ← List.drop_drop, List.take_append_drop]
      · omega
    · simp only [if_true, Int.toNat_natCast]
      refine ⟨by omega, numB_lt _ _ (by rw [List.length_drop]; omega)⟩

/-- so does a text -/
theorem got_text {b : List UInt8} {p : Nat} (hp : p ≤ b.length) (h : (rXN b ⟨(p : Int), -1⟩).bad = -1) :
    ∃ p' : Nat, rXN b ⟨(p : Int), -1⟩ = ⟨(p' : Int), -1⟩ ∧ p' ≤ b.length ∧ b.drop p = textB (rX b ⟨(p : Int), -1⟩) ++ b.drop p' := by
  unfold rXN at h ⊢
  split at h
  · rename_i hb; exact absurd h hb
  · rename_i hb
    have hb' : (rN b ⟨(p : Int), -1⟩ 2).bad = -1 := Classical.not_not.1 hb
    obtain ⟨w1, w2, w3⟩ := got_word hb'
    obtain ⟨w4, w5⟩ := w3 hp
    rw [if_neg hb]
    split at h
    · simp only at h; omega
    · rename_i hc
      rw [if_neg hc]
      rw [w1] at hc ⊢
      simp only at hc
      generalize hn : rW b ⟨(p : Int), -1⟩ 2 = n at w2 w5 hc ⊢
      have hX : rX b ⟨(p : Int), -1⟩ = (b.drop (p + 2)).take n := by
        have hbad : rXbad b ⟨(p : Int), -1⟩ = false := by
          unfold rXbad; rw [w1, hn, Bool.or_eq_false_iff]
          exact ⟨decide_eq_false (fun h => h rfl), decide_eq_false (by simp only; omega)⟩
        unfold rX; rw [hbad, w1, hn]; simp only [Bool.false_eq_true, if_false, Int.toNat_natCast]
      have hl : (rX b ⟨(p : Int), -1⟩).length = n := by rw [hX, List.length_take, List.length_drop]; omega
      refine ⟨p + 2 + n, by simp only [Rs.mk.injEq, and_true]; omega, by omega, ?_⟩
      unfold textB
      rw [hl, w2, List.append_assoc, hX, ← List.drop_drop (j := p + 2), List.take_append_drop]

theorem rXN_bad {b : List UInt8} {s : Rs} (h : (rXN b s).bad = -1) : s.bad = -1 := by
  unfold rXN at h
  split at h
  · exact rN_bad h
  · rename_i hb; exact rN_bad (Classical.not_not.1 hb)

theorem wrap_nat {n : Nat} (h : n < 18446744073709551616) (h0 : 0 ≤ IntKind.i64.wrap (n : Int)) : (IntKind.i64.wrap (n : Int)).toNat = n := by
  simp [IntKind.wrap, IntKind.bits, IntKind.signed] at h0 ⊢
  omega

/-- so does a span -/
theorem got_span {b : List UInt8} {p : Nat} (hp : p ≤ b.length) (h : (oneN b ⟨(p : Int), -1⟩).bad = -1) (hm : mayS (oneS b ⟨(p : Int), -1⟩) = true) :
    ∃ p' : Nat, oneN b ⟨(p : Int), -1⟩ = ⟨(p' : Int), -1⟩ ∧ p' ≤ b.length ∧ b.drop p = spanB (oneS b ⟨(p : Int), -1⟩) ++ b.drop p' ∧ (oneS b ⟨(p : Int), -1⟩).wd := by
  unfold oneN at h ⊢
  have n4 := rXN_bad h
  have n3 := rN_bad n4
  have n2 := rN_bad n3
  have n1 := rN_bad n2
  obtain ⟨a1, a2, a3⟩ := got_word n1
  obtain ⟨a4, a5⟩ := a3 hp
  rw [a1] at n2 n3 n4 h ⊢
  obtain ⟨b1, b2, b3⟩ := got_word n2
  obtain ⟨b4, b5⟩ := b3 a4
  rw [b1] at n3 n4 h ⊢
  obtain ⟨c1, c2, c3⟩ := got_word n3
  obtain ⟨c4, c5⟩ := c3 b4
  rw [c1] at n4 h ⊢
  obtain ⟨d1, d2, d3⟩ := got_word n4
  obtain ⟨d4, d5⟩ := d3 c4
  rw [d1] at h ⊢
  obtain ⟨p', e1, e2, e3⟩ := got_text d4 h
  have hS : oneS b ⟨(p : Int), -1⟩ = ⟨rW b ⟨(p : Int), -1⟩ 8, rW b ⟨((p + 8 : Nat) : Int), -1⟩ 8, IntKind.i64.wrap (rW b ⟨((p + 8 + 8 : Nat) : Int), -1⟩ 8 : Int), IntKind.i64.wrap (rW b ⟨((p + 8 + 8 + 8 : Nat) : Int), -1⟩ 8 : Int), rX b ⟨((p + 8 + 8 + 8 + 8 : Nat) : Int), -1⟩⟩ := by
    unfold oneS; rw [a1, b1, c1, d1]
  rw [hS] at hm ⊢
  refine ⟨p', e1, e2, ?_, a5, b5⟩
  have hm' := of_decide_eq_true hm
  simp only at hm'
  obtain ⟨m1, m2, m3, m4⟩ := hm'
  have s1 := wrap_nat (by omega) m1
  have s2 := wrap_nat (n := rW b ⟨((p + 8 + 8 + 8 : Nat) : Int), -1⟩ 8) (by omega) (by omega)
  have hB : ∀ s : Sp, spanB s = beB 8 s.tr ++ (beB 8 s.id ++ (beB 8 s.st.toNat ++ (beB 8 s.en.toNat ++ textB s.da))) := fun s => by
    unfold spanB spanN runB; simp
  rw [hB]
  simp only [s1, s2, List.append_assoc]
  rw [← e3, ← d2, ← c2, ← b2, ← a2]

theorem goS_back {b : List UInt8} (hbl : b.length ≤ 1000000) : ∀ {n p : Nat} {acc : List Sp}, p ≤ b.length → (goS b n ⟨(p : Int), -1⟩ acc).1 < 0 →
    ∃ (l : List Sp) (p' : Nat), goS b n ⟨(p : Int), -1⟩ acc = (-1, acc ++ l, ⟨(p' : Int), -1⟩) ∧ l.length = n ∧ p' ≤ b.length ∧ b.drop p = l.flatMap spanB ++ b.drop p' ∧ ∀ s ∈ l, mayS s = true ∧ s.wd
  | 0, p, acc, hp, h => ⟨[], p, by unfold goS; simp, rfl, hp, by simp, fun _ h => by cases h⟩
  | n + 1, p, acc, hp, h => by
    have hok : Rs.ok b ⟨(p : Int), -1⟩ := ⟨⟨by omega, by simp only []; omega, by simp only []; omega⟩, .inl rfl⟩
    have hN := (oneN_ok hok).2
    unfold goS at h ⊢
    rw [if_neg (by simp only []; omega)] at h ⊢
    by_cases hb : 0 ≤ (oneN b ⟨(p : Int), -1⟩).bad
    · rw [if_pos hb] at h; simp only at h; omega
    · rw [if_neg hb] at h ⊢
      cases hm : mayS (oneS b ⟨(p : Int), -1⟩) with
      | false => rw [hm, if_neg (by simp)] at h; simp only at h; omega
      | true =>
        rw [hm, if_pos rfl] at h
        rw [if_pos rfl]
        obtain ⟨p1, q1, q2, q3, q4⟩ := got_span hp (hN.resolve_right hb) hm
        rw [q1] at h ⊢
        obtain ⟨l, p', r1, r2, r3, r4, r5⟩ := goS_back hbl q2 h
        refine ⟨oneS b ⟨(p : Int), -1⟩ :: l, p', by rw [r1]; simp, by rw [List.length_cons, r2], r3, ?_, fun s hs => ?_⟩
        · rw [List.flatMap_cons, q3, r4, List.append_assoc]
        · rcases List.mem_cons.1 hs with rfl | hs
          · exact ⟨hm, q4⟩
          · exact r5 s hs

/-- what is got is put as those bytes -/
theorem getS_back {b : List UInt8} (hbl : b.length ≤ 1000000) (h : (getS b).1 < 0) : spansB (getS b).2 = b ∧ (getS b).2.length ≤ 65535 ∧ ∀ s ∈ (getS b).2, mayS s = true ∧ s.wd := by
  have h0 : r0 = ⟨((0 : Nat) : Int), -1⟩ := rfl
  have hok := rN_ok (w := 2) (Rs.ok_r0 (l := b) (by omega))
  have hlen := getS_len hbl
  have hget : getS b = (let r := goS b (rW b r0 2) (rN b r0 2) []; if 0 ≤ r.1 then (r.1, []) else if r.2.2.at_ < b.length then (r.2.2.at_, []) else (-1, r.2.1)) := rfl
  by_cases hb : 0 ≤ (rN b r0 2).bad
  · exfalso
    have hg : (goS b (rW b r0 2) (rN b r0 2) []).1 = (rN b r0 2).bad := by
      cases rW b r0 2 with
      | zero => unfold goS; rw [if_pos hb]
      | succ n => unfold goS; rw [if_pos hb]
    rw [hget] at h
    simp only at h
    rw [hg, if_pos hb] at h
    simp only at h; omega
  · have hw : (rN b ⟨((0 : Nat) : Int), -1⟩ 2).bad = -1 := hok.2.resolve_right hb
    obtain ⟨w1, w2, w3⟩ := got_word hw
    obtain ⟨w4, w5⟩ := w3 (Nat.zero_le _)
    rw [h0, w1] at hget
    simp only at hget
    by_cases he : 0 ≤ (goS b (rW b ⟨((0 : Nat) : Int), -1⟩ 2) ⟨((0 + 2 : Nat) : Int), -1⟩ []).1
    · rw [if_pos he] at hget; rw [hget] at h; simp only at h; omega
    · obtain ⟨l, p', r1, r2, r3, r4, r5⟩ := goS_back (n := rW b ⟨((0 : Nat) : Int), -1⟩ 2) (acc := []) hbl w4 (by omega)
      rw [r1] at hget
      simp only [if_neg (show ¬ (0 : Int) ≤ -1 by omega), List.nil_append] at hget
      by_cases hp : (p' : Int) < b.length
      · rw [if_pos hp] at hget; rw [hget] at h; simp only at h; omega
      · rw [if_neg hp] at hget
        rw [hget] at hlen ⊢
        refine ⟨?_, hlen, r5⟩
        show spansB l = b
        have hd : b.drop p' = [] := List.drop_of_length_le (by omega)
        unfold spansB
        rw [r2]
        rw [hd, List.append_nil] at r4
        rw [← r4, ← w2]; simp

end Go.VL

namespace Go.VL

open Go.Proofs

set_option maxRecDepth 10000 in
set_option maxHeartbeats 2000000 in
theorem spanBack_ok {gn : Nat} {l : List Sp} {b : List UInt8} {σ : St} (hG : σ.res gn = some (.glob 0 hvE)) (hl : l.length ≤ 9223372036854775807) (hd : ∀ s ∈ l, s.da.length ≤ 9223372036854775807) (hw : ∀ s ∈ l, s.wd) :
    ACalls Tryd.prog n_spanBack [.sl (spsAV l) .none, .sl (bytesAV b) .none] σ (fun v σ' => v = .bool true ∧ σ' = σ) := by
  refine s_spanBack (fun wf => ?_)
  unfold c_spanBack
  refine T.seq_k (fun K_h0 h0 => ?_)
  refine T.regi hm ?_
  simp only [↓reduceIte, namesOf, List.any, I.names, aops, aopsI, aopsT, qstep, CPt, qget, Tbl.get, astep, ev, setd, List.set, List.getD, List.getElem?_cons_zero, List.getElem?_cons_succ, List.getElem?_nil, List.cons_append, List.nil_append, List.length_cons, List.length_nil, List.replicate, then_normal, inBlock_normal, Option.getD_some, Option.getD_none, Bool.or_false, Bool.or_true, Bool.true_or, Bool.false_or, Bool.false_eq_true, if_false, if_true, up_zero, Nat.reduceAdd, Nat.reduceSub, binv, ↓opt_def, AV.isAny, AV.cells, ldc, List.map_cons, List.map_nil, St.set_next, St.set_same, St.up_next, Int.natCast_nonneg, lt_len, le_len, Int.toNat_natCast, true_and, and_true, eq_self, reduceCtorEq, decide_true, List.length_singleton, er_int, er_bool, er_str]
  refine h0 _ _ ?_
  try clear h0 K_h0
  refine T.seq_k (fun K_h1 h1 => ?_)
  refine T.regi hm ?_
  simp only [↓reduceIte, namesOf, List.any, I.names, aops, aopsI, aopsT, qstep, CPt, qget, Tbl.get, astep, ev, setd, List.set, List.getD, List.getElem?_cons_zero, List.getElem?_cons_succ, List.getElem?_nil, List.cons_append, List.nil_append, List.length_cons, List.length_nil, List.replicate, then_normal, inBlock_normal, Option.getD_some, Option.getD_none, Bool.or_false, Bool.or_true, Bool.true_or, Bool.false_or, Bool.false_eq_true, if_false, if_true, up_zero, Nat.reduceAdd, Nat.reduceSub, binv, ↓opt_def, AV.isAny, AV.cells, ldc, List.map_cons, List.map_nil, St.set_next, St.set_same, St.up_next, Int.natCast_nonneg, lt_len, le_len, Int.toNat_natCast, true_and, and_true, eq_self, reduceCtorEq, decide_true, List.length_singleton, er_int, er_bool, er_str]
  refine (up03_ok hG).mono ?_
  rintro v σ1 ⟨rfl, rfl⟩
  try simp only [↓reduceIte, namesOf, List.any, I.names, aops, aopsI, aopsT, qstep, CPt, qget, Tbl.get, astep, ev, setd, List.set, List.getD, List.getElem?_cons_zero, List.getElem?_cons_succ, List.getElem?_nil, List.cons_append, List.nil_append, List.length_cons, List.length_nil, List.replicate, then_normal, inBlock_normal, Option.getD_some, Option.getD_none, Bool.or_false, Bool.or_true, Bool.true_or, Bool.false_or, Bool.false_eq_true, if_false, if_true, up_zero, Nat.reduceAdd, Nat.reduceSub, binv, ↓opt_def, AV.isAny, AV.cells, ldc, List.map_cons, List.map_nil, St.set_next, St.set_same, St.up_next, Int.natCast_nonneg, lt_len, le_len, Int.toNat_natCast, true_and, and_true, eq_self, reduceCtorEq, decide_true, List.length_singleton, er_int, er_bool, er_str, up_zero]
  refine h1 _ _ ?_
  try clear h1 K_h1
  refine T.seq_k (fun K_h1 h1 => ?_)
  refine T.regi hm ?_
  simp only [↓reduceIte, namesOf, List.any, I.names, aops, aopsI, aopsT, qstep, CPt, qget, Tbl.get, astep, ev, setd, List.set, List.getD, List.getElem?_cons_zero, List.getElem?_cons_succ, List.getElem?_nil, List.cons_append, List.nil_append, List.length_cons, List.length_nil, List.replicate, then_normal, inBlock_normal, Option.getD_some, Option.getD_none, Bool.or_false, Bool.or_true, Bool.true_or, Bool.false_or, Bool.false_eq_true, if_false, if_true, up_zero, Nat.reduceAdd, Nat.reduceSub, binv, ↓opt_def, AV.isAny, AV.cells, ldc, List.map_cons, List.map_nil, St.set_next, St.set_same, St.up_next, Int.natCast_nonneg, lt_len, le_len, Int.toNat_natCast, true_and, and_true, eq_self, reduceCtorEq, decide_true, List.length_singleton, er_int, er_bool, er_str]
  refine (few_ok hl).mono ?_
  rintro v σ2 ⟨rfl, rfl⟩
  try simp only [↓reduceIte, namesOf, List.any, I.names, aops, aopsI, aopsT, qstep, CPt, qget, Tbl.get, astep, ev, setd, List.set, List.getD, List.getElem?_cons_zero, List.getElem?_cons_succ, List.getElem?_nil, List.cons_append, List.nil_append, List.length_cons, List.length_nil, List.replicate, then_normal, inBlock_normal, Option.getD_some, Option.getD_none, Bool.or_false, Bool.or_true, Bool.true_or, Bool.false_or, Bool.false_eq_true, if_false, if_true, up_zero, Nat.reduceAdd, Nat.reduceSub, binv, ↓opt_def, AV.isAny, AV.cells, ldc, List.map_cons, List.map_nil, St.set_next, St.set_same, St.up_next, Int.natCast_nonneg, lt_len, le_len, Int.toNat_natCast, true_and, and_true, eq_self, reduceCtorEq, decide_true, List.length_singleton, er_int, er_bool, er_str, up_zero]
  refine h1 _ _ ?_
  try clear h1 K_h1
  refine T.seq_k (fun K_h1 h1 => ?_)
  cases hf : fewB 300 l with
  | false =>
    refine T.seq_k (fun K_h0 h0 => ?_)
    refine T.regi hm ?_
    simp only [↓reduceIte, namesOf, List.any, I.names, aops, aopsI, aopsT, qstep, CPt, qget, Tbl.get, astep, ev, setd, List.set, List.getD, List.getElem?_cons_zero, List.getElem?_cons_succ, List.getElem?_nil, List.cons_append, List.nil_append, List.length_cons, List.length_nil, List.replicate, then_normal, inBlock_normal, Option.getD_some, Option.getD_none, Bool.or_false, Bool.or_true, Bool.true_or, Bool.false_or, Bool.false_eq_true, if_false, if_true, up_zero, Nat.reduceAdd, Nat.reduceSub, binv, ↓opt_def, AV.isAny, AV.cells, ldc, List.map_cons, List.map_nil, St.set_next, St.set_same, St.up_next, Int.natCast_nonneg, lt_len, le_len, Int.toNat_natCast, true_and, and_true, eq_self, reduceCtorEq, decide_true, List.length_singleton, er_int, er_bool, er_str, Bool.not_false]
    refine h0 _ _ ?_
    try clear h0 K_h0
    refine T.cond rfl (fun _ => ?_) (fun h => by cases h)
    refine T.seq_k (fun K_h0 h0 => ?_)
    refine T.regi hm ?_
    simp only [↓reduceIte, namesOf, List.any, I.names, aops, aopsI, aopsT, qstep, CPt, qget, Tbl.get, astep, ev, setd, List.set, List.getD, List.getElem?_cons_zero, List.getElem?_cons_succ, List.getElem?_nil, List.cons_append, List.nil_append, List.length_cons, List.length_nil, List.replicate, then_normal, inBlock_normal, Option.getD_some, Option.getD_none, Bool.or_false, Bool.or_true, Bool.true_or, Bool.false_or, Bool.false_eq_true, if_false, if_true, up_zero, Nat.reduceAdd, Nat.reduceSub, binv, ↓opt_def, AV.isAny, AV.cells, ldc, List.map_cons, List.map_nil, St.set_next, St.set_same, St.up_next, Int.natCast_nonneg, lt_len, le_len, Int.toNat_natCast, true_and, and_true, eq_self, reduceCtorEq, decide_true, List.length_singleton, er_int, er_bool, er_str]
    refine h0 _ _ ?_
    try clear h0 K_h0
    exact T.ret (Fin.ret rfl ⟨rfl, rfl⟩)
  | true =>
  by_cases hx : b.length ≤ 20000
  case neg =>
    have e1 : decide ((b.length : Int) > 20000) = true := decide_eq_true (by omega)
    refine T.seq_k (fun K_h0 h0 => ?_)
    refine T.regi hm ?_
    simp only [↓reduceIte, namesOf, List.any, I.names, aops, aopsI, aopsT, qstep, CPt, qget, Tbl.get, astep, ev, setd, List.set, List.getD, List.getElem?_cons_zero, List.getElem?_cons_succ, List.getElem?_nil, List.cons_append, List.nil_append, List.length_cons, List.length_nil, List.replicate, then_normal, inBlock_normal, Option.getD_some, Option.getD_none, Bool.or_false, Bool.or_true, Bool.true_or, Bool.false_or, Bool.false_eq_true, if_false, if_true, up_zero, Nat.reduceAdd, Nat.reduceSub, binv, ↓opt_def, AV.isAny, AV.cells, ldc, List.map_cons, List.map_nil, St.set_next, St.set_same, St.up_next, Int.natCast_nonneg, lt_len, le_len, Int.toNat_natCast, true_and, and_true, eq_self, reduceCtorEq, decide_true, List.length_singleton, er_int, er_bool, er_str, Bool.not_true, bytesAV_len, e1]
    refine h0 _ _ ?_
    try clear h0 K_h0
    refine T.cond rfl (fun _ => ?_) (fun h => by cases h)
    refine T.seq_k (fun K_h0 h0 => ?_)
    refine T.regi hm ?_
    simp only [↓reduceIte, namesOf, List.any, I.names, aops, aopsI, aopsT, qstep, CPt, qget, Tbl.get, astep, ev, setd, List.set, List.getD, List.getElem?_cons_zero, List.getElem?_cons_succ, List.getElem?_nil, List.cons_append, List.nil_append, List.length_cons, List.length_nil, List.replicate, then_normal, inBlock_normal, Option.getD_some, Option.getD_none, Bool.or_false, Bool.or_true, Bool.true_or, Bool.false_or, Bool.false_eq_true, if_false, if_true, up_zero, Nat.reduceAdd, Nat.reduceSub, binv, ↓opt_def, AV.isAny, AV.cells, ldc, List.map_cons, List.map_nil, St.set_next, St.set_same, St.up_next, Int.natCast_nonneg, lt_len, le_len, Int.toNat_natCast, true_and, and_true, eq_self, reduceCtorEq, decide_true, List.length_singleton, er_int, er_bool, er_str]
    refine h0 _ _ ?_
    try clear h0 K_h0
    exact T.ret (Fin.ret rfl ⟨rfl, rfl⟩)
  have e1 : decide ((b.length : Int) > 20000) = false := decide_eq_false (by omega)
  refine T.seq_k (fun K_h0 h0 => ?_)
  refine T.regi hm ?_
  simp only [↓reduceIte, namesOf, List.any, I.names, aops, aopsI, aopsT, qstep, CPt, qget, Tbl.get, astep, ev, setd, List.set, List.getD, List.getElem?_cons_zero, List.getElem?_cons_succ, List.getElem?_nil, List.cons_append, List.nil_append, List.length_cons, List.length_nil, List.replicate, then_normal, inBlock_normal, Option.getD_some, Option.getD_none, Bool.or_false, Bool.or_true, Bool.true_or, Bool.false_or, Bool.false_eq_true, if_false, if_true, up_zero, Nat.reduceAdd, Nat.reduceSub, binv, ↓opt_def, AV.isAny, AV.cells, ldc, List.map_cons, List.map_nil, St.set_next, St.set_same, St.up_next, Int.natCast_nonneg, lt_len, le_len, Int.toNat_natCast, true_and, and_true, eq_self, reduceCtorEq, decide_true, List.length_singleton, er_int, er_bool, er_str, Bool.not_true, bytesAV_len, e1]
  refine h0 _ _ ?_
  try clear h0 K_h0
  refine T.cond rfl (fun h => by cases h) (fun _ => T.skip ?_)
  refine h1 _ _ ?_
  try clear h1 K_h1
  have hf' := hf
  unfold fewB at hf'
  simp only [Bool.and_eq_true, decide_eq_true_eq, List.all_eq_true] at hf'
  obtain ⟨f1, f2⟩ := hf'
  refine T.seq_k (fun K_h1 h1 => ?_)
  refine T.regi hm ?_
  simp only [↓reduceIte, namesOf, List.any, I.names, aops, aopsI, aopsT, qstep, CPt, qget, Tbl.get, astep, ev, setd, List.set, List.getD, List.getElem?_cons_zero, List.getElem?_cons_succ, List.getElem?_nil, List.cons_append, List.nil_append, List.length_cons, List.length_nil, List.replicate, then_normal, inBlock_normal, Option.getD_some, Option.getD_none, Bool.or_false, Bool.or_true, Bool.true_or, Bool.false_or, Bool.false_eq_true, if_false, if_true, up_zero, Nat.reduceAdd, Nat.reduceSub, binv, ↓opt_def, AV.isAny, AV.cells, ldc, List.map_cons, List.map_nil, St.set_next, St.set_same, St.up_next, Int.natCast_nonneg, lt_len, le_len, Int.toNat_natCast, true_and, and_true, eq_self, reduceCtorEq, decide_true, List.length_singleton, er_int, er_bool, er_str]
  refine (spput_ok (by omega) hd).mono ?_
  rintro v σ3 ⟨hv, rfl⟩
  have hv2 : ∃ x e, v = .tup [x, e] ∧ ((l.all mayS = true ∧ x = .sl (bytesAV (spansB l)) .none ∧ e = .nili) ∨ (l.all mayS = false ∧ x = .sl [] .none ∧ e = .iface tCode (.int .i64 1))) := by
    cases ha : l.all mayS with
    | true => rw [ha, if_pos rfl] at hv; exact ⟨_, _, hv, .inl ⟨rfl, rfl, rfl⟩⟩
    | false => rw [ha, if_neg (by simp)] at hv; exact ⟨_, _, hv, .inr ⟨rfl, rfl, rfl⟩⟩
  obtain ⟨x, e, rfl, hv2⟩ := hv2
  clear hv
  try simp only [↓reduceIte, namesOf, List.any, I.names, aops, aopsI, aopsT, qstep, CPt, qget, Tbl.get, astep, ev, setd, List.set, List.getD, List.getElem?_cons_zero, List.getElem?_cons_succ, List.getElem?_nil, List.cons_append, List.nil_append, List.length_cons, List.length_nil, List.replicate, then_normal, inBlock_normal, Option.getD_some, Option.getD_none, Bool.or_false, Bool.or_true, Bool.true_or, Bool.false_or, Bool.false_eq_true, if_false, if_true, up_zero, Nat.reduceAdd, Nat.reduceSub, binv, ↓opt_def, AV.isAny, AV.cells, ldc, List.map_cons, List.map_nil, St.set_next, St.set_same, St.up_next, Int.natCast_nonneg, lt_len, le_len, Int.toNat_natCast, true_and, and_true, eq_self, reduceCtorEq, decide_true, List.length_singleton, er_int, er_bool, er_str, up_zero]
  refine h1 _ _ ?_
  try clear h1 K_h1
  refine T.seq_k (fun K_h1 h1 => ?_)
  have part2 : ∀ ρ', keep [1, 5] 0 ρ' = [.any, .sl (bytesAV b) .none, .any, .any, .any, .bool true] ++ List.replicate 83 .any → K_h1 ρ' σ3 := by
    intro ρ' hρ
    refine h1 _ _ ?_
    try clear h1 K_h1
    refine T.gh (Gh.keep [1, 5]) ?_
    rw [hρ]
    clear hρ ρ'
    refine T.seq_k (fun K_h1 h1 => ?_)
    refine T.regi hm ?_
    simp only [↓reduceIte, namesOf, List.any, I.names, aops, aopsI, aopsT, qstep, CPt, qget, Tbl.get, astep, ev, setd, List.set, List.getD, List.getElem?_cons_zero, List.getElem?_cons_succ, List.getElem?_nil, List.cons_append, List.nil_append, List.length_cons, List.length_nil, List.replicate, then_normal, inBlock_normal, Option.getD_some, Option.getD_none, Bool.or_false, Bool.or_true, Bool.true_or, Bool.false_or, Bool.false_eq_true, if_false, if_true, up_zero, Nat.reduceAdd, Nat.reduceSub, binv, ↓opt_def, AV.isAny, AV.cells, ldc, List.map_cons, List.map_nil, St.set_next, St.set_same, St.up_next, Int.natCast_nonneg, lt_len, le_len, Int.toNat_natCast, true_and, and_true, eq_self, reduceCtorEq, decide_true, List.length_singleton, er_int, er_bool, er_str]
    refine (spget_ok (by omega)).mono ?_
    rintro v σ4 hv
    rcases hv with ⟨g1, rfl, rfl⟩ | ⟨g1, n, rfl, _, _, _, hL⟩
    case inr =>
      try simp only [↓reduceIte, namesOf, List.any, I.names, aops, aopsI, aopsT, qstep, CPt, qget, Tbl.get, astep, ev, setd, List.set, List.getD, List.getElem?_cons_zero, List.getElem?_cons_succ, List.getElem?_nil, List.cons_append, List.nil_append, List.length_cons, List.length_nil, List.replicate, then_normal, inBlock_normal, Option.getD_some, Option.getD_none, Bool.or_false, Bool.or_true, Bool.true_or, Bool.false_or, Bool.false_eq_true, if_false, if_true, up_zero, Nat.reduceAdd, Nat.reduceSub, binv, ↓opt_def, AV.isAny, AV.cells, ldc, List.map_cons, List.map_nil, St.set_next, St.set_same, St.up_next, Int.natCast_nonneg, lt_len, le_len, Int.toNat_natCast, true_and, and_true, eq_self, reduceCtorEq, decide_true, List.length_singleton, er_int, er_bool, er_str, up_zero]
      refine h1 _ _ ?_
      try clear h1 K_h1
      refine T.seq_k (fun K_h1 h1 => ?_)
      refine T.seq_k (fun K_h0 h0 => ?_)
      refine T.regi hm ?_
      simp only [↓reduceIte, namesOf, List.any, I.names, aops, aopsI, aopsT, qstep, CPt, qget, Tbl.get, astep, ev, setd, List.set, List.getD, List.getElem?_cons_zero, List.getElem?_cons_succ, List.getElem?_nil, List.cons_append, List.nil_append, List.length_cons, List.length_nil, List.replicate, then_normal, inBlock_normal, Option.getD_some, Option.getD_none, Bool.or_false, Bool.or_true, Bool.true_or, Bool.false_or, Bool.false_eq_true, if_false, if_true, up_zero, Nat.reduceAdd, Nat.reduceSub, binv, ↓opt_def, AV.isAny, AV.cells, ldc, List.map_cons, List.map_nil, St.set_next, St.set_same, St.up_next, Int.natCast_nonneg, lt_len, le_len, Int.toNat_natCast, true_and, and_true, eq_self, reduceCtorEq, decide_true, List.length_singleton, er_int, er_bool, er_str, eqIv, Bool.bne_true, Bool.not_false]
      refine h0 _ _ ?_
      try clear h0 K_h0
      refine T.cond rfl (fun _ => ?_) (fun h => by cases h)
      refine T.seq_k (fun K_h0 h0 => ?_)
      refine T.regi hm ?_
      simp only [↓reduceIte, namesOf, List.any, I.names, aops, aopsI, aopsT, qstep, CPt, qget, Tbl.get, astep, ev, setd, List.set, List.getD, List.getElem?_cons_zero, List.getElem?_cons_succ, List.getElem?_nil, List.cons_append, List.nil_append, List.length_cons, List.length_nil, List.replicate, then_normal, inBlock_normal, Option.getD_some, Option.getD_none, Bool.or_false, Bool.or_true, Bool.true_or, Bool.false_or, Bool.false_eq_true, if_false, if_true, up_zero, Nat.reduceAdd, Nat.reduceSub, binv, ↓opt_def, AV.isAny, AV.cells, ldc, List.map_cons, List.map_nil, St.set_next, St.set_same, St.up_next, Int.natCast_nonneg, lt_len, le_len, Int.toNat_natCast, true_and, and_true, eq_self, reduceCtorEq, decide_true, List.length_singleton, er_int, er_bool, er_str]
      refine h0 _ _ ?_
      try clear h0 K_h0
      exact T.ret (Fin.quiet rfl trivial (hL.quiet wf) ⟨rfl, rfl⟩)
    obtain ⟨q1, q2, q3⟩ := getS_back (by omega) g1
    have hall : (getS b).2.all mayS = true := List.all_eq_true.2 fun s hs => (q3 s hs).1
    have hda : ∀ s ∈ (getS b).2, s.da.length ≤ 9223372036854775807 := fun s hs => by have := mayS_len (q3 s hs).1; omega
    generalize (getS b).2 = y at q1 q2 hall hda ⊢
    try simp only [↓reduceIte, namesOf, List.any, I.names, aops, aopsI, aopsT, qstep, CPt, qget, Tbl.get, astep, ev, setd, List.set, List.getD, List.getElem?_cons_zero, List.getElem?_cons_succ, List.getElem?_nil, List.cons_append, List.nil_append, List.length_cons, List.length_nil, List.replicate, then_normal, inBlock_normal, Option.getD_some, Option.getD_none, Bool.or_false, Bool.or_true, Bool.true_or, Bool.false_or, Bool.false_eq_true, if_false, if_true, up_zero, Nat.reduceAdd, Nat.reduceSub, binv, ↓opt_def, AV.isAny, AV.cells, ldc, List.map_cons, List.map_nil, St.set_next, St.set_same, St.up_next, Int.natCast_nonneg, lt_len, le_len, Int.toNat_natCast, true_and, and_true, eq_self, reduceCtorEq, decide_true, List.length_singleton, er_int, er_bool, er_str, up_zero]
    refine h1 _ _ ?_
    try clear h1 K_h1
    refine T.seq_k (fun K_h1 h1 => ?_)
    refine T.seq_k (fun K_h0 h0 => ?_)
    refine T.regi hm ?_
    simp only [↓reduceIte, namesOf, List.any, I.names, aops, aopsI, aopsT, qstep, CPt, qget, Tbl.get, astep, ev, setd, List.set, List.getD, List.getElem?_cons_zero, List.getElem?_cons_succ, List.getElem?_nil, List.cons_append, List.nil_append, List.length_cons, List.length_nil, List.replicate, then_normal, inBlock_normal, Option.getD_some, Option.getD_none, Bool.or_false, Bool.or_true, Bool.true_or, Bool.false_or, Bool.false_eq_true, if_false, if_true, up_zero, Nat.reduceAdd, Nat.reduceSub, binv, ↓opt_def, AV.isAny, AV.cells, ldc, List.map_cons, List.map_nil, St.set_next, St.set_same, St.up_next, Int.natCast_nonneg, lt_len, le_len, Int.toNat_natCast, true_and, and_true, eq_self, reduceCtorEq, decide_true, List.length_singleton, er_int, er_bool, er_str, eqIv, bne_self_eq_false]
    refine h0 _ _ ?_
    try clear h0 K_h0
    refine T.cond rfl (fun h => by cases h) (fun _ => T.skip ?_)
    refine h1 _ _ ?_
    try clear h1 K_h1
    refine T.seq_k (fun K_h1 h1 => ?_)
    refine T.regi hm ?_
    simp only [↓reduceIte, namesOf, List.any, I.names, aops, aopsI, aopsT, qstep, CPt, qget, Tbl.get, astep, ev, setd, List.set, List.getD, List.getElem?_cons_zero, List.getElem?_cons_succ, List.getElem?_nil, List.cons_append, List.nil_append, List.length_cons, List.length_nil, List.replicate, then_normal, inBlock_normal, Option.getD_some, Option.getD_none, Bool.or_false, Bool.or_true, Bool.true_or, Bool.false_or, Bool.false_eq_true, if_false, if_true, up_zero, Nat.reduceAdd, Nat.reduceSub, binv, ↓opt_def, AV.isAny, AV.cells, ldc, List.map_cons, List.map_nil, St.set_next, St.set_same, St.up_next, Int.natCast_nonneg, lt_len, le_len, Int.toNat_natCast, true_and, and_true, eq_self, reduceCtorEq, decide_true, List.length_singleton, er_int, er_bool, er_str]
    refine (spput_ok q2 hda).mono ?_
    rintro v σ5 ⟨hv, rfl⟩
    rw [hall, if_pos rfl, q1] at hv
    subst hv
    try simp only [↓reduceIte, namesOf, List.any, I.names, aops, aopsI, aopsT, qstep, CPt, qget, Tbl.get, astep, ev, setd, List.set, List.getD, List.getElem?_cons_zero, List.getElem?_cons_succ, List.getElem?_nil, List.cons_append, List.nil_append, List.length_cons, List.length_nil, List.replicate, then_normal, inBlock_normal, Option.getD_some, Option.getD_none, Bool.or_false, Bool.or_true, Bool.true_or, Bool.false_or, Bool.false_eq_true, if_false, if_true, up_zero, Nat.reduceAdd, Nat.reduceSub, binv, ↓opt_def, AV.isAny, AV.cells, ldc, List.map_cons, List.map_nil, St.set_next, St.set_same, St.up_next, Int.natCast_nonneg, lt_len, le_len, Int.toNat_natCast, true_and, and_true, eq_self, reduceCtorEq, decide_true, List.length_singleton, er_int, er_bool, er_str, up_zero]
    refine h1 _ _ ?_
    try clear h1 K_h1
    have e5 : decide (b = b) = true := decide_eq_true rfl
    refine T.seq_k (fun K_h1 h1 => ?_)
    refine T.regi hm ?_
    simp only [↓reduceIte, namesOf, List.any, I.names, aops, aopsI, aopsT, qstep, CPt, qget, Tbl.get, astep, ev, setd, List.set, List.getD, List.getElem?_cons_zero, List.getElem?_cons_succ, List.getElem?_nil, List.cons_append, List.nil_append, List.length_cons, List.length_nil, List.replicate, then_normal, inBlock_normal, Option.getD_some, Option.getD_none, Bool.or_false, Bool.or_true, Bool.true_or, Bool.false_or, Bool.false_eq_true, if_false, if_true, up_zero, Nat.reduceAdd, Nat.reduceSub, binv, ↓opt_def, AV.isAny, AV.cells, ldc, List.map_cons, List.map_nil, St.set_next, St.set_same, St.up_next, Int.natCast_nonneg, lt_len, le_len, Int.toNat_natCast, true_and, and_true, eq_self, reduceCtorEq, decide_true, List.length_singleton, er_int, er_bool, er_str, eqIv, bne_self_eq_false, toBytes_bytes, sbinv, ba_eq, e5]
    refine h1 _ _ ?_
    try clear h1 K_h1
    exact T.ret (Fin.ret rfl ⟨rfl, rfl⟩)
  rcases hv2 with ⟨hall, rfl, rfl⟩ | ⟨_, rfl, rfl⟩
  case inr =>
    refine T.seq_k (fun K_h0 h0 => ?_)
    refine T.regi hm ?_
    simp only [↓reduceIte, namesOf, List.any, I.names, aops, aopsI, aopsT, qstep, CPt, qget, Tbl.get, astep, ev, setd, List.set, List.getD, List.getElem?_cons_zero, List.getElem?_cons_succ, List.getElem?_nil, List.cons_append, List.nil_append, List.length_cons, List.length_nil, List.replicate, then_normal, inBlock_normal, Option.getD_some, Option.getD_none, Bool.or_false, Bool.or_true, Bool.true_or, Bool.false_or, Bool.false_eq_true, if_false, if_true, up_zero, Nat.reduceAdd, Nat.reduceSub, binv, ↓opt_def, AV.isAny, AV.cells, ldc, List.map_cons, List.map_nil, St.set_next, St.set_same, St.up_next, Int.natCast_nonneg, lt_len, le_len, Int.toNat_natCast, true_and, and_true, eq_self, reduceCtorEq, decide_true, List.length_singleton, er_int, er_bool, er_str, eqIv, bne_self_eq_false]
    refine h0 _ _ ?_
    try clear h0 K_h0
    refine T.cond rfl (fun h => by cases h) (fun _ => T.skip ?_)
    exact part2 _ rfl
  have hmy : ∀ s ∈ l, s.wd ∧ mayS s = true := fun s hs => ⟨hw s hs, List.all_eq_true.1 hall s hs⟩
  have hget := getS_put (by omega) hmy
  have hlen : (spansB l).length ≤ 1000000 := by
    have := spans_le (l := l) (fun s hs => mayS_len (hmy s hs).2)
    have h2 : l.length * 234 ≤ 300 * 234 := Nat.mul_le_mul_right _ (by omega)
    unfold spansB; rw [List.length_append, beB_len]; omega
  generalize spansB l = B at hget hlen ⊢
  refine T.seq_k (fun K_h0 h0 => ?_)
  refine T.regi hm ?_
  simp only [↓reduceIte, namesOf, List.any, I.names, aops, aopsI, aopsT, qstep, CPt, qget, Tbl.get, astep, ev, setd, List.set, List.getD, List.getElem?_cons_zero, List.getElem?_cons_succ, List.getElem?_nil, List.cons_append, List.nil_append, List.length_cons, List.length_nil, List.replicate, then_normal, inBlock_normal, Option.getD_some, Option.getD_none, Bool.or_false, Bool.or_true, Bool.true_or, Bool.false_or, Bool.false_eq_true, if_false, if_true, up_zero, Nat.reduceAdd, Nat.reduceSub, binv, ↓opt_def, AV.isAny, AV.cells, ldc, List.map_cons, List.map_nil, St.set_next, St.set_same, St.up_next, Int.natCast_nonneg, lt_len, le_len, Int.toNat_natCast, true_and, and_true, eq_self, reduceCtorEq, decide_true, List.length_singleton, er_int, er_bool, er_str, eqIv, bne_self_eq_false]
  refine h0 _ _ ?_
  try clear h0 K_h0
  refine T.cond rfl (fun _ => ?_) (fun h => by cases h)
  refine T.seq_k (fun K_h2 h2 => ?_)
  refine T.regi hm ?_
  simp only [↓reduceIte, namesOf, List.any, I.names, aops, aopsI, aopsT, qstep, CPt, qget, Tbl.get, astep, ev, setd, List.set, List.getD, List.getElem?_cons_zero, List.getElem?_cons_succ, List.getElem?_nil, List.cons_append, List.nil_append, List.length_cons, List.length_nil, List.replicate, then_normal, inBlock_normal, Option.getD_some, Option.getD_none, Bool.or_false, Bool.or_true, Bool.true_or, Bool.false_or, Bool.false_eq_true, if_false, if_true, up_zero, Nat.reduceAdd, Nat.reduceSub, binv, ↓opt_def, AV.isAny, AV.cells, ldc, List.map_cons, List.map_nil, St.set_next, St.set_same, St.up_next, Int.natCast_nonneg, lt_len, le_len, Int.toNat_natCast, true_and, and_true, eq_self, reduceCtorEq, decide_true, List.length_singleton, er_int, er_bool, er_str]
  refine (spget_ok hlen).mono ?_
  rintro v σ4 hv
  rw [hget] at hv
  rcases hv with ⟨_, rfl, rfl⟩ | ⟨g1, _⟩
  case inr => simp only at g1; omega
  try simp only [↓reduceIte, namesOf, List.any, I.names, aops, aopsI, aopsT, qstep, CPt, qget, Tbl.get, astep, ev, setd, List.set, List.getD, List.getElem?_cons_zero, List.getElem?_cons_succ, List.getElem?_nil, List.cons_append, List.nil_append, List.length_cons, List.length_nil, List.replicate, then_normal, inBlock_normal, Option.getD_some, Option.getD_none, Bool.or_false, Bool.or_true, Bool.true_or, Bool.false_or, Bool.false_eq_true, if_false, if_true, up_zero, Nat.reduceAdd, Nat.reduceSub, binv, ↓opt_def, AV.isAny, AV.cells, ldc, List.map_cons, List.map_nil, St.set_next, St.set_same, St.up_next, Int.natCast_nonneg, lt_len, le_len, Int.toNat_natCast, true_and, and_true, eq_self, reduceCtorEq, decide_true, List.length_singleton, er_int, er_bool, er_str, up_zero]
  refine h2 _ _ ?_
  try clear h2 K_h2
  have e3 : (((l.length : Nat) : Int) != (l.length : Nat)) = false := by simp
  refine T.seq_k (fun K_h2 h2 => ?_)
  refine T.seq_k (fun K_h0 h0 => ?_)
  refine T.regi hm ?_
  simp only [↓reduceIte, namesOf, List.any, I.names, aops, aopsI, aopsT, qstep, CPt, qget, Tbl.get, astep, ev, setd, List.set, List.getD, List.getElem?_cons_zero, List.getElem?_cons_succ, List.getElem?_nil, List.cons_append, List.nil_append, List.length_cons, List.length_nil, List.replicate, then_normal, inBlock_normal, Option.getD_some, Option.getD_none, Bool.or_false, Bool.or_true, Bool.true_or, Bool.false_or, Bool.false_eq_true, if_false, if_true, up_zero, Nat.reduceAdd, Nat.reduceSub, binv, ↓opt_def, AV.isAny, AV.cells, ldc, List.map_cons, List.map_nil, St.set_next, St.set_same, St.up_next, Int.natCast_nonneg, lt_len, le_len, Int.toNat_natCast, true_and, and_true, eq_self, reduceCtorEq, decide_true, List.length_singleton, er_int, er_bool, er_str, eqIv, bne_self_eq_false, sps_len, e3]
  refine h0 _ _ ?_
  try clear h0 K_h0
  refine T.cond rfl (fun h => by cases h) (fun _ => T.skip ?_)
  refine h2 _ _ ?_
  try clear h2 K_h2
  refine T.seq_k (fun K_h0 h0 => ?_)
  refine T.regi hm ?_
  simp only [↓reduceIte, namesOf, List.any, I.names, aops, aopsI, aopsT, qstep, CPt, qget, Tbl.get, astep, ev, setd, List.set, List.getD, List.getElem?_cons_zero, List.getElem?_cons_succ, List.getElem?_nil, List.cons_append, List.nil_append, List.length_cons, List.length_nil, List.replicate, then_normal, inBlock_normal, Option.getD_some, Option.getD_none, Bool.or_false, Bool.or_true, Bool.true_or, Bool.false_or, Bool.false_eq_true, if_false, if_true, up_zero, Nat.reduceAdd, Nat.reduceSub, binv, ↓opt_def, AV.isAny, AV.cells, ldc, List.map_cons, List.map_nil, St.set_next, St.set_same, St.up_next, Int.natCast_nonneg, lt_len, le_len, Int.toNat_natCast, true_and, and_true, eq_self, reduceCtorEq, decide_true, List.length_singleton, er_int, er_bool, er_str]
  refine h0 _ _ ?_
  try clear h0 K_h0
  refine T.block ?_
  refine T.gh (Gh.keep [0, 1, 5, 9, 11]) ?_
  refine T.loopi (fun i ρ t => t = σ4 ∧ ρ = [.sl (spsAV l) .none, .sl (bytesAV b) .none, .any, .any, .any, .bool true, .any, .any, .any, .sl (spsAV l) .none, .any, .int .i64 (i : Int)] ++ List.replicate 77 .any)
    l.length 0 (Nat.zero_le _) ⟨rfl, rfl⟩ ?_
  rintro i ρ t hi ⟨rfl, rfl⟩
  refine T.seq_k (fun K_h2 h2 => ?_)
  by_cases hil : i < l.length
  case neg =>
    have e4 : decide (i < l.length) = false := decide_eq_false hil
    refine T.seq_k (fun K_h0 h0 => ?_)
    refine T.regi hm ?_
    simp only [↓reduceIte, namesOf, List.any, I.names, aops, aopsI, aopsT, qstep, CPt, qget, Tbl.get, astep, ev, setd, List.set, List.getD, List.getElem?_cons_zero, List.getElem?_cons_succ, List.getElem?_nil, List.cons_append, List.nil_append, List.length_cons, List.length_nil, List.replicate, then_normal, inBlock_normal, Option.getD_some, Option.getD_none, Bool.or_false, Bool.or_true, Bool.true_or, Bool.false_or, Bool.false_eq_true, if_false, if_true, up_zero, Nat.reduceAdd, Nat.reduceSub, binv, ↓opt_def, AV.isAny, AV.cells, ldc, List.map_cons, List.map_nil, St.set_next, St.set_same, St.up_next, Int.natCast_nonneg, lt_len, le_len, Int.toNat_natCast, true_and, and_true, eq_self, reduceCtorEq, decide_true, List.length_singleton, er_int, er_bool, er_str, sps_len, e4]
    refine h0 _ _ ?_
    try clear h0 K_h0
    refine T.cond rfl (fun h => by cases h) (fun _ => T.exit ?_)
    try simp only [↓reduceIte, namesOf, List.any, I.names, aops, aopsI, aopsT, qstep, CPt, qget, Tbl.get, astep, ev, setd, List.set, List.getD, List.getElem?_cons_zero, List.getElem?_cons_succ, List.getElem?_nil, List.cons_append, List.nil_append, List.length_cons, List.length_nil, List.replicate, then_normal, inBlock_normal, Option.getD_some, Option.getD_none, Bool.or_false, Bool.or_true, Bool.true_or, Bool.false_or, Bool.false_eq_true, if_false, if_true, up_zero, Nat.reduceAdd, Nat.reduceSub, binv, ↓opt_def, AV.isAny, AV.cells, ldc, List.map_cons, List.map_nil, St.set_next, St.set_same, St.up_next, Int.natCast_nonneg, lt_len, le_len, Int.toNat_natCast, true_and, and_true, eq_self, reduceCtorEq, decide_true, List.length_singleton, er_int, er_bool, er_str, inBlock_exit, then_exit]
    exact part2 _ rfl
  have e4 : decide (i < l.length) = true := decide_eq_true hil
  have hiw := inc64' hil (by omega)
  have hg := sps_get hil
  generalize l[i] = s at hg
  rw [spav] at hg
  have e5 : decide (s = s) = true := decide_eq_true rfl
  refine T.seq_k (fun K_h0 h0 => ?_)
  refine T.regi hm ?_
  simp only [↓reduceIte, namesOf, List.any, I.names, aops, aopsI, aopsT, qstep, CPt, qget, Tbl.get, astep, ev, setd, List.set, List.getD, List.getElem?_cons_zero, List.getElem?_cons_succ, List.getElem?_nil, List.cons_append, List.nil_append, List.length_cons, List.length_nil, List.replicate, then_normal, inBlock_normal, Option.getD_some, Option.getD_none, Bool.or_false, Bool.or_true, Bool.true_or, Bool.false_or, Bool.false_eq_true, if_false, if_true, up_zero, Nat.reduceAdd, Nat.reduceSub, binv, ↓opt_def, AV.isAny, AV.cells, ldc, List.map_cons, List.map_nil, St.set_next, St.set_same, St.up_next, Int.natCast_nonneg, lt_len, le_len, Int.toNat_natCast, true_and, and_true, eq_self, reduceCtorEq, decide_true, List.length_singleton, er_int, er_bool, er_str, sps_len, e4]
  refine h0 _ _ ?_
  try clear h0 K_h0
  refine T.cond rfl (fun _ => T.skip ?_) (fun h => by cases h)
  refine h2 _ _ ?_
  try clear h2 K_h2
  refine T.seq_k (fun K_h2 h2 => ?_)
  refine T.block ?_
  refine T.seq_k (fun K_h3 h3 => ?_)
  refine T.regt hm (tbl := []) Tbl.ok_nil ?_
  refine aopsT_cut 9 (fun K_c h_c => ?_)
  try simp only [↓reduceIte, namesOf, List.any, I.names, aops, aopsI, aopsT, qstep, CPt, qget, Tbl.get, astep, ev, setd, List.set, List.getD, List.getElem?_cons_zero, List.getElem?_cons_succ, List.getElem?_nil, List.cons_append, List.nil_append, List.length_cons, List.length_nil, List.replicate, then_normal, inBlock_normal, Option.getD_some, Option.getD_none, Bool.or_false, Bool.or_true, Bool.true_or, Bool.false_or, Bool.false_eq_true, if_false, if_true, up_zero, Nat.reduceAdd, Nat.reduceSub, binv, ↓opt_def, AV.isAny, AV.cells, ldc, List.map_cons, List.map_nil, St.set_next, St.set_same, St.up_next, Int.natCast_nonneg, lt_len, le_len, Int.toNat_natCast, true_and, and_true, eq_self, reduceCtorEq, decide_true, List.length_singleton, er_int, er_bool, er_str, List.take_succ_cons, List.take_zero, sps_len, hg, hil, AV.fits, AV.one, List.all_cons, List.all_nil, Nat.reduceBEq, Bool.and_true, Bool.not_false, Bool.and_self, Nat.zero_add, splice, List.take, List.drop, Nat.reduceLeDiff]
  refine ⟨_, ssame_ok (a := s) (b := s), ?_⟩
  refine h_c _ _ ?_
  clear h_c K_c
  simp only [List.drop_succ_cons, List.drop_zero, Nat.zero_add, Nat.reduceAdd]
  try simp only [↓reduceIte, namesOf, List.any, I.names, aops, aopsI, aopsT, qstep, CPt, qget, Tbl.get, astep, ev, setd, List.set, List.getD, List.getElem?_cons_zero, List.getElem?_cons_succ, List.getElem?_nil, List.cons_append, List.nil_append, List.length_cons, List.length_nil, List.replicate, then_normal, inBlock_normal, Option.getD_some, Option.getD_none, Bool.or_false, Bool.or_true, Bool.true_or, Bool.false_or, Bool.false_eq_true, if_false, if_true, up_zero, Nat.reduceAdd, Nat.reduceSub, binv, ↓opt_def, AV.isAny, AV.cells, ldc, List.map_cons, List.map_nil, St.set_next, St.set_same, St.up_next, Int.natCast_nonneg, lt_len, le_len, Int.toNat_natCast, true_and, and_true, eq_self, reduceCtorEq, decide_true, List.length_singleton, er_int, er_bool, er_str, e5, Bool.not_true]
  refine h3 _ _ ?_
  try clear h3 K_h3
  refine T.cond rfl (fun h => by cases h) (fun _ => T.skip ?_)
  refine h2 _ _ ?_
  try clear h2 K_h2
  refine T.regi hm ?_
  simp only [↓reduceIte, namesOf, List.any, I.names, aops, aopsI, aopsT, qstep, CPt, qget, Tbl.get, astep, ev, setd, List.set, List.getD, List.getElem?_cons_zero, List.getElem?_cons_succ, List.getElem?_nil, List.cons_append, List.nil_append, List.length_cons, List.length_nil, List.replicate, then_normal, inBlock_normal, Option.getD_some, Option.getD_none, Bool.or_false, Bool.or_true, Bool.true_or, Bool.false_or, Bool.false_eq_true, if_false, if_true, up_zero, Nat.reduceAdd, Nat.reduceSub, binv, ↓opt_def, AV.isAny, AV.cells, ldc, List.map_cons, List.map_nil, St.set_next, St.set_same, St.up_next, Int.natCast_nonneg, lt_len, le_len, Int.toNat_natCast, true_and, and_true, eq_self, reduceCtorEq, decide_true, List.length_singleton, er_int, er_bool, er_str, hiw]
  exact ⟨hil, _, _, Gh.keep [0, 1, 5, 9, 11], rfl, rfl⟩

end Go.VL

namespace Go.VL

open Go.Proofs

theorem bytes_of {P : Program} {n : Nat} {e : TypeId} (hu : P.underlying e = some (.int .u8)) : ∀ {ys : List AV}, (∀ y ∈ ys, HasE P (n + 1) e y) → ∃ l : List UInt8, ys = bytesAV l
  | [], _ => ⟨[], rfl⟩
  | y :: r, h => by
    obtain ⟨m, rfl, h1, h2⟩ := has_int hu (h y (by simp))
    obtain ⟨l, rfl⟩ := bytes_of hu (fun z hz => h z (List.mem_cons_of_mem _ hz))
    have h1' : 0 ≤ m := h1
    have h2' : m ≤ 255 := h2
    refine ⟨UInt8.ofNat m.toNat :: l, ?_⟩
    have : ((UInt8.ofNat m.toNat).toNat : Int) = m := by
      rw [UInt8.toNat_ofNat']; omega
    simp only [bytesAV, List.map_cons, this]

def fts (P : Program) (t : TypeId) : Option (List TypeId) := match P.underlying t with
  | some (.struct fs) => some (fs.toList.map (·.type))
  | _ => none

def HasTs (P : Program) (n : Nat) : List TypeId → List AV → Prop
  | [], xs => xs = []
  | t :: r, xs => ∃ ys zs, xs = ys ++ zs ∧ HasT P n t ys ∧ HasTs P n r zs

theorem hasTs_of {P : Program} {n : Nat} : ∀ {fs : List Field} {xs : List AV}, HasF P n fs xs → HasTs P n (fs.map (·.type)) xs
  | [], xs, h => by rw [hasF_nil] at h; exact h
  | f :: r, xs, h => by
    rw [hasF_cons] at h
    obtain ⟨ys, zs, e, h1, h2⟩ := h
    exact ⟨ys, zs, e, h1, hasTs_of h2⟩

theorem has_fields {P : Program} {n : Nat} {t : TypeId} {ts : List TypeId} {y : AV} (hf : fts P t = some ts) (h : HasE P (n + 1) t y) : ∃ zs, y = .agg zs ∧ HasTs P n ts zs := by
  unfold fts at hf
  split at hf
  · rename_i fs hu
    simp only [Option.some.injEq] at hf; subst hf
    rw [hasE_iff] at h
    obtain ⟨h1, h2, _⟩ := h
    obtain ⟨zs, rfl⟩ := h2 (by unfold isStruct; rw [hu])
    rw [hasT_succ, hu] at h1
    exact ⟨zs, rfl, hasTs_of h1⟩
  · cases hf

theorem hasT_int {P : Program} {n : Nat} {t : TypeId} {k : IntKind} {xs : List AV} (hu : P.underlying t = some (.int k)) (h : HasT P (n + 1) t xs) : ∃ m, xs = [.int k m] ∧ k.min ≤ m ∧ m ≤ k.max := by
  rw [hasT_succ, hu] at h; exact h

theorem hasT_slice {P : Program} {n : Nat} {t e : TypeId} {xs : List AV} (hu : P.underlying t = some (.slice e)) (h : HasT P (n + 1) t xs) : ∃ ys, xs = [.sl ys .none] ∧ ys.length ≤ maxLen ∧ ∀ y ∈ ys, HasE P n e y := by
  rw [hasT_succ, hu] at h; exact h

theorem maxLen_eq : maxLen = 9223372036854775807 := by decide

theorem u64_nat {m : Int} (h1 : IntKind.u64.min ≤ m) (h2 : m ≤ IntKind.u64.max) : ∃ n : Nat, m = (n : Int) ∧ n < 18446744073709551616 := by
  have h1' : 0 ≤ m := h1
  have h2' : m ≤ 18446744073709551615 := h2
  exact ⟨m.toNat, by omega, by omega⟩

end Go.VL

namespace Go.Proofs.YthnjjiflfjegnaaDoor

open Go.RowKit Go.VL

theorem own : ownKnob Tryd.prog.godebug = none := by kernel_rfl

theorem laidOut : laidOutB Tryd.prog = true := by kernel_rfl

end Go.Proofs.YthnjjiflfjegnaaDoor

namespace Go.VL

open Go.Proofs

/-- a span whose numbers fit -/
def Sp.ok (s : Sp) : Prop := s.tr < 18446744073709551616 ∧ s.id < 18446744073709551616 ∧ (-9223372036854775808 ≤ s.st ∧ s.st ≤ 9223372036854775807) ∧ (-9223372036854775808 ≤ s.en ∧ s.en ≤ 9223372036854775807) ∧ s.da.length ≤ 9223372036854775807

def Tc.ok (t : Tc) : Prop := t.id < 18446744073709551616 ∧ t.sp.length ≤ 9223372036854775807 ∧ ∀ s ∈ t.sp, s.ok

/-- the numbers of the types of spans -/
structure Types1 (P : Program) where
  u64 : TypeId
  i64 : TypeId
  bs : TypeId
  u8 : TypeId
  span : TypeId
  spans : TypeId
  h1 : P.underlying u64 = some (.int .u64)
  h2 : P.underlying i64 = some (.int .i64)
  h3 : P.underlying bs = some (.slice u8)
  h4 : P.underlying u8 = some (.int .u8)
  h5 : fts P span = some [u64, u64, i64, i64, bs]
  h6 : P.underlying spans = some (.slice span)

theorem span_of1 {P : Program} (T : Types1 P) {n : Nat} {y : AV} (h : HasE P (n + 3) T.span y) : ∃ s : Sp, y = s.av ∧ s.ok := by
  obtain ⟨zs, hy, hf⟩ := has_fields T.h5 h
  clear h
  subst hy
  have h := hf
  clear hf
  obtain ⟨y1, z1, rfl, k1, h⟩ := h
  obtain ⟨y2, z2, rfl, k2, h⟩ := h
  obtain ⟨y3, z3, rfl, k3, h⟩ := h
  obtain ⟨y4, z4, rfl, k4, h⟩ := h
  obtain ⟨y5, z5, rfl, k5, h⟩ := h
  have hz : z5 = [] := h
  subst hz
  obtain ⟨m1, rfl, a1, b1⟩ := hasT_int T.h1 k1
  obtain ⟨m2, rfl, a2, b2⟩ := hasT_int T.h1 k2
  obtain ⟨m3, rfl, a3, b3⟩ := hasT_int T.h2 k3
  obtain ⟨m4, rfl, a4, b4⟩ := hasT_int T.h2 k4
  obtain ⟨ys, rfl, hl, k5⟩ := hasT_slice T.h3 k5
  obtain ⟨da, rfl⟩ := bytes_of T.h4 k5
  obtain ⟨n1, rfl, c1⟩ := u64_nat a1 b1
  obtain ⟨n2, rfl, c2⟩ := u64_nat a2 b2
  rw [maxLen_eq, bytesAV_len] at hl
  exact ⟨⟨n1, n2, m3, m4, da⟩, rfl, c1, c2, ⟨a3, b3⟩, ⟨a4, b4⟩, hl⟩

theorem spans_of1 {P : Program} (T : Types1 P) {n : Nat} : ∀ {ys : List AV}, (∀ y ∈ ys, HasE P (n + 3) T.span y) → ∃ l : List Sp, ys = spsAV l ∧ ∀ s ∈ l, s.ok
  | [], _ => ⟨[], rfl, fun _ h => by cases h⟩
  | y :: r, h => by
    obtain ⟨s, rfl, hs⟩ := span_of1 T (h y (by simp))
    obtain ⟨l, rfl, hl⟩ := spans_of1 T (fun z hz => h z (List.mem_cons_of_mem _ hz))
    exact ⟨s :: l, rfl, fun x hx => by rcases List.mem_cons.1 hx with rfl | hx; exact hs; exact hl x hx⟩

end Go.VL

namespace Go.Proofs.YthnjjiflfjegnaaDoor

open Go.ChangeShapes Go.WideShapes Go.ChangeAt Go.RowKit Go.VL

def laidE : List (String × DataW Unit) := [("errors.errorType", Rows.laid_errors_errorType)]

theorem et_at : Tryd.prog.globalNamed "errors.errorType" = some 0 := by kernel_rfl

theorem rt_at : (Tryd.prog.cutTypes.find? (·.1 == "internal/reflectlite.rtype")).map (·.2) = some 95 := by kernel_rfl

theorem one_row : ((List.range 139).filter fun t => Tryd.prog.rowNamed t [101, 114, 114, 111, 114]) = [27] := by kernel_rfl

theorem types_size : Tryd.prog.types.size = 139 := by kernel_rfl

/-- WHAT THE CONDITION GIVES: the variable's one cell. -/
theorem handle_of_laid {W : World} (h : laidMetH Tryd.prog laidE W) : W.cell? ⟨0, 0, none⟩ = some hvE := by
  have h' : laidMet Tryd.prog [] W ∧ handlesMet Tryd.prog laidE W := h
  obtain ⟨name, u, ty, e1, e2, e3, e4, e5⟩ := h'.2 _ (List.mem_singleton.2 rfl)
  have en : name = [101, 114, 114, 111, 114] := (Option.some.inj e1).symm
  subst en
  obtain rfl := Option.some.inj (rt_at.symm.trans e2)
  have hm : ty ∈ (List.range 139).filter fun t => Tryd.prog.rowNamed t [101, 114, 114, 111, 114] := List.mem_filter.2 ⟨List.mem_range.2 (by rw [← types_size]; exact e3), e4⟩
  rw [one_row] at hm
  obtain rfl := List.mem_singleton.1 hm
  have hh : typeHandle Tryd.prog 27 = .pointer (some ⟨1, 27, none⟩) := by kernel_rfl
  rw [hh] at e5
  simpa [hvE] using World.var?_cell et_at e5 0

/-- A world that meets the condition: the settled one, the variable's cell laid. -/
noncomputable def laidWorld (os : Os) : World :=
  let w0 := World.holding Tryd.prog os ⟨#[], #[], []⟩
  { w0 with heap := w0.heap.modify 0 fun
      | .cells _ t frozen => .cells #[hvE] t frozen
      | o => o }

theorem laidWorld_met (os : Os) (args : Array Value) : laidMetH Tryd.prog laidE ((laidWorld os).forCall (fun _ _ => 0) ⟨#[], args, []⟩).memory :=
  laidMetH_of_parts (laidMet_nil _ _) (by kernel_rfl)

end Go.Proofs.YthnjjiflfjegnaaDoor

namespace Go.VL

open Go.Proofs

set_option maxRecDepth 100000 in
def tys1 : Types1 Tryd.prog := ⟨31, 2, 25, 5, 33, 22, by kernel_rfl, by kernel_rfl, by kernel_rfl, by kernel_rfl, by kernel_rfl, by kernel_rfl⟩

end Go.VL

namespace Go.Proofs.YthnjjiflfjegnaaDoor

open Go.ChangeShapes Go.WideShapes Go.ChangeAt Go.RowKit Go.VL

set_option maxRecDepth 100000 in
theorem spanBack_lifted (os : Os) (started : os.Started) (H : Type) (enc : TypeId × Value → H) :
    ReturnsInHanded {} Tryd.checked os n_spanBack .any (fun w args => (Rows.spanBackSpec.pre enc Tryd.prog Tryd.f5 [] false w args ∧ laidMetH Tryd.prog laidE w) ∧ sizedMet enc Tryd.prog Tryd.f5 (OpenSpec.ofChange Rows.spanBackSpec) false w args)
      (Rows.spanBackSpec.post enc Tryd.prog Tryd.f5 false true false false) := by
  refine returnsInHanded_of_change_and (C := Tryd.checked) (X := fun w _ => laidMetH Tryd.prog laidE w) (fun _ _ _ hh h => h.of_heap hh) own started (by kernel_rfl) Tryd.func5
    (ChangeSpec.witness_at (enc := enc) (C := Tryd.checked) (os := os) (X := fun w _ => laidMetH Tryd.prog laidE w) false (laidWorld os) #[.slice none 0 0, .slice none 0 0] 8 rfl (by kernel_rfl) (by kernel_rfl) (by kernel_rfl) (by kernel_rfl) (by kernel_rfl) (laidWorld_met os _)) ?_
  intro W base args ds gs before hval0 hW _ _ hL _
  refine law_calls_glob 4 (hv := hvE) (tb := 4) laidOut (by kernel_rfl) rfl (by kernel_rfl) (by kernel_rfl) (fun ds hds => ?_) (fun xs hxs => ?_) hval0 hW (handle_of_laid hL)
  · match ds, hds with
    | [_d1, _d2], _ => rfl
  · have hxs' : HasAll Tryd.prog 4 [_, _] xs := hxs
    have hG := σG_at hvE
    cases hxs' with
    | cons h1 r1 =>
    cases r1 with
    | cons h2 r2 =>
    cases r2
    obtain ⟨ys, rfl, hlen, h1⟩ := has_slice tys1.h6 h1
    obtain ⟨l, rfl, hl⟩ := spans_of1 tys1 h1
    obtain ⟨zs, rfl, _, h2⟩ := has_slice tys1.h3 h2
    obtain ⟨b, rfl⟩ := bytes_of tys1.h4 h2
    rw [maxLen_eq, sps_len] at hlen
    exact (spanBack_ok hG hlen (fun s hs => (hl s hs).2.2.2.2) (fun s hs => ⟨(hl s hs).1, (hl s hs).2.1⟩)).mono fun v _ ⟨e, _⟩ => e

theorem spanBack_holds : Rows.SpanBackSaid :=
  OpenClaim.holds_of_wide n_spanBack Tryd.f5 rfl rfl rfl rfl rfl rfl rfl ⟨rfl, rfl, rfl, rfl, rfl⟩ rfl rfl rfl rfl rfl (by kernel_rfl) Tryd.func5 (by kernel_rfl)
    (of_decide_eq_true (by kernel_rfl)) (by unfold Func.isWrapper; first | (rw [if_pos (by decide +kernel)]; kernel_rfl) | (rw [if_neg (by decide +kernel)]; exact ⟨rfl, rfl⟩))
    (fun os started H enc _ => spanBack_lifted os started H enc)

theorem spanBack_card : Rows.SpanBackCardSaid :=
  Claim7.holds_tied_plain_at .later [] [.handle] true Rows.spanBackCard.stood.harness true
    spanBack_holds (fun _ h => by cases h) (by kernel_rfl) (fun _ h => by cases h) spanBack_row_tie rfl ⟨rfl, rfl⟩ (by kernel_rfl) rfl
    (fun f fn hf hfn => by
      obtain rfl : f = 5 := Option.some.inj ((show Tryd.prog.funcNamed Rows.spanBackRow.func = some 5 by kernel_rfl).symm.trans hf) |>.symm
      obtain rfl : fn = Tryd.f5 := (Option.some.inj (Tryd.func5.symm.trans hfn)).symm
      refine ⟨by kernel_rfl, fun j t ht => ?_⟩
      have hm : t ∈ Tryd.f5.params.toList := by simpa using Array.mem_of_getElem? ht
      have hall : (Tryd.f5.params.toList.all fun u => !Tryd.prog.wantsStandIn u) = true := by kernel_rfl
      exact (show Tryd.prog.wantsStandIn t = false by simpa using List.all_eq_true.1 hall t hm))
    (by kernel_rfl)

end Go.Proofs.YthnjjiflfjegnaaDoor
