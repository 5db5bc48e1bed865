/- The plain law of gathering: what is gathered of spans of one trace is they themselves just if they stand in order, and no Id is there twice. -/
import Derived.Test.YtlbnimbgodmagaaVrD
namespace Go.VL

/-- does a span stand ahead of another one? -/
def aheadS (a b : Sp) : Bool := if a.st ≠ b.st then decide (a.st < b.st) else if a.id ≠ b.id then decide (a.id < b.id) else decide (a.tr < b.tr)
/-- of two of one Trace and one Id: is the first one the lesser one? -/
def lessS (a b : Sp) : Bool := if a.st ≠ b.st then decide (a.st < b.st) else if a.en ≠ b.en then decide (a.en < b.en) else Op.bytesLess a.da b.da
/-- does a span of l count? -/
def outAt (l : List Sp) (x : Sp) (i k : Nat) : Bool := match l[k]? with
  | some y => decide (y.tr = x.tr) && decide (y.id = x.id) && (lessS y x || (decide (y = x) && decide (k < i)))
  | none => false
def countsB (l : List Sp) (i : Nat) : Bool := match l[i]? with
  | some x => (List.range l.length).all fun k => !outAt l x i k
  | none => false
def lastAt (out : List Sp) (x : Sp) : Nat → Nat
  | 0 => 0
  | k + 1 => match out[k]? with
    | some y => if aheadS y x then k + 1 else lastAt out x k
    | none => lastAt out x k
def insS (out : List Sp) (x : Sp) : List Sp := out.take (lastAt out x out.length) ++ [x] ++ out.drop (lastAt out x out.length)
/-- what is gathered of the first n -/
def gatherN (l : List Sp) : Nat → List Sp
  | 0 => []
  | n + 1 => match l[n]? with
    | some x => if countsB l n then insS (gatherN l n) x else gatherN l n
    | none => gatherN l n
def gatherL (l : List Sp) : List Sp := gatherN l l.length

theorem ahead_irr (a : Sp) : aheadS a a = false := by unfold aheadS; simp
theorem ahead_trans {a b c : Sp} (h : aheadS a b = true) (k : aheadS b c = true) : aheadS a c = true := by
  unfold aheadS at *
  by_cases h1 : a.st = b.st
  · by_cases h2 : b.st = c.st
    · by_cases h3 : a.id = b.id
      · by_cases h4 : b.id = c.id
        · simp only [h1, h2, h3, h4, ne_eq, not_true_eq_false, if_false, decide_eq_true_eq] at h k ⊢; omega
        · simp only [h1, h2, h3, h4, ne_eq, not_true_eq_false, not_false_eq_true, if_false, if_true, decide_eq_true_eq] at h k ⊢; omega
      · by_cases h4 : b.id = c.id
        · simp only [h1, h2, ← h4, h3, ne_eq, not_true_eq_false, not_false_eq_true, if_false, if_true, decide_eq_true_eq] at h k ⊢; omega
        · have h5 : a.id ≠ c.id := by
            simp only [h1, h2, h3, h4, ne_eq, not_true_eq_false, not_false_eq_true, if_false, if_true, decide_eq_true_eq] at h k; omega
          simp only [h1, h2, h3, h4, h5, ne_eq, not_true_eq_false, not_false_eq_true, if_false, if_true, decide_eq_true_eq] at h k ⊢; omega
    · simp only [h1, h2, ne_eq, not_false_eq_true, if_true, decide_eq_true_eq] at k ⊢; exact k
  · by_cases h2 : b.st = c.st
    · simp only [← h2, h1, ne_eq, not_false_eq_true, if_true, decide_eq_true_eq] at h ⊢; exact h
    · have h3 : a.st ≠ c.st := by
        simp only [h1, h2, ne_eq, not_false_eq_true, if_true, decide_eq_true_eq] at h k; omega
      simp only [h1, h2, h3, ne_eq, not_false_eq_true, if_true, decide_eq_true_eq] at h k ⊢; omega
theorem ahead_total {a b : Sp} (h : a.id ≠ b.id) : aheadS a b = true ∨ aheadS b a = true := by
  unfold aheadS
  by_cases h1 : a.st = b.st
  · have h2 : b.id ≠ a.id := fun e => h e.symm
    simp only [h1, h, h2, ne_eq, not_true_eq_false, not_false_eq_true, if_false, if_true, decide_eq_true_eq]; omega
  · have h2 : b.st ≠ a.st := fun e => h1 e.symm
    simp only [h1, h2, ne_eq, not_false_eq_true, if_true, decide_eq_true_eq]; omega

theorem bytes_irr : ∀ a : List UInt8, Op.bytesLess a a = false
  | [] => by simp [Op.bytesLess]
  | x :: r => by simp [Op.bytesLess, bytes_irr r]
theorem bytes_total : ∀ a b : List UInt8, Op.bytesLess a b = false → Op.bytesLess b a = false → a = b
  | [], [], _, _ => rfl
  | [], _ :: _, h, _ => by simp [Op.bytesLess] at h
  | _ :: _, [], _, h => by simp [Op.bytesLess] at h
  | x :: r, y :: s, h, k => by
    simp only [Op.bytesLess, Bool.or_eq_false_iff, Bool.and_eq_false_iff, decide_eq_false_iff_not, beq_eq_false_iff_ne] at h k
    by_cases hxy : x = y
    · subst hxy
      rw [bytes_total r s (by simpa using h.2) (by simpa using k.2)]
    · exfalso
      have h1 := h.1
      have k1 := k.1
      have : x.toNat ≠ y.toNat := fun e => hxy (UInt8.toNat_inj.1 e)
      rw [UInt8.lt_iff_toNat_lt] at h1 k1
      omega
theorem less_irr (a : Sp) : lessS a a = false := by unfold lessS; simp [bytes_irr]
theorem less_total {a b : Sp} (ht : a.tr = b.tr) (hi : a.id = b.id) (h : lessS a b = false) (k : lessS b a = false) : a = b := by
  unfold lessS at h k
  by_cases h1 : a.st = b.st
  · by_cases h2 : a.en = b.en
    · simp only [h1, h2, ne_eq, not_true_eq_false, if_false] at h k
      have h3 := bytes_total _ _ h k
      obtain ⟨a1, a2, a3, a4, a5⟩ := a
      obtain ⟨b1, b2, b3, b4, b5⟩ := b
      simp only at *
      subst ht hi h1 h2 h3; rfl
    · have h3 : b.en ≠ a.en := fun e => h2 e.symm
      simp only [h1, h2, h3, ne_eq, not_true_eq_false, not_false_eq_true, if_false, if_true, decide_eq_false_iff_not] at h k; omega
  · have h3 : b.st ≠ a.st := fun e => h1 e.symm
    simp only [h1, h3, ne_eq, not_false_eq_true, if_true, decide_eq_false_iff_not] at h k; omega

theorem lastAt_le (out : List Sp) (x : Sp) : ∀ k, lastAt out x k ≤ k
  | 0 => Nat.le_refl _
  | k + 1 => by
    have := lastAt_le out x k
    unfold lastAt
    split
    · split <;> omega
    · omega
/-- all behind the last one ahead are not ahead -/
theorem lastAt_no (out : List Sp) (x : Sp) : ∀ k j (hj : j < out.length), lastAt out x k ≤ j → j < k → aheadS out[j] x = false
  | 0, j, _, _, h => by omega
  | k + 1, j, hj, h, hjk => by
    unfold lastAt at h
    split at h
    · rename_i y hy
      split at h
      · omega
      · rename_i hy2
        by_cases hx : j = k
        · subst hx
          have : out[j] = y := by simpa [hj] using hy
          rw [this]; simpa using hy2
        · exact lastAt_no out x k j hj h (by omega)
    · rename_i hy
      have : k ≥ out.length := by simpa using hy
      exact lastAt_no out x k j hj h (by omega)
/-- the last one ahead is ahead -/
theorem lastAt_is (out : List Sp) (x : Sp) : ∀ k, k ≤ out.length → 0 < lastAt out x k → ∃ j, ∃ h : j < out.length, lastAt out x k = j + 1 ∧ aheadS out[j] x = true
  | 0, _, h => by simp [lastAt] at h
  | k + 1, hk, h => by
    unfold lastAt at h ⊢
    have hkl : k < out.length := by omega
    have e : out[k]? = some out[k] := by simp [hkl]
    rw [e] at h ⊢
    simp only at h ⊢
    split at h
    · rename_i ha; rw [if_pos ha]; exact ⟨k, hkl, rfl, ha⟩
    · rename_i ha; rw [if_neg ha]; exact lastAt_is out x k (by omega) h

abbrev SortedS (l : List Sp) : Prop := l.Pairwise (fun a b => aheadS a b = true)

theorem ins_sorted {out : List Sp} {x : Sp} (hs : SortedS out) (hd : ∀ y ∈ out, y.id ≠ x.id) : SortedS (insS out x) := by
  have hle := lastAt_le out x out.length
  unfold insS
  have htake : ∀ y ∈ out.take (lastAt out x out.length), aheadS y x = true := by
    intro y hy
    rcases Nat.eq_zero_or_pos (lastAt out x out.length) with h0 | hpos
    · rw [h0] at hy; simp at hy
    · obtain ⟨j, hj, e, ha⟩ := lastAt_is out x out.length (Nat.le_refl _) hpos
      rw [e] at hy
      obtain ⟨m, hm⟩ := List.getElem?_of_mem hy
      rw [List.getElem?_take] at hm
      split at hm
      · rename_i hmj
        have hml : m < out.length := by omega
        have hy' : out[m] = y := by simpa [hml] using hm
        by_cases hx : m = j
        · subst hx; rw [← hy']; exact ha
        · rw [← hy']; exact ahead_trans (List.pairwise_iff_getElem.1 hs m j hml hj (by omega)) ha
      · cases hm
  have hdrop : ∀ y ∈ out.drop (lastAt out x out.length), aheadS x y = true := by
    intro y hy
    obtain ⟨m, hm⟩ := List.getElem?_of_mem hy
    rw [List.getElem?_drop] at hm
    have hml : lastAt out x out.length + m < out.length := (List.getElem?_eq_some_iff.1 hm).1
    have hy' : out[lastAt out x out.length + m] = y := (List.getElem?_eq_some_iff.1 hm).2
    have hno := lastAt_no out x out.length _ hml (by omega) hml
    rw [hy'] at hno
    rcases ahead_total (hd y (List.mem_of_mem_drop hy)) with h | h
    · rw [hno] at h; cases h
    · exact h
  rw [List.append_assoc]
  refine List.pairwise_append.2 ⟨hs.sublist (List.take_sublist _ _), ?_, fun a ha b hb => ?_⟩
  · exact List.pairwise_append.2 ⟨List.pairwise_singleton _ _, hs.sublist (List.drop_sublist _ _), fun a ha b hb => by simp only [List.mem_singleton] at ha; subst ha; exact hdrop b hb⟩
  · rcases List.mem_append.1 hb with hb | hb
    · simp only [List.mem_singleton] at hb; subst hb; exact htake a ha
    · have hsp : SortedS (out.take (lastAt out x out.length) ++ out.drop (lastAt out x out.length)) := by rw [List.take_append_drop]; exact hs
      exact (List.pairwise_append.1 hsp).2.2 a ha b hb
theorem ins_mem {out : List Sp} {x y : Sp} : y ∈ insS out x ↔ y = x ∨ y ∈ out := by
  have : y ∈ out ↔ y ∈ out.take (lastAt out x out.length) ∨ y ∈ out.drop (lastAt out x out.length) := by
    rw [← List.mem_append, List.take_append_drop]
  unfold insS
  simp only [List.mem_append, List.mem_singleton, this]
  constructor
  · rintro ((h | h) | h)
    · exact .inr (.inl h)
    · exact .inl h
    · exact .inr (.inr h)
  · rintro (h | h | h)
    · exact .inl (.inr h)
    · exact .inl (.inl h)
    · exact .inr h
theorem ins_len (out : List Sp) (x : Sp) : (insS out x).length = out.length + 1 := by
  have := lastAt_le out x out.length
  unfold insS; simp only [List.length_append, List.length_take, List.length_drop, List.length_singleton]; omega
/-- one that all others stand ahead of comes last -/
theorem ins_last {out : List Sp} {x : Sp} (h : ∀ y ∈ out, aheadS y x = true) : insS out x = out ++ [x] := by
  have e : lastAt out x out.length = out.length := by
    cases hn : out.length with
    | zero => rfl
    | succ n =>
      have hl : n < out.length := by omega
      unfold lastAt
      have e1 : out[n]? = some out[n] := by simp [hl]
      rw [e1]
      simp only
      rw [if_pos (h _ (List.getElem_mem hl))]
  unfold insS
  rw [e, List.take_length, List.drop_length, List.append_nil]

theorem gatherN_le (l : List Sp) : ∀ n, (gatherN l n).length ≤ n
  | 0 => Nat.le_refl _
  | n + 1 => by
    have := gatherN_le l n
    unfold gatherN
    split
    · split
      · rw [ins_len]; omega
      · omega
    · omega
theorem gatherN_all (l : List Sp) : ∀ n, n ≤ l.length → (gatherN l n).length = n → ∀ i, i < n → countsB l i = true
  | 0, _, _, i, hi => by omega
  | n + 1, hn, h, i, hi => by
    have hle := gatherN_le l n
    have hnl : n < l.length := by omega
    unfold gatherN at h
    have e : l[n]? = some l[n] := by simp [hnl]
    rw [e] at h
    simp only at h
    split at h
    · rename_i hc
      rw [ins_len] at h
      by_cases hx : i = n
      · subst hx; exact hc
      · exact gatherN_all l n (by omega) (by omega) i (by omega)
    · omega
theorem gatherN_mem (l : List Sp) : ∀ n, n ≤ l.length → ∀ y ∈ gatherN l n, ∃ j, ∃ h : j < l.length, j < n ∧ l[j] = y
  | 0, _, y, hy => by simp [gatherN] at hy
  | n + 1, hn, y, hy => by
    have hnl : n < l.length := by omega
    have e : l[n]? = some l[n] := by simp [hnl]
    unfold gatherN at hy
    rw [e] at hy
    simp only at hy
    split at hy
    · rcases ins_mem.1 hy with h | h
      · exact ⟨n, hnl, by omega, h.symm⟩
      · obtain ⟨j, h1, h2, h3⟩ := gatherN_mem l n (by omega) y h
        exact ⟨j, h1, by omega, h3⟩
    · obtain ⟨j, h1, h2, h3⟩ := gatherN_mem l n (by omega) y hy
      exact ⟨j, h1, by omega, h3⟩

/-- no Id is there twice -/
def IdsApart (l : List Sp) : Prop := ∀ i j (hi : i < l.length) (hj : j < l.length), i < j → l[i].id ≠ l[j].id

theorem counts_apart {l : List Sp} {t : Nat} (ht : ∀ s ∈ l, s.tr = t) (h : ∀ i, i < l.length → countsB l i = true) : IdsApart l := by
  intro i j hi hj hij he
  have key : ∀ a b (ha : a < l.length) (hb : b < l.length), outAt l l[a] a b = false := by
    intro a b ha hb
    have h1 := h a ha
    unfold countsB at h1
    have e : l[a]? = some l[a] := by simp [ha]
    rw [e] at h1
    have := List.all_eq_true.1 h1 b (by simpa using hb)
    simpa using this
  have h1 := key i j hi hj
  have h2 := key j i hj hi
  unfold outAt at h1 h2
  have ei : l[i]? = some l[i] := by simp [hi]
  have ej : l[j]? = some l[j] := by simp [hj]
  have htr : l[i].tr = l[j].tr := by rw [ht _ (List.getElem_mem hi), ht _ (List.getElem_mem hj)]
  rw [ej] at h1; rw [ei] at h2
  simp only [htr, he, decide_true, Bool.true_and, Bool.or_eq_false_iff] at h1 h2
  have heq := less_total htr he h2.1 h1.1
  have := h2.2
  simp [heq, hij] at this

theorem gather_id {l : List Sp} {t : Nat} (ht : ∀ s ∈ l, s.tr = t) : gatherL l = l ↔ IdsApart l ∧ SortedS l := by
  constructor
  · intro h
    have hall := gatherN_all l l.length (Nat.le_refl _) (by have : (gatherL l).length = l.length := by rw [h]
                                                            exact this)
    have hap := counts_apart ht hall
    refine ⟨hap, ?_⟩
    have : ∀ n, n ≤ l.length → SortedS (gatherN l n) := by
      intro n
      induction n with
      | zero => intro _; exact .nil
      | succ n ih =>
        intro hn
        have hnl : n < l.length := by omega
        have e : l[n]? = some l[n] := by simp [hnl]
        unfold gatherN
        rw [e]
        simp only
        rw [if_pos (hall n hnl)]
        refine ins_sorted (ih (by omega)) (fun y hy => ?_)
        obtain ⟨j, hj, hjn, rfl⟩ := gatherN_mem l n (by omega) y hy
        exact hap j n hj hnl hjn
    have := this l.length (Nat.le_refl _)
    rw [show gatherN l l.length = l from h] at this
    exact this
  · rintro ⟨hap, hs⟩
    have hc : ∀ i (hi : i < l.length), countsB l i = true := by
      intro i hi
      unfold countsB
      have e : l[i]? = some l[i] := by simp [hi]
      rw [e]
      simp only
      rw [List.all_eq_true]
      intro k hk
      have hkl : k < l.length := by simpa using hk
      unfold outAt
      have ek : l[k]? = some l[k] := by simp [hkl]
      rw [ek]
      simp only
      by_cases hx : k = i
      · subst hx; simp [less_irr]
      · have : l[k].id ≠ l[i].id := by
          rcases Nat.lt_or_gt_of_ne hx with hlt | hgt
          · exact hap k i hkl hi hlt
          · exact fun e => hap i k hi hkl hgt e.symm
        simp [this]
    have : ∀ n, n ≤ l.length → gatherN l n = l.take n := by
      intro n
      induction n with
      | zero => intro _; simp [gatherN]
      | succ n ih =>
        intro hn
        have hnl : n < l.length := by omega
        have e : l[n]? = some l[n] := by simp [hnl]
        unfold gatherN
        rw [e]
        simp only
        rw [if_pos (hc n hnl), ih (by omega), ins_last (fun y hy => ?_), List.take_succ_eq_append_getElem hnl]
        obtain ⟨m, hm⟩ := List.getElem?_of_mem hy
        rw [List.getElem?_take] at hm
        split at hm
        · rename_i hmn
          have hml : m < l.length := by omega
          have : l[m] = y := by simpa [hml] using hm
          rw [← this]; exact List.pairwise_iff_getElem.1 hs m n hml hnl hmn
        · cases hm
    unfold gatherL
    rw [this l.length (Nat.le_refl _), List.take_length]
end Go.VL
