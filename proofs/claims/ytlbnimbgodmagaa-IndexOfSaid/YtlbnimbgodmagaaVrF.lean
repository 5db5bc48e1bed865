/- The plain law of IndexFinds: what is put is got, and each trace's page is found. -/
import Derived.Test.YtlbnimbgodmagaaVrE
namespace Go.VL
open Go.Proofs

theorem numB_app (a b : List UInt8) : numB (a ++ b) = b.foldl (fun n b => 256 * n + b.toNat) (numB a) := by unfold numB; rw [List.foldl_append]
theorem numB_beB : ∀ (w n : Nat), n < 256 ^ w → numB (beB w n) = n
  | 0, n, h => by simp at h; subst h; rfl
  | w + 1, n, h => by
    have h1 : n / 256 < 256 ^ w := by rw [Nat.pow_succ] at h; omega
    simp only [beB, numB_app, numB_beB w (n / 256) h1, List.foldl_cons, List.foldl_nil]
    rw [UInt8.toNat_ofNat']
    omega
theorem runB_app (a b : List Nat) : runB (a ++ b) = runB a ++ runB b := by unfold runB; rw [List.flatMap_append]
theorem words_run (l : List Nat) (h : List UInt8) (hh : h.length = 2) (hb : ∀ n ∈ l, n < 18446744073709551616) : wordsB (h ++ runB l) l.length = l := by
  apply List.ext_getElem
  · simp [wordsB]
  · intro i h1 h2
    simp only [wordsB, List.getElem_map, List.getElem_range]
    have hd : ((h ++ runB l).drop (2 + 8 * i)).take 8 = beB 8 l[i] := by
      have e1 : (h ++ runB l).drop (2 + 8 * i) = (runB l).drop (8 * i) := by
        rw [List.drop_append, hh, List.drop_eq_nil_of_le (by omega), List.nil_append]; congr 1; omega
      have e2 : l = l.take i ++ l[i] :: l.drop (i + 1) := by simp
      have e3 : runB l = runB (l.take i) ++ (beB 8 l[i] ++ runB (l.drop (i + 1))) := by
        conv => lhs; rw [e2, runB_app]
        rfl
      rw [e1, e3]
      have hlen : (runB (l.take i)).length = 8 * i := by rw [runB_len, List.length_take, Nat.min_eq_left (by omega)]
      rw [← hlen, List.drop_left]
      exact List.take_left' (beB_len 8 _)
    rw [hd]
    exact numB_beB 8 _ (hb _ (List.getElem_mem h2))

theorem open_seal (b : List UInt8) : openB (sealB b) = (0, b) := by
  unfold openB
  have h1 : (sealB b).take ((sealB b).length - 4) = b := by
    rw [sealB_len, Nat.add_sub_cancel]; unfold sealB; exact List.take_left
  rw [if_neg (by rw [sealB_len]; omega), h1, if_pos rfl]

theorem indexed_index (l : List Nat) (hb : ∀ n ∈ l, n < 18446744073709551616) (hr : risesB (natI l) = true) : indexedB (sealB (indexB l)) = (0, l) := by
  have h200 : l.length ≤ 200 := by have := risesB_len hr; rwa [natI_len] at this
  have h2 : (beB 2 l.length).length = 2 := beB_len 2 _
  have ht : (indexB l).take 2 = beB 2 l.length := by
    unfold indexB; conv => lhs; rw [← h2]
    exact List.take_left
  have hlen : (indexB l).length = 2 + 8 * l.length := by unfold indexB; rw [List.length_append, h2, runB_len]
  have hn : numB (beB 2 l.length) = l.length := numB_beB 2 _ (by omega)
  have hw : wordsB (indexB l) l.length = l := words_run l _ h2 hb
  unfold indexedB
  rw [open_seal]
  simp only [ne_eq, not_true_eq_false, if_false]
  rw [if_neg (by omega), ht, hn, if_neg (by omega), hw, if_pos hr]

theorem is_pair {l : List Tc} (h : isB l = true) : l.Pairwise (fun a b => a.id < b.id) := by
  have step : ∀ i (hi : i + 1 < l.length), l[i].id < l[i + 1].id := by
    intro i hi
    have := List.all_eq_true.1 h (i + 1) (by simpa using hi)
    unfold isAt at this
    have e1 : l[i + 1]? = some l[i + 1] := by simp [hi]
    have e2 : l[i]? = some (l[i]'(by omega)) := by simp [show i < l.length by omega]
    rw [e1] at this
    simp only [Nat.add_sub_cancel, e2, Bool.and_eq_true, Bool.or_eq_true, decide_eq_true_eq] at this
    rcases this.2 with h' | h'
    · simp at h'
    · exact h'
  rw [List.pairwise_iff_getElem]
  intro i j hi hj hij
  induction j with
  | zero => omega
  | succ j ih =>
    by_cases hx : i = j
    · subst hx; exact step i hj
    · exact Nat.lt_trans (ih (by omega) (by omega)) (step j hj)

theorem firsts_get {l : List (List Tc)} {i : Nat} (h : i < l.length) : (firsts l)[i]'(by simpa [firsts] using h) = (l[i].headD ⟨0, []⟩).id := by simp [firsts]

theorem head_le {p : List Tc} (hp : p.Pairwise (fun a b => a.id < b.id)) (hne : p ≠ []) (k : Nat) (hk : k < p.length) : (p.headD ⟨0, []⟩).id ≤ p[k].id := by
  cases p with
  | nil => exact absurd rfl hne
  | cons t r =>
    rw [List.headD_cons]
    cases k with
    | zero => exact Nat.le_refl _
    | succ k => exact Nat.le_of_lt ((List.pairwise_cons.1 hp).1 _ (List.getElem_mem (by simpa using hk)))
/-- what a good row of pages tells -/
theorem of_facts {l : List (List Tc)} (h : ofB l = true) : l.length ≤ 200 ∧ (∀ i (hi : i < l.length), l[i] ≠ []) ∧
    (∀ i (hi : i < l.length) k (hk : k < l[i].length), (firsts l)[i]'(by simpa [firsts] using hi) ≤ l[i][k].id) ∧
    (∀ i j (hi : i < l.length) (hj : j < l.length) k (hk : k < l[i].length), i < j → l[i][k].id < (firsts l)[j]'(by simpa [firsts] using hj)) := by
  unfold ofB at h
  simp only [Bool.and_eq_true, decide_eq_true_eq] at h
  obtain ⟨⟨h1, h2⟩, h3⟩ := h
  have hp := is_pair h3
  rw [List.pairwise_flatten] at hp
  have hne : ∀ i (hi : i < l.length), l[i] ≠ [] := by
    intro i hi hnil
    have := List.all_eq_true.1 h1 _ (List.getElem_mem hi)
    rw [hnil] at this; cases this
  refine ⟨h2, hne, fun i hi k hk => ?_, fun i j hi hj k hk hij => ?_⟩
  · rw [firsts_get hi]
    exact head_le (hp.1 _ (List.getElem_mem hi)) (hne i hi) k hk
  · rw [firsts_get hj]
    have hpij := List.pairwise_iff_getElem.1 hp.2 i j hi hj hij
    cases hx : l[j] with
    | nil => exact absurd hx (hne j hj)
    | cons t r =>
      rw [List.headD_cons]
      exact hpij _ (List.getElem_mem hk) t (by rw [hx]; simp)

theorem firsts_len (l : List (List Tc)) : (firsts l).length = l.length := by simp [firsts]
theorem firsts_up {l : List (List Tc)} (h : ofB l = true) : risesB (natI (firsts l)) = true := by
  obtain ⟨h200, hne, h1, h2⟩ := of_facts h
  have hup : Up (natI (firsts l)) := by
    intro i hi
    have hn : (natI (firsts l)).length = l.length := by rw [natI_len, firsts_len]
    have hil : i < l.length := by omega
    have hjl : i + 1 < l.length := by omega
    have h0 : 0 < l[i].length := List.length_pos_iff.2 (hne i hil)
    have h3 := h1 i hil 0 h0
    have h4 := h2 i (i + 1) hil hjl 0 h0 (Nat.lt_succ_self i)
    have e1 : (natI (firsts l))[i]'(by omega) = ((firsts l)[i]'(by rw [firsts_len]; exact hil) : Int) := by simp [natI]
    have e2 : (natI (firsts l))[i + 1]'(by omega) = ((firsts l)[i + 1]'(by rw [firsts_len]; exact hjl) : Int) := by simp [natI]
    rw [e1, e2]
    omega
  rw [risesB_up hup, natI_len, firsts_len]
  exact decide_eq_true h200

/-- the number that finding tells -/
theorem find_page {l : List (List Tc)} (h : ofB l = true) {i k : Nat} (hi : i < l.length) (hk : k < l[i].length) {c : Nat} (hc : c ≤ (natI (firsts l)).length)
    (hlo : ∀ (_ : c ≤ (natI (firsts l)).length) (h0 : 0 < c), (natI (firsts l))[c - 1]'(by omega) ≤ (l[i][k].id : Int)) (hhi : ∀ h : c < (natI (firsts l)).length, (natI (firsts l))[c] > (l[i][k].id : Int)) : c = i + 1 := by
  obtain ⟨h200, hne, h1, h2⟩ := of_facts h
  have hn : (natI (firsts l)).length = l.length := by rw [natI_len, firsts_len]
  have hget : ∀ j (hj : j < l.length), (natI (firsts l))[j]'(by omega) = ((firsts l)[j]'(by rw [firsts_len]; exact hj) : Int) := by
    intro j hj; simp [natI]
  have hmono : ∀ a b (ha : a < l.length) (hb : b < l.length), a < b → (firsts l)[a]'(by rw [firsts_len]; exact ha) < (firsts l)[b]'(by rw [firsts_len]; exact hb) := by
    intro a b ha hb hab
    have h0 : 0 < l[a].length := List.length_pos_iff.2 (hne a ha)
    exact Nat.lt_of_le_of_lt (h1 a ha 0 h0) (h2 a b ha hb 0 h0 hab)
  have hle := h1 i hi k hk
  rcases Nat.lt_trichotomy c (i + 1) with hlt | heq | hgt
  · exfalso
    have hcl : c < l.length := by omega
    have := hhi (by omega)
    rw [hget c hcl] at this
    by_cases hci : c = i
    · subst hci; omega
    · have := hmono c i hcl hi (by omega); omega
  · exact heq
  · exfalso
    have hcl : c - 1 < l.length := by omega
    have := hlo hc (by omega)
    rw [hget (c - 1) hcl] at this
    have h3 := h2 i (c - 1) hi hcl k hk (by omega)
    omega
end Go.VL
