/- Texts put together, of these what the theorem needs: The document's store (ref06): its values; names by bytes and by runes; what putting comes to. The compiled code of functions of this seat. MADE BY PROGRAM (mkc.py). Contracts: the document's store (ref06): Fail, Call, Named, At, Used. Contract: the document's store (ref06): Put. Contract: the document's store (ref06): Put, done. Digits of numbers, plain. Long texts that the code holds. MADE BY PROGRAM (strs.py). The compiled code of functions of this seat. MADE BY PROGRAM (mkc.py). Contracts: rows of bytes put together. Contracts: a filter is made; one bit is set, and asked for. Contracts: the document's filter: made, added to, asked. -/
import Derived.Test.YtnifkggcldalbaaDoorKExpireMarksCard3
import Derived.Test.YtnifkggcldalbaaDoorChecked

set_option linter.unusedSimpArgs false
set_option linter.unusedVariables false

namespace Go.VL

open Go.Proofs

/-- an object's cells -/
abbrev cR (e : ByteArray × List UInt8) : List AV := [.str e.1, .str ⟨e.2.toArray⟩]

theorem cR_len (e : ByteArray × List UInt8) : (cR e).length = 2 := rfl

def obAV (L : Objs) : List AV := L.map fun e => .agg (cR e)

theorem obAV_len (L : Objs) : (obAV L).length = L.length := by simp [obAV]

theorem ob_flat (L : Objs) : (obAV L).flatMap AV.cells = L.flatMap cR := by
  induction L with
  | nil => rfl
  | cons t l ih => simp only [obAV, List.map_cons, List.flatMap_cons] at ih ⊢; rw [ih]; rfl

theorem ob_fits (L : Objs) : (obAV L).all (AV.fits 2) = true := by
  induction L with
  | nil => rfl
  | cons t l ih => simp only [obAV, List.map_cons, List.all_cons] at ih ⊢; rw [ih]; rfl

theorem flatR_er (L : Objs) : (L.flatMap cR).map AV.er1 = L.flatMap cR := by
  induction L with
  | nil => rfl
  | cons t l ih => simp only [List.flatMap_cons, List.map_append, ih]; rfl

theorem flatR_one (L : Objs) : (L.flatMap cR).all AV.one = true := by
  induction L with
  | nil => rfl
  | cons t l ih => simp only [List.flatMap_cons, List.all_append, ih]; rfl

theorem chunkR (L : Objs) : (chunks 2 L.length (L.flatMap cR)).map AV.agg = obAV L := by
  induction L with
  | nil => rfl
  | cons t l ih =>
    have h1 : (cR t ++ l.flatMap cR).take 2 = cR t := by simp
    have h2 : (cR t ++ l.flatMap cR).drop 2 = l.flatMap cR := by simp
    simp only [List.length_cons, List.flatMap_cons, chunks, List.map_cons, h1, h2, ih]; rfl

theorem srcR_refr {t : St} {a m : Nat} {r : Objs} (hr : t.res a = some (.obj (r.flatMap cR))) (hm : m ≤ r.length) : srcC t 2 (.refr a 2 m) = some (obAV (r.take m)) := by
  have hl : (r.take m).length = m := by rw [List.length_take]; omega
  have he := chunkR (r.take m)
  rw [hl] at he
  simp only [srcC, hr, flatk_take cR_len, flatR_er, flatR_one, he]
  rw [if_pos ⟨trivial, by rw [flatk_len cR_len]; omega, trivial⟩]

theorem srcR_ref {t : St} {a p : Nat} {r : Objs} (hr : t.res a = some (.obj (r.flatMap cR))) (hp : p ≤ r.length) : srcC t 2 (.ref a (p * 2) (r.length - p)) = some (obAV (r.drop p)) := by
  have hl : (r.drop p).length = r.length - p := List.length_drop
  have he := chunkR (r.drop p)
  rw [hl] at he
  have ht : ((r.drop p).flatMap cR).take ((r.length - p) * 2) = (r.drop p).flatMap cR := List.take_of_length_le (by rw [flatk_len cR_len, hl]; exact Nat.le_refl _)
  simp only [srcC, hr, flatk_drop cR_len, ht, flatR_er, flatR_one, he]
  rw [if_pos ⟨by rw [flatk_len cR_len]; omega, trivial⟩]

theorem srcR_none {t : St} {a o m : Nat} : srcOf t 2 (.ref a o m) = none := by
  simp only [srcOf]
  split <;> simp

theorem srcR_none' {t : St} {a m : Nat} : srcOf t 2 (.refr a 2 m) = none := rfl

theorem cR_get0 : ∀ {L : Objs} {i : Nat} {e : ByteArray × List UInt8}, L[i]? = some e → (L.flatMap cR)[i * 2]? = some (.str e.1)
  | [], i, e, h => by simp at h
  | x :: r, 0, e, h => by simp only [List.getElem?_cons_zero, Option.some.injEq] at h; subst h; rfl
  | x :: r, i + 1, e, h => by
    rw [List.getElem?_cons_succ] at h
    have := cR_get0 h
    rw [List.flatMap_cons, show (i + 1) * 2 = (cR x).length + i * 2 by rw [cR_len]; omega, List.getElem?_append_right (by omega), Nat.add_sub_cancel_left]
    exact this

theorem cR_get1 : ∀ {L : Objs} {i : Nat} {e : ByteArray × List UInt8}, L[i]? = some e → (L.flatMap cR)[i * 2 + 1]? = some (.str ⟨e.2.toArray⟩)
  | [], i, e, h => by simp at h
  | x :: r, 0, e, h => by simp only [List.getElem?_cons_zero, Option.some.injEq] at h; subst h; rfl
  | x :: r, i + 1, e, h => by
    rw [List.getElem?_cons_succ] at h
    have := cR_get1 h
    rw [List.flatMap_cons, show (i + 1) * 2 + 1 = (cR x).length + (i * 2 + 1) by rw [cR_len]; omega, List.getElem?_append_right (by omega), Nat.add_sub_cancel_left]
    exact this

/-- an object's bytes, other ones -/
theorem cR_set1 : ∀ {L : Objs} {i : Nat} {e : ByteArray × List UInt8} (b : List UInt8), L[i]? = some e → splice (L.flatMap cR) (i * 2 + 1) [.str ⟨b.toArray⟩] = (L.set i (e.1, b)).flatMap cR
  | [], i, e, b, h => by simp at h
  | x :: r, 0, e, b, h => by simp only [List.getElem?_cons_zero, Option.some.injEq] at h; subst h; rfl
  | x :: r, i + 1, e, b, h => by
    rw [List.getElem?_cons_succ] at h
    have := cR_set1 b h
    rw [List.set_cons_succ, List.flatMap_cons, List.flatMap_cons, ← this]
    rw [show (i + 1) * 2 + 1 = (i * 2 + 1) + 1 + 1 by omega]
    rfl

/-- the field L: nothing yet, or an owned row -/
def rsl : Option Nat → Nat → AV
  | none, _ => .sl [] .nil
  | some n, len => .refr n 2 len

/-- a store of the document's at q -/
structure RSt (σ : St) (q : Nat) (G : Option Nat) (room left calls : Int) (L : Objs) : Prop where
  obj : σ.res q = some (.obj [.int .i64 room, .int .i64 left, .int .i64 calls, rsl G L.length])
  nil : G = none → L = []
  row : ∀ n, G = some n → n ≠ q ∧ σ.res n = some (.obj (L.flatMap cR))

theorem RSt.keep {σ t : St} {q : Nat} {G : Option Nat} {room left calls : Int} {L : Objs} (h : RSt σ q G room left calls L) (hk : ∀ n x, σ.res n = some x → t.res n = some x) : RSt t q G room left calls L :=
  ⟨hk _ _ h.obj, h.nil, fun n hn => ⟨(h.row n hn).1, hk _ _ (h.row n hn).2⟩⟩

theorem RSt.called {σ : St} {q : Nat} {G : Option Nat} {room left calls : Int} {L : Objs} (h : RSt σ q G room left calls L) (l2 c2 : Int) : RSt (σ.set q (.obj [.int .i64 room, .int .i64 l2, .int .i64 c2, rsl G L.length])) q G room l2 c2 L :=
  ⟨St.set_same _ _ _, h.nil, fun n hn => ⟨(h.row n hn).1, by rw [St.set_other _ _ (h.row n hn).1]; exact (h.row n hn).2⟩⟩

/-- all else is as it was -/
structure Ny (σ σ' : St) (q : Nat) (G : Option Nat) : Prop where
  next : σ.next ≤ σ'.next
  old : ∀ n x, n ≠ q → G ≠ some n → σ.res n = some x → σ'.res n = some x

theorem Ny.refl (σ : St) (q : Nat) (G : Option Nat) : Ny σ σ q G := ⟨Nat.le_refl _, fun _ _ _ _ h => h⟩

theorem Ny.set {σ : St} {q : Nat} {G : Option Nat} (r : Res) : Ny σ (σ.set q r) q G := ⟨Nat.le_refl _, fun n x h1 _ h3 => by rw [St.set_other _ _ h1]; exact h3⟩

/-- a name's place, and whether it is there -/
def atR (k : ByteArray) (L : Objs) : Nat := L.findIdx fun e => decide (e.1 = k)

/-- where a name would stand -/
def spotR (k : ByteArray) (L : Objs) : Nat := L.findIdx fun e => !Op.bytesLess e.1.toList k.toList

def rput (k : ByteArray) (b : List UInt8) (L : Objs) : Objs :=
  if atR k L < L.length then L.set (atR k L) (k, b) else L.take (spotR k L) ++ (k, b) :: L.drop (spotR k L)

def rnamed (s : ByteArray) : Bool := s.data.toList.all (fun c => !oddC (c.toNat : Int)) && (decide (0 < s.size) && decide (s.size ≤ 32))

theorem spot_le (k : ByteArray) (L : Objs) : spotR k L ≤ L.length := List.findIdx_le_length

theorem at_le (k : ByteArray) (L : Objs) : atR k L ≤ L.length := List.findIdx_le_length

theorem at_none {k : ByteArray} {L : Objs} (h : ¬ atR k L < L.length) : getO k L = none := by
  induction L with
  | nil => rfl
  | cons e r ih =>
    unfold atR at h ih
    rw [List.findIdx_cons] at h
    by_cases hk : e.1 = k
    · simp [hk] at h
    · simp only [hk, decide_false, cond_false, List.length_cons] at h
      rw [getO, if_neg (fun h => hk h.symm)]
      exact ih (by omega)

theorem at_some {k : ByteArray} {L : Objs} (h : atR k L < L.length) : ∃ b, L[atR k L]? = some (k, b) ∧ getO k L = some b := by
  induction L with
  | nil => simp at h
  | cons e r ih =>
    by_cases hk : e.1 = k
    · have : atR k (e :: r) = 0 := by unfold atR; rw [List.findIdx_cons]; simp [hk]
      rw [this]
      exact ⟨e.2, by rw [← hk]; rfl, by rw [getO, if_pos hk.symm]⟩
    · have h2 : atR k (e :: r) = atR k r + 1 := by unfold atR; rw [List.findIdx_cons]; simp [hk]
      rw [h2] at h ⊢
      obtain ⟨b, h3, h4⟩ := ih (by simpa using h)
      exact ⟨b, by rw [List.getElem?_cons_succ]; exact h3, by rw [getO, if_neg (fun h => hk h.symm)]; exact h4⟩

theorem getO_app (k : ByteArray) : ∀ (A B : Objs), getO k (A ++ B) = match getO k A with | some b => some b | none => getO k B
  | [], B => rfl
  | e :: A, B => by
    rw [List.cons_append, getO, getO]
    by_cases h : k = e.1
    · rw [if_pos h, if_pos h]
    · rw [if_neg h, if_neg h]; exact getO_app k A B

theorem usedO_app (A B : Objs) : usedO (A ++ B) = usedO A + usedO B := by simp [usedO]

theorem get_set_at {k : ByteArray} {b : List UInt8} : ∀ {L : Objs} (_ : atR k L < L.length) (k' : ByteArray), getO k' (L.set (atR k L) (k, b)) = if k' = k then some b else getO k' L
  | [], h, k' => by simp at h
  | e :: r, h, k' => by
    by_cases hk : e.1 = k
    · have : atR k (e :: r) = 0 := by unfold atR; rw [List.findIdx_cons]; simp [hk]
      rw [this, List.set_cons_zero, getO, getO]
      by_cases h1 : k' = k
      · rw [if_pos h1, if_pos h1]
      · rw [if_neg h1, if_neg h1, if_neg (by rw [hk]; exact h1)]
    · have h2 : atR k (e :: r) = atR k r + 1 := by unfold atR; rw [List.findIdx_cons]; simp [hk]
      rw [h2] at h ⊢
      rw [List.set_cons_succ, getO, getO, get_set_at (by simpa using h) k']
      by_cases h1 : k' = k
      · subst h1; rw [if_neg (fun h => hk h.symm), if_pos rfl]; simp
      · rw [if_neg h1, if_neg h1]

theorem used_set_at {k : ByteArray} {b : List UInt8} : ∀ {L : Objs} (_ : atR k L < L.length), usedO (L.set (atR k L) (k, b)) + sizeO k L = usedO L + b.length
  | [], h => by simp at h
  | e :: r, h => by
    by_cases hk : e.1 = k
    · have : atR k (e :: r) = 0 := by unfold atR; rw [List.findIdx_cons]; simp [hk]
      rw [this, List.set_cons_zero]
      simp only [usedO, sizeO, getO, List.map_cons, List.sum_cons, if_pos hk.symm, Option.getD_some]; omega
    · have h2 : atR k (e :: r) = atR k r + 1 := by unfold atR; rw [List.findIdx_cons]; simp [hk]
      rw [h2] at h ⊢
      have := used_set_at (b := b) (L := r) (by simpa using h)
      rw [List.set_cons_succ]
      simp only [usedO, sizeO, getO, List.map_cons, List.sum_cons, if_neg (fun h : k = e.1 => hk h.symm)] at this ⊢; omega

theorem rput_get (k : ByteArray) (b : List UInt8) (L : Objs) (k' : ByteArray) : getO k' (rput k b L) = if k' = k then some b else getO k' L := by
  unfold rput
  by_cases h : atR k L < L.length
  · rw [if_pos h]; exact get_set_at h k'
  · rw [if_neg h, getO_app, getO]
    have hn := at_none h
    have hs := getO_app k' (L.take (spotR k L)) (L.drop (spotR k L))
    have hs2 := getO_app k (L.take (spotR k L)) (L.drop (spotR k L))
    rw [List.take_append_drop] at hs hs2
    by_cases h1 : k' = k
    · subst h1
      rw [if_pos rfl, if_pos rfl]
      rw [hn] at hs2
      cases hg : getO k' (L.take (spotR k' L)) with
      | none => rfl
      | some x => rw [hg] at hs2; cases hs2
    · rw [if_neg h1, if_neg h1, hs]

theorem rput_used (k : ByteArray) (b : List UInt8) (L : Objs) : usedO (rput k b L) + sizeO k L = usedO L + b.length := by
  unfold rput
  by_cases h : atR k L < L.length
  · rw [if_pos h]; exact used_set_at h
  · rw [if_neg h, usedO_app]
    have hs := usedO_app (L.take (spotR k L)) (L.drop (spotR k L))
    rw [List.take_append_drop] at hs
    have : sizeO k L = 0 := by rw [sizeO, at_none h]; rfl
    simp only [usedO, List.map_cons, List.sum_cons] at hs ⊢
    omega

theorem rput_len (k : ByteArray) (b : List UInt8) (L : Objs) : (rput k b L).length ≤ L.length + 1 := by
  unfold rput
  split
  · rw [List.length_set]; omega
  · rw [List.length_append, List.length_cons, List.length_take, List.length_drop]; have := spot_le k L; omega

/-- a rune that is no odd one is one byte -/
theorem odd_decode (s : ByteArray) (i : Nat) : oddC ((Utf8.decode s i).1 : Int) = oddC ((s.get! i).toNat : Int) ∧ (oddC ((s.get! i).toNat : Int) = false → (Utf8.decode s i).2 = 1) := by
  have hbig : ∀ c : Nat, 128 ≤ c → oddC (c : Int) = true := fun c hc => by
    unfold oddC
    have h1 : decide ((c : Int) ≤ 122) = false := decide_eq_false (by omega)
    have h2 : decide ((c : Int) ≤ 57) = false := decide_eq_false (by omega)
    have h3 : ((c : Int) == 47) = false := by simp; omega
    have h4 : ((c : Int) == 45) = false := by simp; omega
    rw [h1, h2, h3, h4]; simp
  have hg : s.get! (i + 0) = s.get! i := rfl
  unfold Utf8.decode
  simp only [hg]
  by_cases h0 : (s.get! i).toNat < 128
  · rw [if_pos h0]; exact ⟨rfl, fun _ => rfl⟩
  · rw [if_neg h0, hbig (s.get! i).toNat (by omega)]
    refine ⟨?_, fun h => by cases h⟩
    have hr : 128 ≤ Utf8.runeError := by decide
    split
    · split
      · exact hbig _ (by assumption)
      · exact hbig _ hr
    · split
      · split
        · rename_i h; simp only [Bool.and_eq_true, decide_eq_true_eq] at h; exact hbig _ (by omega)
        · exact hbig _ hr
      · split
        · split
          · rename_i h; simp only [Bool.and_eq_true, decide_eq_true_eq] at h; exact hbig _ (by omega)
          · exact hbig _ hr
        · exact hbig _ hr

theorem okFrom_bytes (s : ByteArray) : ∀ (f pos : Nat), s.size ≤ pos + f → okFrom s f pos = (s.data.toList.drop pos).all fun c => !oddC (c.toNat : Int)
  | 0, pos, h => by
    rw [List.drop_eq_nil_of_le (by simpa using h)]; rfl
  | f + 1, pos, h => by
    unfold okFrom
    by_cases hp : pos < s.size
    · rw [if_pos hp]
      have hl : pos < s.data.toList.length := by simpa using hp
      rw [List.drop_eq_getElem_cons hl, List.all_cons]
      have hgt : s.data.toList[pos] = s.get! pos := by
        have hp' : pos < s.data.size := hp
        show s.data.toList[pos] = s.data[pos]!
        rw [getElem!_pos s.data pos hp', Array.getElem_toList]
      rw [hgt]
      obtain ⟨h1, h2⟩ := odd_decode s pos
      rw [h1]
      cases ho : oddC ((s.get! pos).toNat : Int) with
      | true => simp
      | false => rw [h2 ho, okFrom_bytes s f (pos + 1) (by omega)]
    · rw [if_neg hp, List.drop_eq_nil_of_le (by simpa using hp)]; rfl

theorem rnamed_is (s : ByteArray) : rnamed s = namedB s := by
  unfold rnamed namedB
  rw [okFrom_bytes s s.size 0 (by omega), List.drop_zero, Bool.and_comm]
  rfl

/-- what putting tells -/
def rputC (room left : Int) (L : Objs) (k : ByteArray) (b : List UInt8) : Int :=
  if left = 0 then 8 else if rnamed k = false then 1 else if (usedO L : Int) - sizeO k L + b.length > room then 6 else 0

theorem not_mem_of_none {k : ByteArray} : ∀ {L : Objs}, getO k L = none → k ∉ L.map Prod.fst
  | [], _, h => by cases h
  | e :: r, hg, h => by
    rw [getO] at hg
    split at hg
    · cases hg
    · rename_i hne
      rcases List.mem_cons.1 h with h | h
      · exact hne h
      · exact not_mem_of_none hg h

theorem get_of_nd : ∀ {L : Objs} {i : Nat} {e : ByteArray × List UInt8}, (L.map Prod.fst).Nodup → L[i]? = some e → getO e.1 L = some e.2
  | [], i, e, _, h => by simp at h
  | x :: r, 0, e, _, h => by simp only [List.getElem?_cons_zero, Option.some.injEq] at h; subst h; rw [getO, if_pos rfl]
  | x :: r, i + 1, e, hn, h => by
    rw [List.getElem?_cons_succ] at h
    rw [List.map_cons, List.nodup_cons] at hn
    rw [getO, if_neg (fun he => hn.1 (by rw [← he]; exact List.mem_map_of_mem (List.mem_of_getElem? h)))]
    exact get_of_nd hn.2 h

theorem rput_nd {k : ByteArray} {b : List UInt8} {L : Objs} (h : (L.map Prod.fst).Nodup) : ((rput k b L).map Prod.fst).Nodup := by
  unfold rput
  by_cases hat : atR k L < L.length
  · rw [if_pos hat]
    obtain ⟨b0, hx, _⟩ := at_some hat
    have : (L.set (atR k L) (k, b)).map Prod.fst = L.map Prod.fst := by
      rw [List.map_set]
      refine List.ext_getElem? fun i => ?_
      by_cases hi : atR k L = i
      · subst hi
        have : atR k L < (L.map Prod.fst).length := by simpa using hat
        rw [List.getElem?_set_self this, List.getElem?_map, hx]; rfl
      · rw [List.getElem?_set_ne hi]
    rw [this]; exact h
  · rw [if_neg hat]
    have hk := not_mem_of_none (at_none hat)
    rw [List.map_append, List.map_cons]
    have hd : L.map Prod.fst = (L.take (spotR k L)).map Prod.fst ++ (L.drop (spotR k L)).map Prod.fst := by rw [← List.map_append, List.take_append_drop]
    rw [hd] at h hk
    exact (List.perm_middle.nodup_iff).2 (List.nodup_cons.2 ⟨hk, h⟩)

/-- two stores' objects, in whatever order -/
structure Alike (L M : Objs) : Prop where
  get : ∀ k, getO k L = getO k M
  used : usedO L = usedO M
  nd : (M.map Prod.fst).Nodup

theorem Alike.size {L M : Objs} (h : Alike L M) (k : ByteArray) : sizeO k L = sizeO k M := by unfold sizeO; rw [h.get]

theorem Alike.code {L M : Objs} (h : Alike L M) (room left : Int) (k : ByteArray) (b : List UInt8) : rputC room left M k b = putC room left L k b := by
  unfold rputC putC
  rw [rnamed_is, ← h.used, ← h.size]
  by_cases h1 : (b.length : Int) > room - usedO L + sizeO k L
  · rw [if_pos h1, if_pos (show (usedO L : Int) - sizeO k L + b.length > room by omega)]
  · rw [if_neg h1, if_neg (show ¬ (usedO L : Int) - sizeO k L + b.length > room by omega)]

theorem Alike.put {L M : Objs} (h : Alike L M) (k : ByteArray) (b : List UInt8) : Alike (putO k b L) (rput k b M) := by
  refine ⟨fun k' => ?_, ?_, rput_nd h.nd⟩
  · rw [rput_get]
    by_cases h1 : k' = k
    · subst h1; rw [get_put_same, if_pos rfl]
    · rw [get_put_ne b h1, if_neg h1, h.get]
  · have h1 := used_put k b L
    have h2 := rput_used k b M
    have := h.size k
    have := h.used
    omega

end Go.VL

namespace Go.VL

open Go.Proofs

abbrev n_rsFail : Nat := 10

def c_rsFail : C := (.seq (.reg [⟨(some 4), (.mv (.t 0)), none⟩, ⟨(some 5), (.mv (.t 1)), none⟩, ⟨(some 6), (.nilCheck (.t 4)), none⟩, ⟨(some 7), (.faddr 1 (.t 6)), none⟩, ⟨none, (.store 1 (.t 7) (.t 5)), none⟩]) (.seq (.reg [⟨(some 8), (.mv (.t 1)), none⟩, ⟨(some 9), (.bin .lss .i64 (.t 8) (.c (.int .i64 0))), none⟩]) (.cond (.t 9) (.reg [⟨(some 10), (.mv (.t 0)), none⟩, ⟨(some 11), (.nilCheck (.t 10)), none⟩, ⟨(some 12), (.faddr 1 (.t 11)), none⟩, ⟨none, (.store 1 (.t 12) (.c (.int .i64 (-1)))), none⟩]) .skip)))

set_option maxRecDepth 100000 in
theorem k_rsFail : compileC Tryd.prog ann (Tryd.f10.body.getD .skip) = some c_rsFail := by kernel_rfl

theorem s_rsFail {args : List AV} {σ : St} {K : AV → St → Prop} (h : WF σ → T Tryd.prog ann c_rsFail (Fin σ [] K) (args ++ List.replicate (13 - args.length) (.tup [])) σ) : ACalls Tryd.prog n_rsFail args σ K :=
  calls_ok Tryd.func10 (by kernel_rfl) (by kernel_rfl) k_rsFail (by kernel_rfl) (by kernel_rfl) h

abbrev n_rsCall : Nat := 56

def c_rsCall : C := (.seq (.reg [⟨(some 2), (.mv (.c (.bool false))), none⟩]) (.seq (.reg [⟨(some 3), (.mv (.t 0)), none⟩, ⟨(some 4), (.mv (.t 0)), none⟩, ⟨(some 5), (.nilCheck (.t 4)), none⟩, ⟨(some 6), (.faddr 2 (.t 5)), none⟩, ⟨(some 7), (.load none (.t 6)), none⟩, ⟨(some 8), (.bin .add .i64 (.t 7) (.c (.int .i64 1))), none⟩, ⟨(some 9), (.nilCheck (.t 3)), none⟩, ⟨(some 10), (.faddr 2 (.t 9)), none⟩, ⟨none, (.store 1 (.t 10) (.t 8)), none⟩]) (.seq (.seq (.reg [⟨(some 11), (.mv (.t 0)), none⟩, ⟨(some 12), (.nilCheck (.t 11)), none⟩, ⟨(some 13), (.faddr 1 (.t 12)), none⟩, ⟨(some 14), (.load none (.t 13)), none⟩, ⟨(some 15), (.bin .eql .i64 (.t 14) (.c (.int .i64 0))), none⟩]) (.cond (.t 15) (.seq (.reg [⟨(some 16), (.mv (.t 0)), none⟩, ⟨(some 17), (.nilCheck (.t 16)), none⟩, ⟨(some 18), (.faddr 1 (.t 17)), none⟩, ⟨none, (.store 1 (.t 18) (.c (.int .i64 (-1)))), none⟩]) (.seq (.reg [⟨(some 2), (.mv (.c (.bool false))), none⟩]) .ret)) .skip)) (.seq (.seq (.reg [⟨(some 19), (.mv (.t 0)), none⟩, ⟨(some 20), (.nilCheck (.t 19)), none⟩, ⟨(some 21), (.faddr 1 (.t 20)), none⟩, ⟨(some 22), (.load none (.t 21)), none⟩, ⟨(some 23), (.bin .gtr .i64 (.t 22) (.c (.int .i64 0))), none⟩]) (.cond (.t 23) (.reg [⟨(some 24), (.mv (.t 0)), none⟩, ⟨(some 25), (.mv (.t 0)), none⟩, ⟨(some 26), (.nilCheck (.t 25)), none⟩, ⟨(some 27), (.faddr 1 (.t 26)), none⟩, ⟨(some 28), (.load none (.t 27)), none⟩, ⟨(some 29), (.bin .sub .i64 (.t 28) (.c (.int .i64 1))), none⟩, ⟨(some 30), (.nilCheck (.t 24)), none⟩, ⟨(some 31), (.faddr 1 (.t 30)), none⟩, ⟨none, (.store 1 (.t 31) (.t 29)), none⟩]) .skip)) (.seq (.reg [⟨(some 2), (.mv (.c (.bool true))), none⟩]) .ret)))))

set_option maxRecDepth 100000 in
theorem k_rsCall : compileC Tryd.prog ann (Tryd.f56.body.getD .skip) = some c_rsCall := by kernel_rfl

theorem s_rsCall {args : List AV} {σ : St} {K : AV → St → Prop} (h : WF σ → T Tryd.prog ann c_rsCall (Fin σ [(.t 2)] K) (args ++ List.replicate (32 - args.length) (.tup [])) σ) : ACalls Tryd.prog n_rsCall args σ K :=
  calls_ok Tryd.func56 (by kernel_rfl) (by kernel_rfl) k_rsCall (by kernel_rfl) (by kernel_rfl) h

abbrev n_rsNamed : Nat := 57

def c_rsNamed : C := (.seq (.reg [⟨(some 2), (.mv (.c (.bool false))), none⟩]) (.seq (.seq (.reg [⟨(some 3), (.mv (.c (.int .i64 0))), none⟩]) (.block 0 (.loop (.seq (.seq (.reg [⟨(some 5), (.mv (.t 3)), none⟩, ⟨(some 6), (.mv (.t 0)), none⟩, ⟨(some 7), (.slen (.t 6)), none⟩, ⟨(some 8), (.bin .lss .i64 (.t 5) (.t 7)), none⟩]) (.cond (.t 8) .skip (.exit 0))) (.seq (.block 1 (.seq (.reg [⟨(some 11), (.mv (.t 0)), none⟩, ⟨(some 12), (.mv (.t 3)), none⟩, ⟨(some 13), (.idxS (.t 11) (.t 12)), none⟩, ⟨(some 4), (.mv (.t 13)), none⟩]) (.seq (.reg [⟨(some 14), (.mv (.t 4)), none⟩, ⟨(some 15), (.bin .geq .u8 (.t 14) (.c (.int .u8 97))), none⟩, ⟨(some 16), (.mv (.t 15)), none⟩, ⟨(some 17), (.mv (.t 4)), (some (16, true))⟩, ⟨(some 18), (.bin .leq .u8 (.t 17) (.c (.int .u8 122))), (some (16, true))⟩, ⟨(some 19), (.pick (.t 16) (.t 18) (.c (.bool false))), none⟩, ⟨(some 20), (.mv (.t 19)), none⟩, ⟨(some 21), (.mv (.t 4)), (some (20, false))⟩, ⟨(some 22), (.bin .geq .u8 (.t 21) (.c (.int .u8 48))), (some (20, false))⟩, ⟨(some 23), (.mv (.t 22)), (some (20, false))⟩, ⟨(some 24), (.mv (.t 4)), (some (23, true))⟩, ⟨(some 25), (.bin .leq .u8 (.t 24) (.c (.int .u8 57))), (some (23, true))⟩, ⟨(some 26), (.pick (.t 23) (.t 25) (.c (.bool false))), (some (20, false))⟩, ⟨(some 27), (.pick (.t 20) (.c (.bool true)) (.t 26)), none⟩, ⟨(some 28), (.mv (.t 27)), none⟩, ⟨(some 29), (.mv (.t 4)), (some (28, false))⟩, ⟨(some 30), (.bin .eql .u8 (.t 29) (.c (.int .u8 47))), (some (28, false))⟩, ⟨(some 31), (.pick (.t 28) (.c (.bool true)) (.t 30)), none⟩, ⟨(some 32), (.mv (.t 31)), none⟩, ⟨(some 33), (.mv (.t 4)), (some (32, false))⟩, ⟨(some 34), (.bin .eql .u8 (.t 33) (.c (.int .u8 45))), (some (32, false))⟩, ⟨(some 35), (.pick (.t 32) (.c (.bool true)) (.t 34)), none⟩, ⟨(some 36), (.not (.t 35)), none⟩]) (.cond (.t 36) (.seq (.reg [⟨(some 2), (.mv (.c (.bool false))), none⟩]) .ret) .skip)))) (.reg [⟨(some 9), (.mv (.t 3)), none⟩, ⟨(some 10), (.bin .add .i64 (.t 9) (.c (.int .i64 1))), none⟩, ⟨(some 3), (.mv (.t 10)), none⟩])))))) (.seq (.reg [⟨(some 37), (.mv (.t 0)), none⟩, ⟨(some 38), (.slen (.t 37)), none⟩, ⟨(some 39), (.bin .gtr .i64 (.t 38) (.c (.int .i64 0))), none⟩, ⟨(some 40), (.mv (.t 39)), none⟩, ⟨(some 41), (.mv (.t 0)), (some (40, true))⟩, ⟨(some 42), (.slen (.t 41)), (some (40, true))⟩, ⟨(some 43), (.bin .leq .i64 (.t 42) (.c (.int .i64 32))), (some (40, true))⟩, ⟨(some 44), (.pick (.t 40) (.t 43) (.c (.bool false))), none⟩, ⟨(some 2), (.mv (.t 44)), none⟩]) .ret)))

set_option maxRecDepth 100000 in
theorem k_rsNamed : compileC Tryd.prog ann (Tryd.f57.body.getD .skip) = some c_rsNamed := by kernel_rfl

theorem s_rsNamed {args : List AV} {σ : St} {K : AV → St → Prop} (h : WF σ → T Tryd.prog ann c_rsNamed (Fin σ [(.t 2)] K) (args ++ List.replicate (45 - args.length) (.tup [])) σ) : ACalls Tryd.prog n_rsNamed args σ K :=
  calls_ok Tryd.func57 (by kernel_rfl) (by kernel_rfl) k_rsNamed (by kernel_rfl) (by kernel_rfl) h

abbrev n_rsAt : Nat := 58

def c_rsAt : C := (.seq (.reg [⟨(some 4), (.mv (.c (.int .i64 0))), none⟩]) (.seq (.seq (.reg [⟨(some 5), (.mv (.c (.int .i64 0))), none⟩]) (.block 0 (.loop (.seq (.seq (.reg [⟨(some 6), (.mv (.t 5)), none⟩, ⟨(some 7), (.mv (.t 0)), none⟩, ⟨(some 8), (.nilCheck (.t 7)), none⟩, ⟨(some 9), (.faddr 3 (.t 8)), none⟩, ⟨(some 10), (.load none (.t 9)), none⟩, ⟨(some 11), (.len (.t 10)), none⟩, ⟨(some 12), (.bin .lss .i64 (.t 6) (.t 11)), none⟩]) (.cond (.t 12) .skip (.exit 0))) (.seq (.block 1 (.seq (.reg [⟨(some 15), (.mv (.t 0)), none⟩, ⟨(some 16), (.nilCheck (.t 15)), none⟩, ⟨(some 17), (.faddr 3 (.t 16)), none⟩, ⟨(some 18), (.load none (.t 17)), none⟩, ⟨(some 19), (.mv (.t 5)), none⟩, ⟨(some 20), (.iaddr 2 (.t 18) (.t 19)), none⟩, ⟨(some 21), (.faddr 0 (.t 20)), none⟩, ⟨(some 22), (.load none (.t 21)), none⟩, ⟨(some 23), (.mv (.t 1)), none⟩, ⟨(some 24), (.sbin .eql (.t 22) (.t 23)), none⟩]) (.cond (.t 24) (.seq (.reg [⟨(some 25), (.mv (.t 5)), none⟩, ⟨(some 4), (.mv (.t 25)), none⟩]) .ret) .skip))) (.reg [⟨(some 13), (.mv (.t 5)), none⟩, ⟨(some 14), (.bin .add .i64 (.t 13) (.c (.int .i64 1))), none⟩, ⟨(some 5), (.mv (.t 14)), none⟩])))))) (.seq (.reg [⟨(some 4), (.mv (.c (.int .i64 (-1)))), none⟩]) .ret)))

set_option maxRecDepth 100000 in
theorem k_rsAt : compileC Tryd.prog ann (Tryd.f58.body.getD .skip) = some c_rsAt := by kernel_rfl

theorem s_rsAt {args : List AV} {σ : St} {K : AV → St → Prop} (h : WF σ → T Tryd.prog ann c_rsAt (Fin σ [(.t 4)] K) (args ++ List.replicate (26 - args.length) (.tup [])) σ) : ACalls Tryd.prog n_rsAt args σ K :=
  calls_ok Tryd.func58 (by kernel_rfl) (by kernel_rfl) k_rsAt (by kernel_rfl) (by kernel_rfl) h

abbrev n_rsUsed : Nat := 17

def c_rsUsed : C := (.seq (.reg [⟨(some 2), (.mv (.c (.int .i64 0))), none⟩]) (.seq (.reg [⟨(some 3), (.mv (.c (.int .i64 0))), none⟩]) (.seq (.seq (.reg [⟨(some 4), (.mv (.c (.int .i64 0))), none⟩]) (.block 0 (.loop (.seq (.seq (.reg [⟨(some 5), (.mv (.t 4)), none⟩, ⟨(some 6), (.mv (.t 0)), none⟩, ⟨(some 7), (.nilCheck (.t 6)), none⟩, ⟨(some 8), (.faddr 3 (.t 7)), none⟩, ⟨(some 9), (.load none (.t 8)), none⟩, ⟨(some 10), (.len (.t 9)), none⟩, ⟨(some 11), (.bin .lss .i64 (.t 5) (.t 10)), none⟩]) (.cond (.t 11) .skip (.exit 0))) (.seq (.block 1 (.reg [⟨(some 14), (.mv (.t 3)), none⟩, ⟨(some 15), (.mv (.t 0)), none⟩, ⟨(some 16), (.nilCheck (.t 15)), none⟩, ⟨(some 17), (.faddr 3 (.t 16)), none⟩, ⟨(some 18), (.load none (.t 17)), none⟩, ⟨(some 19), (.mv (.t 4)), none⟩, ⟨(some 20), (.iaddr 2 (.t 18) (.t 19)), none⟩, ⟨(some 21), (.faddr 1 (.t 20)), none⟩, ⟨(some 22), (.load none (.t 21)), none⟩, ⟨(some 23), (.slen (.t 22)), none⟩, ⟨(some 24), (.bin .add .i64 (.t 14) (.t 23)), none⟩, ⟨(some 3), (.mv (.t 24)), none⟩])) (.reg [⟨(some 12), (.mv (.t 4)), none⟩, ⟨(some 13), (.bin .add .i64 (.t 12) (.c (.int .i64 1))), none⟩, ⟨(some 4), (.mv (.t 13)), none⟩])))))) (.seq (.reg [⟨(some 25), (.mv (.t 3)), none⟩, ⟨(some 2), (.mv (.t 25)), none⟩]) .ret))))

set_option maxRecDepth 100000 in
theorem k_rsUsed : compileC Tryd.prog ann (Tryd.f17.body.getD .skip) = some c_rsUsed := by kernel_rfl

theorem s_rsUsed {args : List AV} {σ : St} {K : AV → St → Prop} (h : WF σ → T Tryd.prog ann c_rsUsed (Fin σ [(.t 2)] K) (args ++ List.replicate (26 - args.length) (.tup [])) σ) : ACalls Tryd.prog n_rsUsed args σ K :=
  calls_ok Tryd.func17 (by kernel_rfl) (by kernel_rfl) k_rsUsed (by kernel_rfl) (by kernel_rfl) h

abbrev ann_rsPut : Ann := { errs := [(40, .i64)], hold := [(19, 0, .zero), (19, 7, .grow), (20, 5, .grow), (21, 8, .grow)] }

abbrev n_rsPut : Nat := 38

def c_rsPut : C := (.seq (.reg [⟨(some 6), (.mv (.c (.int .i64 0))), none⟩]) (.seq (.reg [⟨(some 12), (.mv (.t 0)), none⟩, ⟨(some 13), (.call 56 [(.t 12)]), none⟩, ⟨(some 7), (.mv (.t 13)), none⟩]) (.seq (.seq (.reg [⟨(some 14), (.mv (.t 7)), none⟩, ⟨(some 15), (.not (.t 14)), none⟩]) (.cond (.t 15) (.seq (.reg [⟨(some 6), (.mv (.c (.int .i64 8))), none⟩]) .ret) .skip)) (.seq (.reg [⟨(some 16), (.mv (.t 1)), none⟩, ⟨(some 17), (.call 57 [(.t 16)]), none⟩, ⟨(some 8), (.mv (.t 17)), none⟩]) (.seq (.seq (.reg [⟨(some 18), (.mv (.t 8)), none⟩, ⟨(some 19), (.not (.t 18)), none⟩]) (.cond (.t 19) (.seq (.reg [⟨(some 6), (.mv (.c (.int .i64 1))), none⟩]) .ret) .skip)) (.seq (.reg [⟨(some 20), (.mv (.t 0)), none⟩, ⟨(some 21), (.mv (.t 1)), none⟩, ⟨(some 22), (.call 58 [(.t 20), (.t 21)]), none⟩, ⟨(some 9), (.mv (.t 22)), none⟩]) (.seq (.reg [⟨(some 23), (.mv (.t 0)), none⟩, ⟨(some 24), (.call 17 [(.t 23)]), none⟩, ⟨(some 10), (.mv (.t 24)), none⟩]) (.seq (.seq (.reg [⟨(some 25), (.mv (.t 9)), none⟩, ⟨(some 26), (.bin .geq .i64 (.t 25) (.c (.int .i64 0))), none⟩]) (.cond (.t 26) (.reg [⟨(some 27), (.mv (.t 10)), none⟩, ⟨(some 28), (.mv (.t 0)), none⟩, ⟨(some 29), (.nilCheck (.t 28)), none⟩, ⟨(some 30), (.faddr 3 (.t 29)), none⟩, ⟨(some 31), (.load none (.t 30)), none⟩, ⟨(some 32), (.mv (.t 9)), none⟩, ⟨(some 33), (.iaddr 2 (.t 31) (.t 32)), none⟩, ⟨(some 34), (.faddr 1 (.t 33)), none⟩, ⟨(some 35), (.load none (.t 34)), none⟩, ⟨(some 36), (.slen (.t 35)), none⟩, ⟨(some 37), (.bin .sub .i64 (.t 27) (.t 36)), none⟩, ⟨(some 10), (.mv (.t 37)), none⟩]) .skip)) (.seq (.seq (.reg [⟨(some 38), (.mv (.t 10)), none⟩, ⟨(some 39), (.mv (.t 2)), none⟩, ⟨(some 40), (.slen (.t 39)), none⟩, ⟨(some 41), (.bin .add .i64 (.t 38) (.t 40)), none⟩, ⟨(some 42), (.mv (.t 0)), none⟩, ⟨(some 43), (.nilCheck (.t 42)), none⟩, ⟨(some 44), (.faddr 0 (.t 43)), none⟩, ⟨(some 45), (.load none (.t 44)), none⟩, ⟨(some 46), (.bin .gtr .i64 (.t 41) (.t 45)), none⟩]) (.cond (.t 46) (.seq (.reg [⟨(some 6), (.mv (.c (.int .i64 6))), none⟩]) .ret) .skip)) (.seq (.seq (.reg [⟨(some 47), (.mv (.t 9)), none⟩, ⟨(some 48), (.bin .geq .i64 (.t 47) (.c (.int .i64 0))), none⟩]) (.cond (.t 48) (.seq (.reg [⟨(some 49), (.mv (.t 0)), none⟩, ⟨(some 50), (.nilCheck (.t 49)), none⟩, ⟨(some 51), (.faddr 3 (.t 50)), none⟩, ⟨(some 52), (.load none (.t 51)), none⟩, ⟨(some 53), (.mv (.t 9)), none⟩, ⟨(some 54), (.mv (.t 2)), none⟩, ⟨(some 55), (.iaddr 2 (.t 52) (.t 53)), none⟩, ⟨(some 56), (.faddr 1 (.t 55)), none⟩, ⟨none, (.store 1 (.t 56) (.t 54)), none⟩]) (.seq (.reg [⟨(some 6), (.mv (.c (.int .i64 0))), none⟩]) .ret)) .skip)) (.seq (.reg [⟨(some 9), (.mv (.c (.int .i64 0))), none⟩]) (.seq (.block 0 (.loop (.seq (.seq (.reg [⟨(some 57), (.mv (.t 9)), none⟩, ⟨(some 58), (.mv (.t 0)), none⟩, ⟨(some 59), (.nilCheck (.t 58)), none⟩, ⟨(some 60), (.faddr 3 (.t 59)), none⟩, ⟨(some 61), (.load none (.t 60)), none⟩, ⟨(some 62), (.len (.t 61)), none⟩, ⟨(some 63), (.bin .lss .i64 (.t 57) (.t 62)), none⟩, ⟨(some 64), (.mv (.t 63)), none⟩, ⟨(some 65), (.mv (.t 0)), (some (64, true))⟩, ⟨(some 66), (.nilCheck (.t 65)), (some (64, true))⟩, ⟨(some 67), (.faddr 3 (.t 66)), (some (64, true))⟩, ⟨(some 68), (.load none (.t 67)), (some (64, true))⟩, ⟨(some 69), (.mv (.t 9)), (some (64, true))⟩, ⟨(some 70), (.iaddr 2 (.t 68) (.t 69)), (some (64, true))⟩, ⟨(some 71), (.faddr 0 (.t 70)), (some (64, true))⟩, ⟨(some 72), (.load none (.t 71)), (some (64, true))⟩, ⟨(some 73), (.mv (.t 1)), (some (64, true))⟩, ⟨(some 74), (.sbin .lss (.t 72) (.t 73)), (some (64, true))⟩, ⟨(some 75), (.pick (.t 64) (.t 74) (.c (.bool false))), none⟩]) (.cond (.t 75) .skip (.exit 0))) (.block 1 (.reg [⟨(some 76), (.mv (.t 9)), none⟩, ⟨(some 77), (.bin .add .i64 (.t 76) (.c (.int .i64 1))), none⟩, ⟨(some 9), (.mv (.t 77)), none⟩]))))) (.seq (.reg [⟨(some 78), (.bslice 2 .zero []), none⟩, ⟨(some 79), (.mv (.t 0)), none⟩, ⟨(some 80), (.nilCheck (.t 79)), none⟩, ⟨(some 81), (.faddr 3 (.t 80)), none⟩, ⟨(some 82), (.load none (.t 81)), none⟩, ⟨(some 83), (.mv (.t 9)), none⟩, ⟨(some 84), (.slice 2 (.t 82) none (some (.t 83))), none⟩, ⟨(some 85), (.appR 2 32 (.t 78) (.t 84)), none⟩, ⟨(some 11), (.mv (.t 85)), none⟩]) (.seq (.reg [⟨(some 86), (.mv (.t 11)), none⟩, ⟨(some 87), (.mv (.t 1)), none⟩, ⟨(some 88), (.mv (.t 2)), none⟩, ⟨(some 89), (.build [(.str ⟨#[]⟩), (.str ⟨#[]⟩)] [(0, (1, (.t 87))), (1, (1, (.t 88)))]), none⟩, ⟨(some 90), (.bslice 2 .val [(.t 89)]), none⟩, ⟨(some 91), (.appR 2 32 (.t 86) (.t 90)), none⟩, ⟨(some 11), (.mv (.t 91)), none⟩]) (.seq (.reg [⟨(some 92), (.mv (.t 0)), none⟩, ⟨(some 93), (.mv (.t 11)), none⟩, ⟨(some 94), (.mv (.t 0)), none⟩, ⟨(some 95), (.nilCheck (.t 94)), none⟩, ⟨(some 96), (.faddr 3 (.t 95)), none⟩, ⟨(some 97), (.load none (.t 96)), none⟩, ⟨(some 98), (.mv (.t 9)), none⟩, ⟨(some 99), (.slice 2 (.t 97) (some (.t 98)) none), none⟩, ⟨(some 100), (.appR 2 32 (.t 93) (.t 99)), none⟩, ⟨(some 101), (.nilCheck (.t 92)), none⟩, ⟨(some 102), (.faddr 3 (.t 101)), none⟩, ⟨none, (.store 1 (.t 102) (.t 100)), none⟩]) (.seq (.reg [⟨(some 6), (.mv (.c (.int .i64 0))), none⟩]) .ret))))))))))))))))

set_option maxRecDepth 100000 in
theorem k_rsPut : compileC Tryd.prog ann_rsPut (Tryd.f38.body.getD .skip) = some c_rsPut := by kernel_rfl

theorem s_rsPut {args : List AV} {σ : St} {K : AV → St → Prop} (h : WF σ → T Tryd.prog ann_rsPut c_rsPut (Fin σ [(.t 6)] K) (args ++ List.replicate (103 - args.length) (.tup [])) σ) : ACalls Tryd.prog n_rsPut args σ K :=
  calls_ok Tryd.func38 (by kernel_rfl) (by kernel_rfl) k_rsPut (by kernel_rfl) (by kernel_rfl) h

end Go.VL

namespace Go.VL

open Go.Proofs

set_option maxRecDepth 10000 in
theorem rsFail_ok {q : Nat} {G : Option Nat} {room left calls n : Int} {L : Objs} {σ : St} (h : RSt σ q G room left calls L) :
    ACalls Tryd.prog n_rsFail [.ptr q 0, .int .i64 n] σ (fun _ σ' => RSt σ' q G room (if (-1 : Int) > n then -1 else n) calls L ∧ Ny σ σ' q G) := by
  refine s_rsFail (fun wf => ?_)
  unfold c_rsFail
  have ho := h.obj
  by_cases c : n < 0
  · have e1 : decide (n < 0) = true := decide_eq_true c
    have e2 : (if (-1 : Int) > n then -1 else n) = -1 := by split <;> omega
    refine T.seq_k (fun K_h0 h0 => ?_)
    refine T.regi hm ?_
    simp only [↓reduceIte, namesOf, List.any, I.names, aopsI, astep, ev, setd, List.set, List.getD, List.getElem?_cons_zero, List.getElem?_cons_succ, List.cons_append, List.nil_append, List.length_cons, List.length_nil, List.replicate, then_normal, Option.getD_some, Bool.or_false, Bool.false_eq_true, up_zero, Nat.reduceAdd, Nat.reduceSub, AV.isAny, AV.cells, eq_self, decide_true, ho, AV.fits, AV.one, List.all_cons, List.all_nil, Nat.reduceBEq, Bool.not_false, Bool.and_self, Nat.zero_add, splice, List.take, List.drop, Nat.reduceLeDiff]
    refine h0 _ _ ?_
    try clear h0 K_h0
    refine T.seq_k (fun K_h0 h0 => ?_)
    refine T.regi hm ?_
    simp only [↓reduceIte, namesOf, List.any, I.names, aopsI, astep, ev, setd, List.set, List.getD, List.getElem?_cons_zero, List.getElem?_cons_succ, then_normal, Option.getD_some, Bool.or_false, Bool.false_eq_true, up_zero, binv, ↓opt_def, eq_self, e1]
    refine h0 _ _ ?_
    try clear h0 K_h0
    refine T.cond rfl (fun _ => ?_) (fun h => by cases h)
    refine T.regi hm ?_
    simp only [↓reduceIte, namesOf, List.any, I.names, aopsI, astep, ev, setd, List.set, List.getD, List.getElem?_cons_zero, List.getElem?_cons_succ, List.cons_append, List.nil_append, List.length_cons, List.length_nil, Option.getD_some, Bool.or_false, Bool.false_eq_true, up_zero, Nat.reduceAdd, AV.isAny, AV.cells, St.set_same, eq_self, decide_true, AV.fits, AV.one, List.all_cons, List.all_nil, Nat.reduceBEq, Bool.not_false, Bool.and_self, Nat.zero_add, splice, List.take, List.drop, Nat.reduceLeDiff, St.set_set]
    refine Fin.retn rfl ⟨?_, ?_⟩
    · rw [e2]; exact h.called (-1) calls
    · exact .set _
  · have e1 : decide (n < 0) = false := decide_eq_false c
    have e2 : (if (-1 : Int) > n then -1 else n) = n := by split <;> omega
    refine T.seq_k (fun K_h0 h0 => ?_)
    refine T.regi hm ?_
    simp only [↓reduceIte, namesOf, List.any, I.names, aopsI, astep, ev, setd, List.set, List.getD, List.getElem?_cons_zero, List.getElem?_cons_succ, List.cons_append, List.nil_append, List.length_cons, List.length_nil, List.replicate, then_normal, Option.getD_some, Bool.or_false, Bool.false_eq_true, up_zero, Nat.reduceAdd, Nat.reduceSub, AV.isAny, AV.cells, eq_self, decide_true, ho, AV.fits, AV.one, List.all_cons, List.all_nil, Nat.reduceBEq, Bool.not_false, Bool.and_self, Nat.zero_add, splice, List.take, List.drop, Nat.reduceLeDiff]
    refine h0 _ _ ?_
    try clear h0 K_h0
    refine T.seq_k (fun K_h0 h0 => ?_)
    refine T.regi hm ?_
    simp only [↓reduceIte, namesOf, List.any, I.names, aopsI, astep, ev, setd, List.set, List.getD, List.getElem?_cons_zero, List.getElem?_cons_succ, then_normal, Option.getD_some, Bool.or_false, Bool.false_eq_true, up_zero, binv, ↓opt_def, eq_self, e1]
    refine h0 _ _ ?_
    try clear h0 K_h0
    refine T.cond rfl (fun h => by cases h) (fun _ => T.skip ?_)
    refine Fin.retn rfl ⟨?_, ?_⟩
    · rw [e2]; exact h.called n calls
    · exact .set _

set_option maxRecDepth 10000 in
theorem rsCall_ok {q : Nat} {G : Option Nat} {room left calls : Int} {L : Objs} {σ : St} (h : RSt σ q G room left calls L) (hl : -1 ≤ left ∧ left ≤ 9223372036854775807) (hc : 0 ≤ calls ∧ calls < 9223372036854775807) :
    ACalls Tryd.prog n_rsCall [.ptr q 0] σ (fun v σ' => v = .bool (decide (left ≠ 0)) ∧ σ' = σ.set q (.obj [.int .i64 room, .int .i64 (leftB left), .int .i64 (calls + 1), rsl G L.length])) := by
  refine s_rsCall (fun wf => ?_)
  unfold c_rsCall
  have ho := h.obj
  have e1 : IntKind.i64.wrap (calls + 1) = calls + 1 := wrap64 (by omega) (by omega)
  refine T.seq_k (fun K_h0 h0 => ?_)
  refine T.regi hm ?_
  simp only [↓reduceIte, namesOf, List.any, I.names, aopsI, astep, ev, setd, List.set, List.cons_append, List.nil_append, List.length_cons, List.length_nil, List.replicate, then_normal, Bool.or_false, Bool.false_eq_true, up_zero, Nat.reduceAdd, Nat.reduceSub]
  refine h0 _ _ ?_
  try clear h0 K_h0
  refine T.seq_k (fun K_h0 h0 => ?_)
  refine T.regi hm ?_
  simp only [↓reduceIte, namesOf, List.any, I.names, aopsI, astep, ev, setd, List.set, List.getD, List.getElem?_cons_zero, List.getElem?_cons_succ, List.cons_append, List.nil_append, List.length_cons, List.length_nil, then_normal, Option.getD_some, Bool.or_false, Bool.false_eq_true, up_zero, Nat.reduceAdd, binv, ↓opt_def, AV.isAny, AV.cells, ldc, eq_self, decide_true, ho, e1, AV.fits, AV.one, List.all_cons, List.all_nil, Nat.reduceBEq, Bool.not_false, Bool.and_self, Nat.zero_add, splice, List.take, List.drop, Nat.reduceLeDiff]
  refine h0 _ _ ?_
  try clear h0 K_h0
  refine T.seq_k (fun K_h1 h1 => ?_)
  by_cases c0 : left = 0
  · subst c0
    refine T.seq_k (fun K_h0 h0 => ?_)
    refine T.regi hm ?_
    simp only [↓reduceIte, namesOf, List.any, I.names, aopsI, astep, ev, setd, List.set, List.getD, List.getElem?_cons_zero, List.getElem?_cons_succ, then_normal, Option.getD_some, Bool.or_false, Bool.false_eq_true, up_zero, binv, ↓opt_def, ldc, St.set_same, eq_self, Nat.zero_add, beq_self_eq_true]
    refine h0 _ _ ?_
    try clear h0 K_h0
    refine T.cond rfl (fun _ => ?_) (fun h => by cases h)
    refine T.seq_k (fun K_h0 h0 => ?_)
    refine T.regi hm ?_
    simp only [↓reduceIte, namesOf, List.any, I.names, aopsI, astep, ev, setd, List.set, List.getD, List.getElem?_cons_zero, List.getElem?_cons_succ, List.cons_append, List.nil_append, List.length_cons, List.length_nil, then_normal, Option.getD_some, Bool.or_false, Bool.false_eq_true, up_zero, Nat.reduceAdd, AV.isAny, AV.cells, St.set_same, eq_self, decide_true, AV.fits, AV.one, List.all_cons, List.all_nil, Nat.reduceBEq, Bool.not_false, Bool.and_self, Nat.zero_add, splice, List.take, List.drop, Nat.reduceLeDiff, St.set_set]
    refine h0 _ _ ?_
    try clear h0 K_h0
    refine T.seq_k (fun K_h0 h0 => ?_)
    refine T.regi hm ?_
    simp only [↓reduceIte, namesOf, List.any, I.names, aopsI, astep, ev, setd, List.set, then_normal, Bool.or_false, Bool.false_eq_true, up_zero]
    refine h0 _ _ ?_
    try clear h0 K_h0
    exact T.ret (Fin.ret rfl ⟨rfl, rfl⟩)
  have e2 : (left == 0) = false := by simpa using c0
  have ed : decide (left ≠ 0) = true := decide_eq_true c0
  refine T.seq_k (fun K_h0 h0 => ?_)
  refine T.regi hm ?_
  simp only [↓reduceIte, namesOf, List.any, I.names, aopsI, astep, ev, setd, List.set, List.getD, List.getElem?_cons_zero, List.getElem?_cons_succ, then_normal, Option.getD_some, Bool.or_false, Bool.false_eq_true, up_zero, binv, ↓opt_def, ldc, St.set_same, eq_self, Nat.zero_add, e2]
  refine h0 _ _ ?_
  try clear h0 K_h0
  refine T.cond rfl (fun h => by cases h) (fun _ => T.skip ?_)
  refine h1 _ _ ?_
  try clear h1 K_h1
  refine T.seq_k (fun K_h1 h1 => ?_)
  by_cases c1 : left > 0
  · have e3 : decide (left > 0) = true := decide_eq_true c1
    have e4 : IntKind.i64.wrap (left - 1) = left - 1 := wrap64 (by omega) (by omega)
    have e5 : leftB left = left - 1 := by rw [leftB, if_pos c1]
    refine T.seq_k (fun K_h0 h0 => ?_)
    refine T.regi hm ?_
    simp only [↓reduceIte, namesOf, List.any, I.names, aopsI, astep, ev, setd, List.set, List.getD, List.getElem?_cons_zero, List.getElem?_cons_succ, then_normal, Option.getD_some, Bool.or_false, Bool.false_eq_true, up_zero, binv, ↓opt_def, ldc, St.set_same, eq_self, Nat.zero_add, e3]
    refine h0 _ _ ?_
    try clear h0 K_h0
    refine T.cond rfl (fun _ => ?_) (fun h => by cases h)
    refine T.regi hm ?_
    simp only [↓reduceIte, namesOf, List.any, I.names, aopsI, astep, ev, setd, List.set, List.getD, List.getElem?_cons_zero, List.getElem?_cons_succ, List.cons_append, List.nil_append, List.length_cons, List.length_nil, then_normal, Option.getD_some, Bool.or_false, Bool.false_eq_true, up_zero, Nat.reduceAdd, binv, ↓opt_def, AV.isAny, AV.cells, ldc, St.set_same, eq_self, decide_true, AV.fits, AV.one, List.all_cons, List.all_nil, Nat.reduceBEq, Bool.not_false, Bool.and_self, Nat.zero_add, splice, List.take, List.drop, Nat.reduceLeDiff, St.set_set, e4]
    refine h1 _ _ ?_
    try clear h1 K_h1
    refine T.seq_k (fun K_h0 h0 => ?_)
    refine T.regi hm ?_
    simp only [↓reduceIte, namesOf, List.any, I.names, aopsI, astep, ev, setd, List.set, then_normal, Bool.or_false, Bool.false_eq_true, up_zero]
    refine h0 _ _ ?_
    try clear h0 K_h0
    exact T.ret (Fin.ret rfl ⟨by rw [ed]; rfl, by rw [e5]⟩)
  · have e3 : decide (left > 0) = false := decide_eq_false c1
    have e5 : leftB left = left := by rw [leftB, if_neg c1]; omega
    refine T.seq_k (fun K_h0 h0 => ?_)
    refine T.regi hm ?_
    simp only [↓reduceIte, namesOf, List.any, I.names, aopsI, astep, ev, setd, List.set, List.getD, List.getElem?_cons_zero, List.getElem?_cons_succ, then_normal, Option.getD_some, Bool.or_false, Bool.false_eq_true, up_zero, binv, ↓opt_def, ldc, St.set_same, eq_self, Nat.zero_add, e3]
    refine h0 _ _ ?_
    try clear h0 K_h0
    refine T.cond rfl (fun h => by cases h) (fun _ => T.skip ?_)
    refine h1 _ _ ?_
    try clear h1 K_h1
    refine T.seq_k (fun K_h0 h0 => ?_)
    refine T.regi hm ?_
    simp only [↓reduceIte, namesOf, List.any, I.names, aopsI, astep, ev, setd, List.set, then_normal, Bool.or_false, Bool.false_eq_true, up_zero]
    refine h0 _ _ ?_
    try clear h0 K_h0
    exact T.ret (Fin.ret rfl ⟨by rw [ed]; rfl, by rw [e5]⟩)

/-- one byte: is it odd? -/
theorem oddC_eq (c : Int) : oddC c = !(decide (c ≥ 97) && decide (c ≤ 122) || (decide (c ≥ 48) && decide (c ≤ 57)) || c == 47 || c == 45) := rfl

set_option maxRecDepth 10000 in
theorem rsNamed_ok {s : ByteArray} {σ : St} (hs : s.size ≤ 4611686018427387904) : ACalls Tryd.prog n_rsNamed [.str s] σ (fun v σ' => v = .bool (rnamed s) ∧ σ' = σ) := by
  refine s_rsNamed (fun wf => ?_)
  unfold c_rsNamed
  refine T.seq_k (fun K_h0 h0 => ?_)
  refine T.regi hm ?_
  simp only [↓reduceIte, namesOf, List.any, I.names, aopsI, astep, ev, setd, List.set, List.cons_append, List.nil_append, List.length_cons, List.length_nil, List.replicate, then_normal, Bool.or_false, Bool.false_eq_true, up_zero, Nat.reduceAdd, Nat.reduceSub]
  refine h0 _ _ ?_
  try clear h0 K_h0
  refine T.seq_k (fun K_h1 h1 => ?_)
  refine T.seq_k (fun K_h0 h0 => ?_)
  refine T.regi hm ?_
  simp only [↓reduceIte, namesOf, List.any, I.names, aopsI, astep, ev, setd, List.set, then_normal, Bool.or_false, Bool.false_eq_true, up_zero]
  refine h0 _ _ ?_
  try clear h0 K_h0
  refine T.block ?_
  refine T.gh (Gh.keep [0, 3]) ?_
  refine T.loopi (fun i ρ t => t = σ ∧ (s.data.toList.take i).all (fun c => !oddC (c.toNat : Int)) = true ∧ ρ = [.str s, .any, .any, .int .i64 (i : Int)] ++ List.replicate 41 .any)
    s.size 0 (Nat.zero_le _) ⟨rfl, by simp, rfl⟩ ?_
  rintro i ρ t hi ⟨rfl, hall, rfl⟩
  refine T.seq_k (fun K_h2 h2 => ?_)
  by_cases hil : i < s.size
  case neg =>
    have f1 : decide ((i : Int) < (s.size : Int)) = false := decide_eq_false (by omega)
    refine T.seq_k (fun K_h0 h0 => ?_)
    refine T.regi hm ?_
    simp only [↓reduceIte, namesOf, List.any, I.names, aopsI, astep, ev, setd, List.set, List.getD, List.getElem?_cons_zero, List.getElem?_cons_succ, List.cons_append, List.nil_append, List.replicate, then_normal, Option.getD_some, Bool.or_false, Bool.false_eq_true, up_zero, binv, ↓opt_def, eq_self, f1]
    refine h0 _ _ ?_
    try clear h0 K_h0
    refine T.cond rfl (fun h => by cases h) (fun _ => T.exit ?_)
    try simp only [List.cons_append, List.nil_append, List.replicate, then_normal, inBlock_exit, then_exit]
    refine h1 _ _ ?_
    try clear h1 K_h1
    have hie : i = s.data.toList.length := by
      have : s.data.toList.length = s.size := by simp
      omega
    rw [hie, List.take_length] at hall
    by_cases c1 : 0 < s.size
    · have g1 : decide ((s.size : Int) > 0) = true := decide_eq_true (by omega)
      have g2 : decide (0 < s.size) = true := decide_eq_true c1
      have g3 : decide ((s.size : Int) ≤ 32) = decide (s.size ≤ 32) := by rw [Bool.eq_iff_iff]; simp only [decide_eq_true_eq]; omega
      refine T.seq_k (fun K_h0 h0 => ?_)
      refine T.regi hm ?_
      simp only [↓reduceIte, namesOf, List.any, I.names, aopsI, astep, ev, setd, List.set, List.getD, List.getElem?_cons_zero, List.getElem?_cons_succ, then_normal, Option.getD_some, Bool.or_false, Bool.false_eq_true, up_zero, binv, ↓opt_def, eq_self, g1, g3]
      refine h0 _ _ ?_
      try clear h0 K_h0
      exact T.ret (Fin.ret rfl ⟨by unfold rnamed; rw [hall, g2]; rfl, rfl⟩)
    · have g1 : decide ((s.size : Int) > 0) = false := decide_eq_false (by omega)
      have g2 : decide (0 < s.size) = false := decide_eq_false c1
      refine T.seq_k (fun K_h0 h0 => ?_)
      refine T.regi hm ?_
      simp only [↓reduceIte, namesOf, List.any, I.names, aopsI, astep, ev, setd, List.set, List.getD, List.getElem?_cons_zero, List.getElem?_cons_succ, then_normal, Option.getD_some, Bool.or_false, Bool.false_eq_true, up_zero, binv, ↓opt_def, eq_self, g1]
      refine h0 _ _ ?_
      try clear h0 K_h0
      exact T.ret (Fin.ret rfl ⟨by unfold rnamed; rw [hall, g2]; rfl, rfl⟩)
  have f1 : decide ((i : Int) < (s.size : Int)) = true := decide_eq_true (by omega)
  have hl : i < s.data.toList.length := by simpa using hil
  obtain ⟨c, hc⟩ : ∃ c, s.data.toList[i]? = some c := ⟨_, List.getElem?_eq_getElem hl⟩
  have hw := inc64' hil (by omega)
  refine T.seq_k (fun K_h0 h0 => ?_)
  refine T.regi hm ?_
  simp only [↓reduceIte, namesOf, List.any, I.names, aopsI, astep, ev, setd, List.set, List.getD, List.getElem?_cons_zero, List.getElem?_cons_succ, List.cons_append, List.nil_append, List.replicate, then_normal, Option.getD_some, Bool.or_false, Bool.false_eq_true, up_zero, binv, ↓opt_def, eq_self, f1]
  refine h0 _ _ ?_
  try clear h0 K_h0
  refine T.cond rfl (fun _ => T.skip ?_) (fun h => by cases h)
  refine h2 _ _ ?_
  try clear h2 K_h2
  refine T.seq_k (fun K_h3 h3 => ?_)
  refine T.block ?_
  have hii : (i : Int) < (s.size : Int) := by omega
  refine T.seq_k (fun K_h0 h0 => ?_)
  refine T.regi hm ?_
  simp only [↓reduceIte, namesOf, List.any, I.names, aopsI, astep, ev, setd, List.set, List.getD, List.getElem?_cons_zero, List.getElem?_cons_succ, List.cons_append, List.nil_append, List.replicate, then_normal, Option.getD_some, Bool.or_false, Bool.false_eq_true, up_zero, Int.natCast_nonneg, Int.toNat_natCast, and_true, hii, hc]
  refine h0 _ _ ?_
  try clear h0 K_h0
  have htk : (s.data.toList.take (i + 1)).all (fun c => !oddC (c.toNat : Int)) = !oddC (c.toNat : Int) := by
    obtain ⟨_, rfl⟩ := List.getElem?_eq_some_iff.1 hc
    rw [List.take_succ_eq_append_getElem hl, List.all_append, hall, Bool.true_and, List.all_cons, List.all_nil, Bool.and_true]
  have hno : oddC (c.toNat : Int) = true → rnamed s = false := fun h => by
    unfold rnamed
    have : s.data.toList.all (fun c => !oddC (c.toNat : Int)) = false := by
      rw [List.all_eq_false]; exact ⟨c, List.mem_of_getElem? hc, by simp [h]⟩
    rw [this]; rfl
  have hodd := oddC_eq (c.toNat : Int)
  generalize oddC (c.toNat : Int) = o at htk hno hodd
  generalize (c.toNat : Int) = n at hodd ⊢
  cases a1 : decide (n ≥ 97) with
  | true =>
    cases a2 : decide (n ≤ 122) with
    | true =>
      refine T.seq_k (fun K_h0 h0 => ?_)
      refine T.regi hm ?_
      simp only [↓reduceIte, namesOf, List.any, I.names, aopsI, astep, ev, setd, List.set, List.getD, List.getElem?_cons_zero, List.getElem?_cons_succ, List.cons_append, List.nil_append, List.replicate, then_normal, Option.getD_some, Bool.or_false, Bool.false_eq_true, up_zero, binv, ↓opt_def, eq_self, reduceCtorEq, a1, a2]
      refine h0 _ _ ?_
      try clear h0 K_h0
      refine T.cond rfl (fun h => by cases h) (fun _ => T.skip ?_)
      try simp only [List.cons_append, List.nil_append, List.replicate, then_normal, inBlock_normal, inBlock_normal]
      refine h3 _ _ ?_
      try clear h3 K_h3
      refine T.regi hm ?_
      simp only [↓reduceIte, namesOf, List.any, I.names, aopsI, astep, ev, setd, List.set, List.getD, List.getElem?_cons_zero, List.getElem?_cons_succ, List.cons_append, List.nil_append, List.replicate, then_normal, Option.getD_some, Bool.or_false, Bool.false_eq_true, up_zero, binv, ↓opt_def, eq_self, hw]
      exact ⟨hil, _, _, Gh.keep [0, 3], rfl, by rw [htk, hodd]; simp [a1, a2], rfl⟩
    | false =>
      cases a3 : decide (n ≥ 48) with
      | true =>
        cases a4 : decide (n ≤ 57) with
        | true =>
          refine T.seq_k (fun K_h0 h0 => ?_)
          refine T.regi hm ?_
          simp only [↓reduceIte, namesOf, List.any, I.names, aopsI, astep, ev, setd, List.set, List.getD, List.getElem?_cons_zero, List.getElem?_cons_succ, List.cons_append, List.nil_append, List.replicate, then_normal, Option.getD_some, Bool.or_false, Bool.false_eq_true, up_zero, binv, ↓opt_def, eq_self, reduceCtorEq, a1, a2, a3, a4]
          refine h0 _ _ ?_
          try clear h0 K_h0
          refine T.cond rfl (fun h => by cases h) (fun _ => T.skip ?_)
          try simp only [List.cons_append, List.nil_append, List.replicate, then_normal, inBlock_normal, inBlock_normal]
          refine h3 _ _ ?_
          try clear h3 K_h3
          refine T.regi hm ?_
          simp only [↓reduceIte, namesOf, List.any, I.names, aopsI, astep, ev, setd, List.set, List.getD, List.getElem?_cons_zero, List.getElem?_cons_succ, List.cons_append, List.nil_append, List.replicate, then_normal, Option.getD_some, Bool.or_false, Bool.false_eq_true, up_zero, binv, ↓opt_def, eq_self, hw]
          exact ⟨hil, _, _, Gh.keep [0, 3], rfl, by rw [htk, hodd]; simp [a1, a2, a3, a4], rfl⟩
        | false =>
          cases a5 : (n == 47) with
          | true =>
            refine T.seq_k (fun K_h0 h0 => ?_)
            refine T.regi hm ?_
            simp only [↓reduceIte, namesOf, List.any, I.names, aopsI, astep, ev, setd, List.set, List.getD, List.getElem?_cons_zero, List.getElem?_cons_succ, List.cons_append, List.nil_append, List.replicate, then_normal, Option.getD_some, Bool.or_false, Bool.false_eq_true, up_zero, binv, ↓opt_def, eq_self, reduceCtorEq, a1, a2, a3, a4, a5]
            refine h0 _ _ ?_
            try clear h0 K_h0
            refine T.cond rfl (fun h => by cases h) (fun _ => T.skip ?_)
            try simp only [List.cons_append, List.nil_append, List.replicate, then_normal, inBlock_normal, inBlock_normal]
            refine h3 _ _ ?_
            try clear h3 K_h3
            refine T.regi hm ?_
            simp only [↓reduceIte, namesOf, List.any, I.names, aopsI, astep, ev, setd, List.set, List.getD, List.getElem?_cons_zero, List.getElem?_cons_succ, List.cons_append, List.nil_append, List.replicate, then_normal, Option.getD_some, Bool.or_false, Bool.false_eq_true, up_zero, binv, ↓opt_def, eq_self, hw]
            exact ⟨hil, _, _, Gh.keep [0, 3], rfl, by rw [htk, hodd]; simp [a1, a2, a3, a4, a5], rfl⟩
          | false =>
            cases a6 : (n == 45) with
            | true =>
              refine T.seq_k (fun K_h0 h0 => ?_)
              refine T.regi hm ?_
              simp only [↓reduceIte, namesOf, List.any, I.names, aopsI, astep, ev, setd, List.set, List.getD, List.getElem?_cons_zero, List.getElem?_cons_succ, List.cons_append, List.nil_append, List.replicate, then_normal, Option.getD_some, Bool.or_false, Bool.false_eq_true, up_zero, binv, ↓opt_def, eq_self, a1, a2, a3, a4, a5, a6]
              refine h0 _ _ ?_
              try clear h0 K_h0
              refine T.cond rfl (fun h => by cases h) (fun _ => T.skip ?_)
              try simp only [List.cons_append, List.nil_append, List.replicate, then_normal, inBlock_normal, inBlock_normal]
              refine h3 _ _ ?_
              try clear h3 K_h3
              refine T.regi hm ?_
              simp only [↓reduceIte, namesOf, List.any, I.names, aopsI, astep, ev, setd, List.set, List.getD, List.getElem?_cons_zero, List.getElem?_cons_succ, List.cons_append, List.nil_append, List.replicate, then_normal, Option.getD_some, Bool.or_false, Bool.false_eq_true, up_zero, binv, ↓opt_def, eq_self, hw]
              exact ⟨hil, _, _, Gh.keep [0, 3], rfl, by rw [htk, hodd]; simp [a1, a2, a3, a4, a5, a6], rfl⟩
            | false =>
              refine T.seq_k (fun K_h0 h0 => ?_)
              refine T.regi hm ?_
              simp only [↓reduceIte, namesOf, List.any, I.names, aopsI, astep, ev, setd, List.set, List.getD, List.getElem?_cons_zero, List.getElem?_cons_succ, List.cons_append, List.nil_append, List.replicate, then_normal, Option.getD_some, Bool.or_false, Bool.false_eq_true, up_zero, binv, ↓opt_def, eq_self, a1, a2, a3, a4, a5, a6]
              refine h0 _ _ ?_
              try clear h0 K_h0
              refine T.cond rfl (fun _ => ?_) (fun h => by cases h)
              refine T.seq_k (fun K_h0 h0 => ?_)
              refine T.regi hm ?_
              simp only [↓reduceIte, namesOf, List.any, I.names, aopsI, astep, ev, setd, List.set, List.cons_append, List.nil_append, List.replicate, then_normal, Bool.or_false, Bool.false_eq_true, up_zero]
              refine h0 _ _ ?_
              try clear h0 K_h0
              exact T.ret (Fin.ret rfl ⟨by rw [hno (by rw [hodd]; simp [a1, a2, a3, a4, a5, a6])]; rfl, rfl⟩)
      | false =>
        cases a5 : (n == 47) with
        | true =>
          refine T.seq_k (fun K_h0 h0 => ?_)
          refine T.regi hm ?_
          simp only [↓reduceIte, namesOf, List.any, I.names, aopsI, astep, ev, setd, List.set, List.getD, List.getElem?_cons_zero, List.getElem?_cons_succ, List.cons_append, List.nil_append, List.replicate, then_normal, Option.getD_some, Bool.or_false, Bool.false_eq_true, up_zero, binv, ↓opt_def, eq_self, reduceCtorEq, a1, a2, a3, a5]
          refine h0 _ _ ?_
          try clear h0 K_h0
          refine T.cond rfl (fun h => by cases h) (fun _ => T.skip ?_)
          try simp only [List.cons_append, List.nil_append, List.replicate, then_normal, inBlock_normal, inBlock_normal]
          refine h3 _ _ ?_
          try clear h3 K_h3
          refine T.regi hm ?_
          simp only [↓reduceIte, namesOf, List.any, I.names, aopsI, astep, ev, setd, List.set, List.getD, List.getElem?_cons_zero, List.getElem?_cons_succ, List.cons_append, List.nil_append, List.replicate, then_normal, Option.getD_some, Bool.or_false, Bool.false_eq_true, up_zero, binv, ↓opt_def, eq_self, hw]
          exact ⟨hil, _, _, Gh.keep [0, 3], rfl, by rw [htk, hodd]; simp [a1, a2, a3, a5], rfl⟩
        | false =>
          cases a6 : (n == 45) with
          | true =>
            refine T.seq_k (fun K_h0 h0 => ?_)
            refine T.regi hm ?_
            simp only [↓reduceIte, namesOf, List.any, I.names, aopsI, astep, ev, setd, List.set, List.getD, List.getElem?_cons_zero, List.getElem?_cons_succ, List.cons_append, List.nil_append, List.replicate, then_normal, Option.getD_some, Bool.or_false, Bool.false_eq_true, up_zero, binv, ↓opt_def, eq_self, a1, a2, a3, a5, a6]
            refine h0 _ _ ?_
            try clear h0 K_h0
            refine T.cond rfl (fun h => by cases h) (fun _ => T.skip ?_)
            try simp only [List.cons_append, List.nil_append, List.replicate, then_normal, inBlock_normal, inBlock_normal]
            refine h3 _ _ ?_
            try clear h3 K_h3
            refine T.regi hm ?_
            simp only [↓reduceIte, namesOf, List.any, I.names, aopsI, astep, ev, setd, List.set, List.getD, List.getElem?_cons_zero, List.getElem?_cons_succ, List.cons_append, List.nil_append, List.replicate, then_normal, Option.getD_some, Bool.or_false, Bool.false_eq_true, up_zero, binv, ↓opt_def, eq_self, hw]
            exact ⟨hil, _, _, Gh.keep [0, 3], rfl, by rw [htk, hodd]; simp [a1, a2, a3, a5, a6], rfl⟩
          | false =>
            refine T.seq_k (fun K_h0 h0 => ?_)
            refine T.regi hm ?_
            simp only [↓reduceIte, namesOf, List.any, I.names, aopsI, astep, ev, setd, List.set, List.getD, List.getElem?_cons_zero, List.getElem?_cons_succ, List.cons_append, List.nil_append, List.replicate, then_normal, Option.getD_some, Bool.or_false, Bool.false_eq_true, up_zero, binv, ↓opt_def, eq_self, a1, a2, a3, a5, a6]
            refine h0 _ _ ?_
            try clear h0 K_h0
            refine T.cond rfl (fun _ => ?_) (fun h => by cases h)
            refine T.seq_k (fun K_h0 h0 => ?_)
            refine T.regi hm ?_
            simp only [↓reduceIte, namesOf, List.any, I.names, aopsI, astep, ev, setd, List.set, List.cons_append, List.nil_append, List.replicate, then_normal, Bool.or_false, Bool.false_eq_true, up_zero]
            refine h0 _ _ ?_
            try clear h0 K_h0
            exact T.ret (Fin.ret rfl ⟨by rw [hno (by rw [hodd]; simp [a1, a2, a3, a5, a6])]; rfl, rfl⟩)
  | false =>
    cases a3 : decide (n ≥ 48) with
    | true =>
      cases a4 : decide (n ≤ 57) with
      | true =>
        refine T.seq_k (fun K_h0 h0 => ?_)
        refine T.regi hm ?_
        simp only [↓reduceIte, namesOf, List.any, I.names, aopsI, astep, ev, setd, List.set, List.getD, List.getElem?_cons_zero, List.getElem?_cons_succ, List.cons_append, List.nil_append, List.replicate, then_normal, Option.getD_some, Bool.or_false, Bool.false_eq_true, up_zero, binv, ↓opt_def, eq_self, reduceCtorEq, a1, a3, a4]
        refine h0 _ _ ?_
        try clear h0 K_h0
        refine T.cond rfl (fun h => by cases h) (fun _ => T.skip ?_)
        try simp only [List.cons_append, List.nil_append, List.replicate, then_normal, inBlock_normal, inBlock_normal]
        refine h3 _ _ ?_
        try clear h3 K_h3
        refine T.regi hm ?_
        simp only [↓reduceIte, namesOf, List.any, I.names, aopsI, astep, ev, setd, List.set, List.getD, List.getElem?_cons_zero, List.getElem?_cons_succ, List.cons_append, List.nil_append, List.replicate, then_normal, Option.getD_some, Bool.or_false, Bool.false_eq_true, up_zero, binv, ↓opt_def, eq_self, hw]
        exact ⟨hil, _, _, Gh.keep [0, 3], rfl, by rw [htk, hodd]; simp [a1, a3, a4], rfl⟩
      | false =>
        cases a5 : (n == 47) with
        | true =>
          refine T.seq_k (fun K_h0 h0 => ?_)
          refine T.regi hm ?_
          simp only [↓reduceIte, namesOf, List.any, I.names, aopsI, astep, ev, setd, List.set, List.getD, List.getElem?_cons_zero, List.getElem?_cons_succ, List.cons_append, List.nil_append, List.replicate, then_normal, Option.getD_some, Bool.or_false, Bool.false_eq_true, up_zero, binv, ↓opt_def, eq_self, reduceCtorEq, a1, a3, a4, a5]
          refine h0 _ _ ?_
          try clear h0 K_h0
          refine T.cond rfl (fun h => by cases h) (fun _ => T.skip ?_)
          try simp only [List.cons_append, List.nil_append, List.replicate, then_normal, inBlock_normal, inBlock_normal]
          refine h3 _ _ ?_
          try clear h3 K_h3
          refine T.regi hm ?_
          simp only [↓reduceIte, namesOf, List.any, I.names, aopsI, astep, ev, setd, List.set, List.getD, List.getElem?_cons_zero, List.getElem?_cons_succ, List.cons_append, List.nil_append, List.replicate, then_normal, Option.getD_some, Bool.or_false, Bool.false_eq_true, up_zero, binv, ↓opt_def, eq_self, hw]
          exact ⟨hil, _, _, Gh.keep [0, 3], rfl, by rw [htk, hodd]; simp [a1, a3, a4, a5], rfl⟩
        | false =>
          cases a6 : (n == 45) with
          | true =>
            refine T.seq_k (fun K_h0 h0 => ?_)
            refine T.regi hm ?_
            simp only [↓reduceIte, namesOf, List.any, I.names, aopsI, astep, ev, setd, List.set, List.getD, List.getElem?_cons_zero, List.getElem?_cons_succ, List.cons_append, List.nil_append, List.replicate, then_normal, Option.getD_some, Bool.or_false, Bool.false_eq_true, up_zero, binv, ↓opt_def, eq_self, a1, a3, a4, a5, a6]
            refine h0 _ _ ?_
            try clear h0 K_h0
            refine T.cond rfl (fun h => by cases h) (fun _ => T.skip ?_)
            try simp only [List.cons_append, List.nil_append, List.replicate, then_normal, inBlock_normal, inBlock_normal]
            refine h3 _ _ ?_
            try clear h3 K_h3
            refine T.regi hm ?_
            simp only [↓reduceIte, namesOf, List.any, I.names, aopsI, astep, ev, setd, List.set, List.getD, List.getElem?_cons_zero, List.getElem?_cons_succ, List.cons_append, List.nil_append, List.replicate, then_normal, Option.getD_some, Bool.or_false, Bool.false_eq_true, up_zero, binv, ↓opt_def, eq_self, hw]
            exact ⟨hil, _, _, Gh.keep [0, 3], rfl, by rw [htk, hodd]; simp [a1, a3, a4, a5, a6], rfl⟩
          | false =>
            refine T.seq_k (fun K_h0 h0 => ?_)
            refine T.regi hm ?_
            simp only [↓reduceIte, namesOf, List.any, I.names, aopsI, astep, ev, setd, List.set, List.getD, List.getElem?_cons_zero, List.getElem?_cons_succ, List.cons_append, List.nil_append, List.replicate, then_normal, Option.getD_some, Bool.or_false, Bool.false_eq_true, up_zero, binv, ↓opt_def, eq_self, a1, a3, a4, a5, a6]
            refine h0 _ _ ?_
            try clear h0 K_h0
            refine T.cond rfl (fun _ => ?_) (fun h => by cases h)
            refine T.seq_k (fun K_h0 h0 => ?_)
            refine T.regi hm ?_
            simp only [↓reduceIte, namesOf, List.any, I.names, aopsI, astep, ev, setd, List.set, List.cons_append, List.nil_append, List.replicate, then_normal, Bool.or_false, Bool.false_eq_true, up_zero]
            refine h0 _ _ ?_
            try clear h0 K_h0
            exact T.ret (Fin.ret rfl ⟨by rw [hno (by rw [hodd]; simp [a1, a3, a4, a5, a6])]; rfl, rfl⟩)
    | false =>
      cases a5 : (n == 47) with
      | true =>
        refine T.seq_k (fun K_h0 h0 => ?_)
        refine T.regi hm ?_
        simp only [↓reduceIte, namesOf, List.any, I.names, aopsI, astep, ev, setd, List.set, List.getD, List.getElem?_cons_zero, List.getElem?_cons_succ, List.cons_append, List.nil_append, List.replicate, then_normal, Option.getD_some, Bool.or_false, Bool.false_eq_true, up_zero, binv, ↓opt_def, eq_self, reduceCtorEq, a1, a3, a5]
        refine h0 _ _ ?_
        try clear h0 K_h0
        refine T.cond rfl (fun h => by cases h) (fun _ => T.skip ?_)
        try simp only [List.cons_append, List.nil_append, List.replicate, then_normal, inBlock_normal, inBlock_normal]
        refine h3 _ _ ?_
        try clear h3 K_h3
        refine T.regi hm ?_
        simp only [↓reduceIte, namesOf, List.any, I.names, aopsI, astep, ev, setd, List.set, List.getD, List.getElem?_cons_zero, List.getElem?_cons_succ, List.cons_append, List.nil_append, List.replicate, then_normal, Option.getD_some, Bool.or_false, Bool.false_eq_true, up_zero, binv, ↓opt_def, eq_self, hw]
        exact ⟨hil, _, _, Gh.keep [0, 3], rfl, by rw [htk, hodd]; simp [a1, a3, a5], rfl⟩
      | false =>
        cases a6 : (n == 45) with
        | true =>
          refine T.seq_k (fun K_h0 h0 => ?_)
          refine T.regi hm ?_
          simp only [↓reduceIte, namesOf, List.any, I.names, aopsI, astep, ev, setd, List.set, List.getD, List.getElem?_cons_zero, List.getElem?_cons_succ, List.cons_append, List.nil_append, List.replicate, then_normal, Option.getD_some, Bool.or_false, Bool.false_eq_true, up_zero, binv, ↓opt_def, eq_self, a1, a3, a5, a6]
          refine h0 _ _ ?_
          try clear h0 K_h0
          refine T.cond rfl (fun h => by cases h) (fun _ => T.skip ?_)
          try simp only [List.cons_append, List.nil_append, List.replicate, then_normal, inBlock_normal, inBlock_normal]
          refine h3 _ _ ?_
          try clear h3 K_h3
          refine T.regi hm ?_
          simp only [↓reduceIte, namesOf, List.any, I.names, aopsI, astep, ev, setd, List.set, List.getD, List.getElem?_cons_zero, List.getElem?_cons_succ, List.cons_append, List.nil_append, List.replicate, then_normal, Option.getD_some, Bool.or_false, Bool.false_eq_true, up_zero, binv, ↓opt_def, eq_self, hw]
          exact ⟨hil, _, _, Gh.keep [0, 3], rfl, by rw [htk, hodd]; simp [a1, a3, a5, a6], rfl⟩
        | false =>
          refine T.seq_k (fun K_h0 h0 => ?_)
          refine T.regi hm ?_
          simp only [↓reduceIte, namesOf, List.any, I.names, aopsI, astep, ev, setd, List.set, List.getD, List.getElem?_cons_zero, List.getElem?_cons_succ, List.cons_append, List.nil_append, List.replicate, then_normal, Option.getD_some, Bool.or_false, Bool.false_eq_true, up_zero, binv, ↓opt_def, eq_self, a1, a3, a5, a6]
          refine h0 _ _ ?_
          try clear h0 K_h0
          refine T.cond rfl (fun _ => ?_) (fun h => by cases h)
          refine T.seq_k (fun K_h0 h0 => ?_)
          refine T.regi hm ?_
          simp only [↓reduceIte, namesOf, List.any, I.names, aopsI, astep, ev, setd, List.set, List.cons_append, List.nil_append, List.replicate, then_normal, Bool.or_false, Bool.false_eq_true, up_zero]
          refine h0 _ _ ?_
          try clear h0 K_h0
          exact T.ret (Fin.ret rfl ⟨by rw [hno (by rw [hodd]; simp [a1, a3, a5, a6])]; rfl, rfl⟩)

set_option maxRecDepth 10000 in
theorem rsAt_ok {q : Nat} {G : Option Nat} {room left calls : Int} {L : Objs} {k : ByteArray} {σ : St} (h : RSt σ q G room left calls L) (hl : L.length ≤ 1000000) :
    ACalls Tryd.prog n_rsAt [.ptr q 0, .str k] σ (fun v σ' => v = .int .i64 (if atR k L < L.length then (atR k L : Int) else -1) ∧ σ' = σ) := by
  refine s_rsAt (fun wf => ?_)
  unfold c_rsAt
  have ho := h.obj
  cases G with
  | none =>
    have hnil := h.nil rfl
    subst hnil
    simp only [rsl] at ho
    refine T.seq_k (fun K_h0 h0 => ?_)
    refine T.regi hm ?_
    simp only [↓reduceIte, namesOf, List.any, I.names, aopsI, astep, ev, setd, List.set, List.cons_append, List.nil_append, List.length_cons, List.length_nil, List.replicate, then_normal, Bool.or_false, Bool.false_eq_true, up_zero, Nat.reduceAdd, Nat.reduceSub]
    refine h0 _ _ ?_
    try clear h0 K_h0
    refine T.seq_k (fun K_h1 h1 => ?_)
    refine T.seq_k (fun K_h0 h0 => ?_)
    refine T.regi hm ?_
    simp only [↓reduceIte, namesOf, List.any, I.names, aopsI, astep, ev, setd, List.set, List.length_nil, then_normal, Bool.or_false, Bool.false_eq_true, up_zero]
    refine h0 _ _ ?_
    try clear h0 K_h0
    refine T.block ?_
    refine T.gh (Gh.keep [0, 1, 5]) ?_
    refine T.loop (fun ρ t => t = σ ∧ ρ = [.ptr q 0, .str k, .any, .any, .any, .int .i64 0] ++ List.replicate 20 .any) (fun _ _ => 0) ⟨rfl, rfl⟩ ?_
    rintro ρ t ⟨rfl, rfl⟩
    refine T.seq_k (fun K_h2 h2 => ?_)
    refine T.seq_k (fun K_h0 h0 => ?_)
    refine T.regi hm ?_
    simp only [↓reduceIte, namesOf, List.any, I.names, aopsI, astep, ev, setd, List.set, List.getD, List.getElem?_cons_zero, List.getElem?_cons_succ, List.cons_append, List.nil_append, List.length_nil, List.replicate, then_normal, Option.getD_some, Bool.or_false, Bool.false_eq_true, up_zero, Nat.reduceAdd, binv, ↓opt_def, ldc, eq_self, ho]
    refine h0 _ _ ?_
    try clear h0 K_h0
    refine T.cond rfl (fun h => by cases h) (fun _ => T.exit ?_)
    try simp only [List.cons_append, List.nil_append, List.length_nil, List.replicate, then_normal, inBlock_exit, then_exit]
    refine h1 _ _ ?_
    try clear h1 K_h1
    refine T.seq_k (fun K_h0 h0 => ?_)
    refine T.regi hm ?_
    simp only [↓reduceIte, namesOf, List.any, I.names, aopsI, astep, ev, setd, List.set, List.length_nil, then_normal, Bool.or_false, Bool.false_eq_true, up_zero]
    refine h0 _ _ ?_
    try clear h0 K_h0
    exact T.ret (Fin.ret rfl ⟨rfl, rfl⟩)
  | some n =>
    have hn := (h.row n rfl).2
    simp only [rsl] at ho
    refine T.seq_k (fun K_h0 h0 => ?_)
    refine T.regi hm ?_
    simp only [↓reduceIte, namesOf, List.any, I.names, aopsI, astep, ev, setd, List.set, List.cons_append, List.nil_append, List.length_cons, List.length_nil, List.replicate, then_normal, Bool.or_false, Bool.false_eq_true, up_zero, Nat.reduceAdd, Nat.reduceSub]
    refine h0 _ _ ?_
    try clear h0 K_h0
    refine T.seq_k (fun K_h1 h1 => ?_)
    refine T.seq_k (fun K_h0 h0 => ?_)
    refine T.regi hm ?_
    simp only [↓reduceIte, namesOf, List.any, I.names, aopsI, astep, ev, setd, List.set, then_normal, Bool.or_false, Bool.false_eq_true, up_zero]
    refine h0 _ _ ?_
    try clear h0 K_h0
    refine T.block ?_
    refine T.gh (Gh.keep [0, 1, 5]) ?_
    refine T.loopi (fun i ρ t => t = σ ∧ i ≤ atR k L ∧ ρ = [.ptr q 0, .str k, .any, .any, .any, .int .i64 (i : Int)] ++ List.replicate 20 .any)
      L.length 0 (Nat.zero_le _) ⟨rfl, Nat.zero_le _, rfl⟩ ?_
    rintro i ρ t hi ⟨rfl, hia, rfl⟩
    have hal := at_le k L
    refine T.seq_k (fun K_h2 h2 => ?_)
    by_cases hil : i < L.length
    case neg =>
      refine T.seq_k (fun K_h0 h0 => ?_)
      refine T.regi hm ?_
      simp only [↓reduceIte, namesOf, List.any, I.names, aopsI, astep, ev, setd, List.set, List.getD, List.getElem?_cons_zero, List.getElem?_cons_succ, List.cons_append, List.nil_append, List.replicate, then_normal, Option.getD_some, Bool.or_false, Bool.false_eq_true, up_zero, Nat.reduceAdd, binv, ↓opt_def, ldc, lt_len, eq_self, ho, hil, decide_false]
      refine h0 _ _ ?_
      try clear h0 K_h0
      refine T.cond rfl (fun h => by cases h) (fun _ => T.exit ?_)
      try simp only [List.cons_append, List.nil_append, List.replicate, then_normal, inBlock_exit, then_exit]
      refine h1 _ _ ?_
      try clear h1 K_h1
      refine T.seq_k (fun K_h0 h0 => ?_)
      refine T.regi hm ?_
      simp only [↓reduceIte, namesOf, List.any, I.names, aopsI, astep, ev, setd, List.set, then_normal, Bool.or_false, Bool.false_eq_true, up_zero]
      refine h0 _ _ ?_
      try clear h0 K_h0
      exact T.ret (Fin.ret rfl ⟨by rw [if_neg (by omega)]; rfl, rfl⟩)
    obtain ⟨e, hx⟩ : ∃ e, L[i]? = some e := ⟨_, List.getElem?_eq_getElem hil⟩
    have hg := cR_get0 hx
    have hw := inc64' hil (by omega)
    refine T.seq_k (fun K_h0 h0 => ?_)
    refine T.regi hm ?_
    simp only [↓reduceIte, namesOf, List.any, I.names, aopsI, astep, ev, setd, List.set, List.getD, List.getElem?_cons_zero, List.getElem?_cons_succ, List.cons_append, List.nil_append, List.replicate, then_normal, Option.getD_some, Bool.or_false, Bool.false_eq_true, up_zero, Nat.reduceAdd, binv, ↓opt_def, ldc, lt_len, true_and, eq_self, decide_true, ho, hil]
    refine h0 _ _ ?_
    try clear h0 K_h0
    refine T.cond rfl (fun _ => T.skip ?_) (fun h => by cases h)
    refine h2 _ _ ?_
    try clear h2 K_h2
    refine T.seq_k (fun K_h3 h3 => ?_)
    refine T.block ?_
    by_cases hek : e.1 = k
    · have hat : atR k L = i := by
        rcases Nat.lt_or_ge i (atR k L) with h1 | h1
        · have := List.not_of_lt_findIdx h1
          obtain ⟨_, rfl⟩ := List.getElem?_eq_some_iff.1 hx
          simp [hek] at this
        · omega
      have f2 : decide (e.1 = k) = true := decide_eq_true hek
      refine T.seq_k (fun K_h0 h0 => ?_)
      refine T.regi hm ?_
      simp only [↓reduceIte, namesOf, List.any, I.names, aopsI, astep, ev, setd, List.set, List.getD, List.getElem?_cons_zero, List.getElem?_cons_succ, List.cons_append, List.nil_append, List.replicate, then_normal, Option.getD_some, Bool.or_false, Bool.false_eq_true, up_zero, Nat.reduceAdd, ↓opt_def, ldc, Int.natCast_nonneg, lt_len, Int.toNat_natCast, true_and, and_true, ho, hil, hn, hg, sbinv, f2, Nat.add_zero]
      refine h0 _ _ ?_
      try clear h0 K_h0
      refine T.cond rfl (fun _ => ?_) (fun h => by cases h)
      refine T.seq_k (fun K_h0 h0 => ?_)
      refine T.regi hm ?_
      simp only [↓reduceIte, namesOf, List.any, I.names, aopsI, astep, ev, setd, List.set, List.getD, List.getElem?_cons_zero, List.getElem?_cons_succ, List.cons_append, List.nil_append, List.replicate, then_normal, Option.getD_some, Bool.or_false, Bool.false_eq_true, up_zero]
      refine h0 _ _ ?_
      try clear h0 K_h0
      exact T.ret (Fin.ret rfl ⟨by rw [hat, if_pos hil]; rfl, rfl⟩)
    · have f2 : decide (e.1 = k) = false := decide_eq_false hek
      have hia2 : i + 1 ≤ atR k L := by
        rcases Nat.lt_or_ge i (atR k L) with h1 | h1
        · exact h1
        · have hie : atR k L = i := by omega
          have := List.findIdx_getElem (p := fun e : ByteArray × List UInt8 => decide (e.1 = k)) (xs := L) (w := by show atR k L < _; omega)
          obtain ⟨_, rfl⟩ := List.getElem?_eq_some_iff.1 hx
          simp only [decide_eq_true_eq] at this
          exfalso; apply hek; rw [← this]; congr 2
          exact hie.symm
      refine T.seq_k (fun K_h0 h0 => ?_)
      refine T.regi hm ?_
      simp only [↓reduceIte, namesOf, List.any, I.names, aopsI, astep, ev, setd, List.set, List.getD, List.getElem?_cons_zero, List.getElem?_cons_succ, List.cons_append, List.nil_append, List.replicate, then_normal, Option.getD_some, Bool.or_false, Bool.false_eq_true, up_zero, Nat.reduceAdd, ↓opt_def, ldc, Int.natCast_nonneg, lt_len, Int.toNat_natCast, true_and, and_true, ho, hil, hn, hg, sbinv, f2, Nat.add_zero]
      refine h0 _ _ ?_
      try clear h0 K_h0
      refine T.cond rfl (fun h => by cases h) (fun _ => T.skip ?_)
      try simp only [List.cons_append, List.nil_append, List.replicate, then_normal, inBlock_normal, inBlock_normal]
      refine h3 _ _ ?_
      try clear h3 K_h3
      refine T.regi hm ?_
      simp only [↓reduceIte, namesOf, List.any, I.names, aopsI, astep, ev, setd, List.set, List.getD, List.getElem?_cons_zero, List.getElem?_cons_succ, List.cons_append, List.nil_append, List.replicate, then_normal, Option.getD_some, Bool.or_false, Bool.false_eq_true, up_zero, binv, ↓opt_def, eq_self, hw]
      exact ⟨hil, _, _, Gh.keep [0, 1, 5], rfl, hia2, rfl⟩

set_option maxRecDepth 10000 in
theorem rsUsed_ok {q : Nat} {G : Option Nat} {room left calls : Int} {L : Objs} {σ : St} (h : RSt σ q G room left calls L) (hl : L.length ≤ 1000000) (hu : usedO L ≤ 1099511627776) :
    ACalls Tryd.prog n_rsUsed [.ptr q 0] σ (fun v σ' => v = .int .i64 (usedO L : Int) ∧ σ' = σ) := by
  refine s_rsUsed (fun wf => ?_)
  unfold c_rsUsed
  have ho := h.obj
  cases G with
  | none =>
    have hnil := h.nil rfl
    subst hnil
    simp only [rsl] at ho
    refine T.seq_k (fun K_h0 h0 => ?_)
    refine T.regi hm ?_
    simp only [↓reduceIte, namesOf, List.any, I.names, aopsI, astep, ev, setd, List.set, List.cons_append, List.nil_append, List.length_cons, List.length_nil, List.replicate, then_normal, Bool.or_false, Bool.false_eq_true, up_zero, Nat.reduceAdd, Nat.reduceSub]
    refine h0 _ _ ?_
    try clear h0 K_h0
    refine T.seq_k (fun K_h0 h0 => ?_)
    refine T.regi hm ?_
    simp only [↓reduceIte, namesOf, List.any, I.names, aopsI, astep, ev, setd, List.set, then_normal, Bool.or_false, Bool.false_eq_true, up_zero]
    refine h0 _ _ ?_
    try clear h0 K_h0
    refine T.seq_k (fun K_h1 h1 => ?_)
    refine T.seq_k (fun K_h0 h0 => ?_)
    refine T.regi hm ?_
    simp only [↓reduceIte, namesOf, List.any, I.names, aopsI, astep, ev, setd, List.set, then_normal, Bool.or_false, Bool.false_eq_true, up_zero]
    refine h0 _ _ ?_
    try clear h0 K_h0
    refine T.block ?_
    refine T.gh (Gh.keep [0, 3, 4]) ?_
    refine T.loop (fun ρ t => t = σ ∧ ρ = [.ptr q 0, .any, .any, .int .i64 0, .int .i64 0] ++ List.replicate 21 .any) (fun _ _ => 0) ⟨rfl, rfl⟩ ?_
    rintro ρ t ⟨rfl, rfl⟩
    refine T.seq_k (fun K_h2 h2 => ?_)
    refine T.seq_k (fun K_h0 h0 => ?_)
    refine T.regi hm ?_
    simp only [↓reduceIte, namesOf, List.any, I.names, aopsI, astep, ev, setd, List.set, List.getD, List.getElem?_cons_zero, List.getElem?_cons_succ, List.cons_append, List.nil_append, List.length_nil, List.replicate, then_normal, Option.getD_some, Bool.or_false, Bool.false_eq_true, up_zero, Nat.reduceAdd, binv, ↓opt_def, ldc, eq_self, ho]
    refine h0 _ _ ?_
    try clear h0 K_h0
    refine T.cond rfl (fun h => by cases h) (fun _ => T.exit ?_)
    try simp only [List.cons_append, List.nil_append, List.replicate, then_normal, inBlock_exit, then_exit]
    refine h1 _ _ ?_
    try clear h1 K_h1
    refine T.seq_k (fun K_h0 h0 => ?_)
    refine T.regi hm ?_
    simp only [↓reduceIte, namesOf, List.any, I.names, aopsI, astep, ev, setd, List.set, List.getD, List.getElem?_cons_zero, List.getElem?_cons_succ, then_normal, Option.getD_some, Bool.or_false, Bool.false_eq_true, up_zero]
    refine h0 _ _ ?_
    try clear h0 K_h0
    exact T.ret (Fin.ret rfl ⟨rfl, rfl⟩)
  | some n =>
    have hn := (h.row n rfl).2
    simp only [rsl] at ho
    refine T.seq_k (fun K_h0 h0 => ?_)
    refine T.regi hm ?_
    simp only [↓reduceIte, namesOf, List.any, I.names, aopsI, astep, ev, setd, List.set, List.cons_append, List.nil_append, List.length_cons, List.length_nil, List.replicate, then_normal, Bool.or_false, Bool.false_eq_true, up_zero, Nat.reduceAdd, Nat.reduceSub]
    refine h0 _ _ ?_
    try clear h0 K_h0
    refine T.seq_k (fun K_h0 h0 => ?_)
    refine T.regi hm ?_
    simp only [↓reduceIte, namesOf, List.any, I.names, aopsI, astep, ev, setd, List.set, then_normal, Bool.or_false, Bool.false_eq_true, up_zero]
    refine h0 _ _ ?_
    try clear h0 K_h0
    refine T.seq_k (fun K_h1 h1 => ?_)
    refine T.seq_k (fun K_h0 h0 => ?_)
    refine T.regi hm ?_
    simp only [↓reduceIte, namesOf, List.any, I.names, aopsI, astep, ev, setd, List.set, then_normal, Bool.or_false, Bool.false_eq_true, up_zero]
    refine h0 _ _ ?_
    try clear h0 K_h0
    refine T.block ?_
    refine T.gh (Gh.keep [0, 3, 4]) ?_
    refine T.loopi (fun i ρ t => t = σ ∧ ρ = [.ptr q 0, .any, .any, .int .i64 (usedO (L.take i) : Int), .int .i64 (i : Int)] ++ List.replicate 21 .any)
      L.length 0 (Nat.zero_le _) ⟨rfl, rfl⟩ ?_
    rintro i ρ t hi ⟨rfl, rfl⟩
    refine T.seq_k (fun K_h2 h2 => ?_)
    by_cases hil : i < L.length
    case neg =>
      refine T.seq_k (fun K_h0 h0 => ?_)
      refine T.regi hm ?_
      simp only [↓reduceIte, namesOf, List.any, I.names, aopsI, astep, ev, setd, List.set, List.getD, List.getElem?_cons_zero, List.getElem?_cons_succ, List.cons_append, List.nil_append, List.replicate, then_normal, Option.getD_some, Bool.or_false, Bool.false_eq_true, up_zero, Nat.reduceAdd, binv, ↓opt_def, ldc, lt_len, eq_self, ho, hil, decide_false]
      refine h0 _ _ ?_
      try clear h0 K_h0
      refine T.cond rfl (fun h => by cases h) (fun _ => T.exit ?_)
      try simp only [List.cons_append, List.nil_append, List.replicate, then_normal, inBlock_exit, then_exit]
      refine h1 _ _ ?_
      try clear h1 K_h1
      refine T.seq_k (fun K_h0 h0 => ?_)
      refine T.regi hm ?_
      simp only [↓reduceIte, namesOf, List.any, I.names, aopsI, astep, ev, setd, List.set, List.getD, List.getElem?_cons_zero, List.getElem?_cons_succ, then_normal, Option.getD_some, Bool.or_false, Bool.false_eq_true, up_zero]
      refine h0 _ _ ?_
      try clear h0 K_h0
      exact T.ret (Fin.ret rfl ⟨by rw [List.take_of_length_le (by omega)]; rfl, rfl⟩)
    obtain ⟨e, hx⟩ : ∃ e, L[i]? = some e := ⟨_, List.getElem?_eq_getElem hil⟩
    have hg := cR_get1 hx
    have hw := inc64' hil (by omega)
    have hsz : (⟨e.2.toArray⟩ : ByteArray).size = e.2.length := rfl
    have hus : usedO (L.take (i + 1)) = usedO (L.take i) + e.2.length := by
      obtain ⟨_, rfl⟩ := List.getElem?_eq_some_iff.1 hx
      rw [List.take_succ_eq_append_getElem hil, usedO_app]; simp [usedO]
    have hul : usedO (L.take (i + 1)) ≤ usedO L := by
      have := usedO_app (L.take (i + 1)) (L.drop (i + 1))
      rw [List.take_append_drop] at this; omega
    have hw2 : IntKind.i64.wrap ((usedO (L.take i) : Int) + (e.2.length : Int)) = (usedO (L.take (i + 1)) : Int) := by
      rw [wrap64 (by omega) (by omega)]; omega
    refine T.seq_k (fun K_h0 h0 => ?_)
    refine T.regi hm ?_
    simp only [↓reduceIte, namesOf, List.any, I.names, aopsI, astep, ev, setd, List.set, List.getD, List.getElem?_cons_zero, List.getElem?_cons_succ, List.cons_append, List.nil_append, List.replicate, then_normal, Option.getD_some, Bool.or_false, Bool.false_eq_true, up_zero, Nat.reduceAdd, binv, ↓opt_def, ldc, lt_len, true_and, eq_self, decide_true, ho, hil]
    refine h0 _ _ ?_
    try clear h0 K_h0
    refine T.cond rfl (fun _ => T.skip ?_) (fun h => by cases h)
    refine h2 _ _ ?_
    try clear h2 K_h2
    refine T.seq_k (fun K_h3 h3 => ?_)
    refine T.block ?_
    refine T.regi hm ?_
    simp only [↓reduceIte, namesOf, List.any, I.names, aopsI, astep, ev, setd, List.set, List.getD, List.getElem?_cons_zero, List.getElem?_cons_succ, List.cons_append, List.nil_append, List.replicate, then_normal, inBlock_normal, Option.getD_some, Bool.or_false, Bool.false_eq_true, up_zero, Nat.reduceAdd, binv, ↓opt_def, ldc, Int.natCast_nonneg, lt_len, Int.toNat_natCast, true_and, and_true, eq_self, ho, hil, hn, hg, hsz, hw2]
    try simp only [↓reduceIte, namesOf, List.any, I.names, aops, aopsI, aopsT, qstep, CPt, qget, Tbl.get, astep, ev, setd, List.set, List.getD, List.getElem?_cons_zero, List.getElem?_cons_succ, List.getElem?_nil, List.cons_append, List.nil_append, List.length_cons, List.length_nil, List.replicate, then_normal, inBlock_normal, Option.getD_some, Option.getD_none, Bool.or_false, Bool.or_true, Bool.true_or, Bool.false_or, Bool.false_eq_true, if_false, if_true, up_zero, Nat.reduceAdd, Nat.reduceSub, binv, ↓opt_def, AV.isAny, AV.cells, ldc, List.map_cons, List.map_nil, St.set_next, St.set_same, St.up_next, Int.natCast_nonneg, lt_len, le_len, Int.toNat_natCast, true_and, and_true, eq_self, reduceCtorEq, decide_true, List.length_singleton, er_int, er_bool, er_str, srcR, inBlock_normal]
    refine h3 _ _ ?_
    try clear h3 K_h3
    refine T.regi hm ?_
    simp only [↓reduceIte, namesOf, List.any, I.names, aopsI, astep, ev, setd, List.set, List.getD, List.getElem?_cons_zero, List.getElem?_cons_succ, List.cons_append, List.nil_append, List.replicate, then_normal, Option.getD_some, Bool.or_false, Bool.false_eq_true, up_zero, binv, ↓opt_def, eq_self, hw]
    exact ⟨hil, _, _, Gh.keep [0, 3, 4], rfl, rfl⟩

end Go.VL

namespace Go.VL

open Go.Proofs

/-- a row that is made: empty, or owned -/
def RQ (lo : Nat) (t : St) (x : AV) (s : Objs) : Prop := (x = .sl [] .zero ∧ s = []) ∨ ∃ a, s ≠ [] ∧ x = .refr a 2 s.length ∧ t.res a = some (.obj (s.flatMap cR)) ∧ lo ≤ a ∧ a < t.next

abbrev c_rp19 : C := (.reg [⟨(some 78), (.bslice 2 .zero []), none⟩, ⟨(some 79), (.mv (.t 0)), none⟩, ⟨(some 80), (.nilCheck (.t 79)), none⟩, ⟨(some 81), (.faddr 3 (.t 80)), none⟩, ⟨(some 82), (.load none (.t 81)), none⟩, ⟨(some 83), (.mv (.t 9)), none⟩, ⟨(some 84), (.slice 2 (.t 82) none (some (.t 83))), none⟩, ⟨(some 85), (.appR 2 32 (.t 78) (.t 84)), none⟩, ⟨(some 11), (.mv (.t 85)), none⟩])

abbrev c_rp20 : C := (.reg [⟨(some 86), (.mv (.t 11)), none⟩, ⟨(some 87), (.mv (.t 1)), none⟩, ⟨(some 88), (.mv (.t 2)), none⟩, ⟨(some 89), (.build [(.str ⟨#[]⟩), (.str ⟨#[]⟩)] [(0, (1, (.t 87))), (1, (1, (.t 88)))]), none⟩, ⟨(some 90), (.bslice 2 .val [(.t 89)]), none⟩, ⟨(some 91), (.appR 2 32 (.t 86) (.t 90)), none⟩, ⟨(some 11), (.mv (.t 91)), none⟩])

abbrev c_rp21 : C := (.reg [⟨(some 92), (.mv (.t 0)), none⟩, ⟨(some 93), (.mv (.t 11)), none⟩, ⟨(some 94), (.mv (.t 0)), none⟩, ⟨(some 95), (.nilCheck (.t 94)), none⟩, ⟨(some 96), (.faddr 3 (.t 95)), none⟩, ⟨(some 97), (.load none (.t 96)), none⟩, ⟨(some 98), (.mv (.t 9)), none⟩, ⟨(some 99), (.slice 2 (.t 97) (some (.t 98)) none), none⟩, ⟨(some 100), (.appR 2 32 (.t 93) (.t 99)), none⟩, ⟨(some 101), (.nilCheck (.t 92)), none⟩, ⟨(some 102), (.faddr 3 (.t 101)), none⟩, ⟨none, (.store 1 (.t 102) (.t 100)), none⟩])

set_option maxRecDepth 10000 in
theorem rp19_ok {q : Nat} {G : Option Nat} {room lf cl : Int} {L : Objs} {k B : ByteArray} {p : Nat} {t : St} {Q : Ex → List AV → St → Prop} (hS : RSt t q G room lf cl L) (hp : p ≤ L.length) (hn : L.length ≤ 1000000)
    (hq : ∀ ρ' t' s', keep [0, 1, 2, 9, 11] 0 ρ' = [.ptr q 0, .str k, .str B, .any, .any, .any, .any, .any, .any, .int .i64 (p : Int), .any, s'] ++ List.replicate 91 .any → RQ t.next t' s' (L.take p) → Like t t' → Q .normal ρ' t') :
    T Tryd.prog ann_rsPut c_rp19 Q ([.ptr q 0, .str k, .str B, .any, .any, .any, .any, .any, .any, .int .i64 (p : Int)] ++ List.replicate 93 .any) t := by
  have h0 : ((0 : Int) ≤ 0) = True := eq_true (Int.le_refl 0)
  have ho := hS.obj
  have hob : ∀ k, (t.up k).res q = _ := fun _ => ho
  cases G with
  | none =>
    have hnil := hS.nil rfl
    subst hnil
    simp only [rsl] at hob
    have hp0 : p = 0 := by simpa using hp
    subst hp0
    refine T.regi hm ?_
    simp only [↓reduceIte, namesOf, List.any, I.names, aopsI, astep, ev, setd, List.set, List.getD, List.getElem?_cons_zero, List.getElem?_cons_succ, List.cons_append, List.nil_append, List.length_cons, List.length_nil, List.replicate, Option.getD_some, Bool.or_false, Bool.or_true, Nat.reduceAdd, ↓opt_def, ldc, List.map_nil, true_and, eq_self, srcR, hob, idx, srcOf, Int.natCast_zero, h0, and_self, List.all_nil, List.isEmpty, List.drop_nil, List.take_nil, Ver.noRoom, Nat.zero_mul, Nat.zero_le]
    exact hq _ _ _ rfl (.inl ⟨rfl, rfl⟩) ((Like.refl t).up _)
  | some a =>
    have hr := (hS.row a rfl).2
    simp only [rsl] at hob
    have hs : ∀ k, srcC (t.up k) 2 (.refr a 2 p) = some (obAV (L.take p)) := fun k => srcR_refr (by exact hr) hp
    have hl : (L.take p).length = p := by rw [List.length_take]; omega
    have hb1 : p * 32 ≤ 70368744177664 := by omega
    have hb2 : p ≤ 4611686018427387904 := by omega
    by_cases hp0 : p = 0
    · subst hp0
      refine T.regi hm ?_
      simp only [↓reduceIte, namesOf, List.any, I.names, aopsI, astep, ev, setd, List.set, List.getD, List.getElem?_cons_zero, List.getElem?_cons_succ, List.cons_append, List.nil_append, List.length_cons, List.length_nil, List.replicate, Option.getD_some, Bool.or_false, Bool.or_true, Nat.reduceAdd, ↓opt_def, ldc, List.map_nil, Int.natCast_nonneg, eq_self, srcR, hob, idx, srcR_none', hs, Int.natCast_zero, h0, and_self, List.all_nil, List.isEmpty, List.take_zero, obAV, List.map_nil, Ver.noRoom, Nat.zero_mul, Nat.zero_le, Int.toNat_zero]
      exact hq _ _ _ rfl (.inl ⟨rfl, rfl⟩) ((Like.refl t).up _)
    · have hsl : (0 : Int) ≤ (p : Int) := by omega
      have he : (obAV (L.take p)).isEmpty = false := by
        cases hc : L.take p with
        | nil => rw [hc] at hl; simp at hl; omega
        | cons y ys => rfl
      have hz : (p : Int).toNat = p := rfl
      refine T.regi hm ?_
      simp only [↓reduceIte, namesOf, List.any, I.names, aopsI, astep, ev, setd, List.set, List.getD, List.getElem?_cons_zero, List.getElem?_cons_succ, List.cons_append, List.nil_append, List.length_cons, List.length_nil, List.replicate, Option.getD_some, Bool.or_false, Bool.or_true, Bool.false_eq_true, Nat.reduceAdd, ↓opt_def, ldc, le_len, eq_self, srcR, hob, idx, srcR_none', hs, and_self, Ver.noRoom, hsl, hz, hp, ob_fits, obAV_len, hl, hb1, hb2, he, ob_flat]
      refine hq _ _ (.refr (t.next + 7) 2 p) rfl (.inr ⟨t.next + 7, fun e => ?_, by rw [hl], St.set_same _ _ _, by omega, by simp⟩) ((Like.refl t).box (n := 9) (i := 7) _)
      rw [e] at hl; simp at hl; omega

set_option maxRecDepth 10000 in
theorem rp20_ok {q : Nat} {k : ByteArray} {b : List UInt8} {p : Nat} {s : AV} {M : Objs} {t1 t : St} {Q : Ex → List AV → St → Prop} (hR : RQ t1.next t s M) (hL : Like t1 t) (hn : M.length ≤ 1000000)
    (hq : ∀ ρ' t' s', keep [0, 1, 2, 9, 11] 0 ρ' = [.ptr q 0, .str k, .str ⟨b.toArray⟩, .any, .any, .any, .any, .any, .any, .int .i64 (p : Int), .any, s'] ++ List.replicate 91 .any → RQ t1.next t' s' (M ++ [(k, b)]) → Like t1 t' → Q .normal ρ' t') :
    T Tryd.prog ann_rsPut c_rp20 Q ([.ptr q 0, .str k, .str ⟨b.toArray⟩, .any, .any, .any, .any, .any, .any, .int .i64 (p : Int), .any, s] ++ List.replicate 91 .any) t := by
  have hne : M ++ [(k, b)] ≠ [] := by simp
  have hll : (M ++ [(k, b)]).length = M.length + 1 := by simp
  have hfl : (M ++ [(k, b)]).flatMap cR = M.flatMap cR ++ [.str k, .str ⟨b.toArray⟩] := by rw [List.flatMap_append]; rfl
  have hnx := hL.next
  rcases hR with ⟨rfl, rfl⟩ | ⟨a, hqne, rfl, hr, ha1, ha2⟩
  · refine T.regi hm ?_
    simp only [↓reduceIte, namesOf, List.any, I.names, aopsI, astep, ev, setd, List.set, List.getD, List.getElem?_cons_zero, List.getElem?_cons_succ, List.cons_append, List.nil_append, List.length_cons, List.length_nil, List.replicate, Option.getD_some, Bool.or_false, Bool.or_true, Bool.false_eq_true, Nat.reduceAdd, ↓opt_def, AV.isAny, AV.cells, List.map_cons, List.map_nil, eq_self, srcR, fillA, ↓Option.map_some, held, srcOf, AV.er, AV.er1, Ver.noRoom, AV.fits, AV.one, List.all_cons, List.all_nil, Nat.reduceBEq, Bool.not_false, Bool.and_self, Nat.zero_add, splice, List.take, List.drop, Nat.reduceLeDiff, Nat.one_mul, and_self, List.isEmpty, List.flatMap_cons, List.flatMap_nil, List.append_nil]
    exact hq _ _ (.refr (t.next + 5) 2 1) rfl (.inr ⟨t.next + 5, hne, by rw [hll]; rfl, by rw [hfl]; exact St.set_same _ _ _, by omega, by simp⟩) (hL.box (n := 7) (i := 5) _)
  · have hru : ∀ k, (t.up k).res a = some (.obj (M.flatMap cR)) := fun _ => hr
    have hcl : M.length * 2 ≤ (M.flatMap cR).length := by rw [flatk_len cR_len]; exact Nat.le_refl _
    have hct : (M.flatMap cR).take (M.length * 2) = M.flatMap cR := List.take_of_length_le (by rw [flatk_len cR_len]; exact Nat.le_refl _)
    have hb1 : (M.length + 1) * 32 ≤ 70368744177664 := by omega
    have hb2 : M.length + 1 ≤ 4611686018427387904 := by omega
    refine T.regi hm ?_
    simp only [↓reduceIte, namesOf, List.any, I.names, aopsI, astep, ev, setd, List.set, List.getD, List.getElem?_cons_zero, List.getElem?_cons_succ, List.cons_append, List.nil_append, List.length_cons, List.length_nil, List.replicate, Option.getD_some, Bool.or_false, Bool.or_true, Nat.reduceAdd, ↓opt_def, AV.isAny, AV.cells, List.map_cons, List.map_nil, eq_self, srcR, hru, hcl, hct, hb1, hb2, fillA, ↓Option.map_some, held, srcOf, AV.er, AV.er1, AV.fits, AV.one, List.all_cons, List.all_nil, Nat.reduceBEq, Bool.not_false, Bool.and_self, Nat.zero_add, splice, List.drop, Nat.reduceLeDiff, and_self, List.flatMap_cons, List.flatMap_nil, List.append_nil, List.take_zero, List.take_succ_cons]
    exact hq _ _ (.refr (t.next + 5) 2 (M.length + 1)) rfl (.inr ⟨t.next + 5, hne, by rw [hll], by rw [hfl]; exact St.set_same _ _ _, by omega, by simp⟩) (((hL.up 7).del ha1).set _ (by omega))

set_option maxRecDepth 10000 in
theorem rp21_ok {q : Nat} {G : Option Nat} {room lf cl : Int} {L M : Objs} {k B : ByteArray} {p : Nat} {s : AV} {t1 t : St} {Q : Ex → List AV → St → Prop} (wf : WF t1) (hS : RSt t1 q G room lf cl L) (hR : RQ t1.next t s M) (hL : Like t1 t) (hp : p ≤ L.length) (hne : M ≠ []) (hn : M.length + L.length ≤ 2097152)
    (hq : ∀ ρ' t' nm, keep [] 0 ρ' = List.replicate 103 .any → RSt t' q (some nm) room lf cl (M ++ L.drop p) → (∀ n x, n ≠ q → t1.res n = some x → t'.res n = some x) → t1.next ≤ nm → nm < t'.next → Q .normal ρ' t') :
    T Tryd.prog ann_rsPut c_rp21 Q ([.ptr q 0, .str k, .str B, .any, .any, .any, .any, .any, .any, .int .i64 (p : Int), .any, s] ++ List.replicate 91 .any) t := by
  have h0 : ((0 : Int) ≤ 0) = True := eq_true (Int.le_refl 0)
  obtain ⟨a, _, rfl, hr, ha1, ha2⟩ : ∃ a, M ≠ [] ∧ s = .refr a 2 M.length ∧ t.res a = some (.obj (M.flatMap cR)) ∧ t1.next ≤ a ∧ a < t.next := hR.resolve_left fun h => hne h.2
  have hnx := hL.next
  have hqn : q < t1.next := wf.lt hS.obj
  have ho : t.res q = _ := hL.get hqn hS.obj
  have hob : ∀ k, (t.up k).res q = _ := fun _ => ho
  have hru : ∀ k, (t.up k).res a = some (.obj (M.flatMap cR)) := fun _ => hr
  have hcl : M.length * 2 ≤ (M.flatMap cR).length := by rw [flatk_len cR_len]; exact Nat.le_refl _
  have hct : (M.flatMap cR).take (M.length * 2) = M.flatMap cR := List.take_of_length_le (by rw [flatk_len cR_len]; exact Nat.le_refl _)
  have hdl : (L.drop p).length = L.length - p := List.length_drop
  have hb1 : (M.length + (L.length - p)) * 32 ≤ 70368744177664 := by omega
  have hb2 : M.length + (L.length - p) ≤ 4611686018427387904 := by omega
  have hll : (M ++ L.drop p).length = M.length + (L.length - p) := by rw [List.length_append, hdl]
  have hod : ∀ r, (((t.up 12).del a).set (t.next + 8) r).res q = some (.obj [.int .i64 room, .int .i64 lf, .int .i64 cl, rsl G L.length]) := fun r => by
    rw [St.set_other _ _ (by omega)]; simp only [St.del]; rw [if_neg (by omega)]; exact ho
  have hfin : ∀ ρ', keep [] 0 ρ' = List.replicate 103 .any → Q .normal ρ' ((((t.up 12).del a).set (t.next + 8) (.obj (M.flatMap cR ++ (L.drop p).flatMap cR))).set q (.obj [.int .i64 room, .int .i64 lf, .int .i64 cl, .refr (t.next + 8) 2 (M.length + (L.length - p))])) := fun ρ' hk =>
    hq _ _ (t.next + 8) hk ⟨by rw [hll]; exact St.set_same _ _ _, fun h => (by cases h), fun n e => (by cases e; exact ⟨by omega, by rw [St.set_other _ _ (by omega), St.set_same, List.flatMap_append]⟩)⟩
      (fun n x hnq hx => by
        have := wf.lt hx
        rw [St.set_other _ _ hnq, St.set_other _ _ (by omega)]; simp only [St.del]; rw [if_neg (by omega)]; exact hL.get this hx) (by omega) (by simp)
  cases G with
  | none =>
    have hnil := hS.nil rfl
    subst hnil
    simp only [rsl] at hob hod
    have hp0 : p = 0 := by simpa using hp
    subst hp0
    have hb3 : M.length * 32 ≤ 70368744177664 := by omega
    have hb4 : M.length ≤ 4611686018427387904 := by omega
    simp only [List.length_nil, Nat.sub_zero, Nat.add_zero, List.drop_nil, List.flatMap_nil, List.append_nil] at hfin
    refine T.regi hm ?_
    simp only [↓reduceIte, namesOf, List.any, I.names, aopsI, astep, ev, setd, List.set, List.getD, List.getElem?_cons_zero, List.getElem?_cons_succ, List.cons_append, List.nil_append, List.length_cons, List.length_nil, List.replicate, Option.getD_some, Bool.or_false, Bool.or_true, Nat.reduceAdd, ↓opt_def, AV.isAny, AV.cells, ldc, List.map_nil, true_and, eq_self, decide_true, srcR, hob, hod, idx, srcOf, hru, hcl, hct, hb3, hb4, Int.natCast_zero, h0, and_self, List.all_nil, List.drop_nil, List.take_nil, Nat.add_zero, List.flatMap_nil, List.append_nil, AV.fits, AV.one, List.all_cons, List.all_nil, Nat.reduceBEq, Bool.not_false, Bool.and_self, Nat.zero_add, splice, List.take, List.drop, Nat.reduceLeDiff]
    exact hfin _ rfl
  | some b =>
    have hrb := (hS.row b rfl).2
    simp only [rsl] at hob hod
    have hb4 := wf.lt hrb
    have hrbu : ∀ k, (t.up k).res b = some (.obj (L.flatMap cR)) := fun k => hL.get hb4 hrb
    by_cases hp0 : p = 0
    · subst hp0
      have hs : ∀ k, srcC (t.up k) 2 (.refr b 2 L.length) = some (obAV L) := fun k => by rw [srcR_refr (hrbu k) (Nat.le_refl _), List.take_length]
      have hb5 : (M.length + L.length) * 32 ≤ 70368744177664 := by omega
      have hb6 : M.length + L.length ≤ 4611686018427387904 := by omega
      rw [List.drop_zero, Nat.sub_zero] at hfin
      refine T.regi hm ?_
      simp only [↓reduceIte, namesOf, List.any, I.names, aopsI, astep, ev, setd, List.set, List.getD, List.getElem?_cons_zero, List.getElem?_cons_succ, List.cons_append, List.nil_append, List.length_cons, List.length_nil, List.replicate, Option.getD_some, Bool.or_false, Bool.or_true, Nat.reduceAdd, ↓opt_def, AV.isAny, AV.cells, ldc, Int.natCast_nonneg, Int.toNat_natCast, eq_self, decide_true, srcR, hob, hod, idx, srcR_none', hs, hru, hcl, hct, hb5, hb6, Int.natCast_zero, and_self, Int.le_refl, ob_fits, obAV_len, ob_flat, AV.fits, AV.one, List.all_cons, List.all_nil, Nat.reduceBEq, Bool.not_false, Bool.and_self, Nat.zero_add, splice, List.take, List.drop, Nat.reduceLeDiff]
      exact hfin _ rfl
    · have hne0 : ((p : Int) = 0) = False := eq_false (by omega)
      have hp1 : ((p : Int) ≤ (L.length : Int)) = True := eq_true (by omega)
      have hz : ((L.length : Int) - (p : Int)).toNat = L.length - p := by omega
      by_cases hpl : p = L.length
      · have hd0 : L.drop p = [] := List.drop_eq_nil_of_le (by omega)
        have hz0 : L.length - p = 0 := by omega
        have hb3 : M.length * 32 ≤ 70368744177664 := by omega
        have hb4 : M.length ≤ 4611686018427387904 := by omega
        have he1 : ((p : Int) = (L.length : Int)) = True := eq_true (by omega)
        simp only [hd0, hz0, Nat.add_zero, List.flatMap_nil, List.append_nil] at hfin
        refine T.regi hm ?_
        simp only [↓reduceIte, namesOf, List.any, I.names, aopsI, astep, ev, setd, List.set, List.getD, List.getElem?_cons_zero, List.getElem?_cons_succ, List.cons_append, List.nil_append, List.length_cons, List.length_nil, List.replicate, Option.getD_some, Bool.or_false, Bool.or_true, Nat.reduceAdd, ↓opt_def, AV.isAny, AV.cells, ldc, List.map_nil, Int.natCast_nonneg, and_true, eq_self, decide_true, srcR, hob, hod, idx, srcOf, hru, hcl, hct, hb3, hb4, hne0, he1, hp1, and_self, List.all_nil, Int.le_refl, Nat.le_refl, Nat.add_zero, List.flatMap_nil, List.append_nil, AV.fits, AV.one, List.all_cons, List.all_nil, Nat.reduceBEq, Bool.not_false, Bool.and_self, Nat.zero_add, splice, List.take, List.drop]
        exact hfin _ rfl
      · have he1 : ((p : Int) = (L.length : Int)) = False := eq_false (by omega)
        have hs : ∀ k, srcC (t.up k) 2 (.ref b (p * 2) (L.length - p)) = some (obAV (L.drop p)) := fun k => srcR_ref (hrbu k) hp
        refine T.regi hm ?_
        simp only [↓reduceIte, namesOf, List.any, I.names, aopsI, astep, ev, setd, List.set, List.getD, List.getElem?_cons_zero, List.getElem?_cons_succ, List.cons_append, List.nil_append, List.length_cons, List.length_nil, List.replicate, Option.getD_some, Bool.or_false, Bool.or_true, Nat.reduceAdd, ↓opt_def, AV.isAny, AV.cells, ldc, Int.natCast_nonneg, Int.toNat_natCast, and_true, eq_self, decide_true, srcR, hob, hod, idx, srcR_none, hs, hru, hcl, hct, hb1, hb2, hne0, he1, hp1, hz, and_self, Int.le_refl, Nat.le_refl, ob_fits, obAV_len, ob_flat, hdl, AV.fits, AV.one, List.all_cons, List.all_nil, Nat.reduceBEq, Bool.not_false, Bool.and_self, Nat.zero_add, splice, List.take, List.drop]
        exact hfin _ rfl

end Go.VL

namespace Go.VL

open Go.Proofs

abbrev c_rpl : C := (.block 0 (.loop (.seq (.seq (.reg [⟨(some 57), (.mv (.t 9)), none⟩, ⟨(some 58), (.mv (.t 0)), none⟩, ⟨(some 59), (.nilCheck (.t 58)), none⟩, ⟨(some 60), (.faddr 3 (.t 59)), none⟩, ⟨(some 61), (.load none (.t 60)), none⟩, ⟨(some 62), (.len (.t 61)), none⟩, ⟨(some 63), (.bin .lss .i64 (.t 57) (.t 62)), none⟩, ⟨(some 64), (.mv (.t 63)), none⟩, ⟨(some 65), (.mv (.t 0)), (some (64, true))⟩, ⟨(some 66), (.nilCheck (.t 65)), (some (64, true))⟩, ⟨(some 67), (.faddr 3 (.t 66)), (some (64, true))⟩, ⟨(some 68), (.load none (.t 67)), (some (64, true))⟩, ⟨(some 69), (.mv (.t 9)), (some (64, true))⟩, ⟨(some 70), (.iaddr 2 (.t 68) (.t 69)), (some (64, true))⟩, ⟨(some 71), (.faddr 0 (.t 70)), (some (64, true))⟩, ⟨(some 72), (.load none (.t 71)), (some (64, true))⟩, ⟨(some 73), (.mv (.t 1)), (some (64, true))⟩, ⟨(some 74), (.sbin .lss (.t 72) (.t 73)), (some (64, true))⟩, ⟨(some 75), (.pick (.t 64) (.t 74) (.c (.bool false))), none⟩]) (.cond (.t 75) .skip (.exit 0))) (.block 1 (.reg [⟨(some 76), (.mv (.t 9)), none⟩, ⟨(some 77), (.bin .add .i64 (.t 76) (.c (.int .i64 1))), none⟩, ⟨(some 9), (.mv (.t 77)), none⟩])))))

set_option maxRecDepth 10000 in
theorem rpl_ok {q : Nat} {G : Option Nat} {room lf cl : Int} {L : Objs} {k B : ByteArray} {t : St} {Q : Ex → List AV → St → Prop} (hS : RSt t q G room lf cl L) (hn : L.length ≤ 1000000)
    (hq : ∀ ρ', keep [0, 1, 2, 9] 0 ρ' = [.ptr q 0, .str k, .str B, .any, .any, .any, .any, .any, .any, .int .i64 (spotR k L : Int)] ++ List.replicate 93 .any → Q .normal ρ' t) :
    T Tryd.prog ann_rsPut c_rpl Q ([.ptr q 0, .str k, .str B, .any, .any, .any, .any, .any, .any, .int .i64 0] ++ List.replicate 93 .any) t := by
  have ho := hS.obj
  unfold c_rpl
  refine T.block ?_
  cases G with
  | none =>
    have hnil := hS.nil rfl
    subst hnil
    simp only [rsl] at ho
    refine T.loop (fun ρ u => u = t ∧ ρ = [.ptr q 0, .str k, .str B, .any, .any, .any, .any, .any, .any, .int .i64 0] ++ List.replicate 93 .any) (fun _ _ => 0) ⟨rfl, rfl⟩ ?_
    rintro ρ u ⟨rfl, rfl⟩
    refine T.seq_k (fun K_h2 h2 => ?_)
    refine T.seq_k (fun K_h0 h0 => ?_)
    refine T.regi hm ?_
    simp only [↓reduceIte, namesOf, List.any, I.names, aopsI, astep, ev, setd, List.set, List.getD, List.getElem?_cons_zero, List.getElem?_cons_succ, List.getElem?_nil, List.cons_append, List.nil_append, List.length_nil, List.replicate, then_normal, Option.getD_some, Bool.or_false, Bool.false_eq_true, up_zero, Nat.reduceAdd, binv, ↓opt_def, ldc, eq_self, ho]
    refine h0 _ _ ?_
    try clear h0 K_h0
    refine T.cond rfl (fun h => by cases h) (fun _ => T.exit ?_)
    try simp only [List.cons_append, List.nil_append, List.replicate, inBlock_exit, then_exit]
    exact hq _ rfl
  | some n =>
    have hrn := (hS.row n rfl).2
    simp only [rsl] at ho
    have hsl := spot_le k L
    refine T.loopi (fun i ρ u => u = t ∧ i ≤ spotR k L ∧ ρ = [.ptr q 0, .str k, .str B, .any, .any, .any, .any, .any, .any, .int .i64 (i : Int)] ++ List.replicate 93 .any)
      L.length 0 (Nat.zero_le _) ⟨rfl, Nat.zero_le _, rfl⟩ ?_
    rintro i ρ u hi ⟨rfl, his, rfl⟩
    refine T.seq_k (fun K_h2 h2 => ?_)
    by_cases hil : i < L.length
    case neg =>
      have hie : spotR k L = i := by omega
      refine T.seq_k (fun K_h0 h0 => ?_)
      refine T.regi hm ?_
      simp only [↓reduceIte, namesOf, List.any, I.names, aopsI, astep, ev, setd, List.set, List.getD, List.getElem?_cons_zero, List.getElem?_cons_succ, List.cons_append, List.nil_append, List.replicate, then_normal, Option.getD_some, Bool.or_false, Bool.false_eq_true, up_zero, Nat.reduceAdd, binv, ↓opt_def, ldc, lt_len, eq_self, ho, hil, decide_false]
      refine h0 _ _ ?_
      try clear h0 K_h0
      refine T.cond rfl (fun h => by cases h) (fun _ => T.exit ?_)
      try simp only [List.cons_append, List.nil_append, List.replicate, inBlock_exit, then_exit]
      exact hq _ (by rw [hie]; rfl)
    obtain ⟨e, hx⟩ : ∃ e, L[i]? = some e := ⟨_, List.getElem?_eq_getElem hil⟩
    have hg := cR_get0 hx
    have hw := inc64' hil (by omega)
    cases hb : Op.bytesLess e.1.toList k.toList with
    | false =>
      have hie : spotR k L = i := by
        rcases Nat.lt_or_ge i (spotR k L) with h1 | h1
        · have := List.not_of_lt_findIdx h1
          obtain ⟨_, rfl⟩ := List.getElem?_eq_some_iff.1 hx
          simp [hb] at this
        · omega
      refine T.seq_k (fun K_h0 h0 => ?_)
      refine T.regi hm ?_
      simp only [↓reduceIte, namesOf, List.any, I.names, aopsI, astep, ev, setd, List.set, List.getD, List.getElem?_cons_zero, List.getElem?_cons_succ, List.cons_append, List.nil_append, List.replicate, then_normal, Option.getD_some, Bool.or_false, Bool.false_eq_true, up_zero, Nat.reduceAdd, binv, ↓opt_def, ldc, Int.natCast_nonneg, lt_len, Int.toNat_natCast, true_and, and_true, eq_self, decide_true, ho, hil, hrn, hg, sbinv, hb, Nat.add_zero]
      refine h0 _ _ ?_
      try clear h0 K_h0
      refine T.cond rfl (fun h => by cases h) (fun _ => T.exit ?_)
      try simp only [List.cons_append, List.nil_append, List.replicate, inBlock_exit, then_exit]
      exact hq _ (by rw [hie]; rfl)
    | true =>
      have his2 : i + 1 ≤ spotR k L := by
        rcases Nat.lt_or_ge i (spotR k L) with h1 | h1
        · exact h1
        · have hie : spotR k L = i := by omega
          have := List.findIdx_getElem (p := fun e : ByteArray × List UInt8 => !Op.bytesLess e.1.toList k.toList) (xs := L) (w := by show spotR k L < _; omega)
          obtain ⟨_, rfl⟩ := List.getElem?_eq_some_iff.1 hx
          exfalso
          have h2 : (!Op.bytesLess (L[spotR k L]'(by omega)).1.toList k.toList) = true := this
          simp only [hie] at h2
          rw [hb] at h2; cases h2
      refine T.seq_k (fun K_h0 h0 => ?_)
      refine T.regi hm ?_
      simp only [↓reduceIte, namesOf, List.any, I.names, aopsI, astep, ev, setd, List.set, List.getD, List.getElem?_cons_zero, List.getElem?_cons_succ, List.cons_append, List.nil_append, List.replicate, then_normal, Option.getD_some, Bool.or_false, Bool.false_eq_true, up_zero, Nat.reduceAdd, binv, ↓opt_def, ldc, Int.natCast_nonneg, lt_len, Int.toNat_natCast, true_and, and_true, eq_self, decide_true, ho, hil, hrn, hg, sbinv, hb, Nat.add_zero]
      refine h0 _ _ ?_
      try clear h0 K_h0
      refine T.cond rfl (fun _ => T.skip ?_) (fun h => by cases h)
      refine h2 _ _ ?_
      try clear h2 K_h2
      refine T.block ?_
      refine T.regi hm ?_
      simp only [↓reduceIte, namesOf, List.any, I.names, aopsI, astep, ev, setd, List.set, List.getD, List.getElem?_cons_zero, List.getElem?_cons_succ, List.cons_append, List.nil_append, List.replicate, then_normal, inBlock_normal, Option.getD_some, Bool.or_false, Bool.false_eq_true, up_zero, binv, ↓opt_def, eq_self, hw]
      try simp only [↓reduceIte, namesOf, List.any, I.names, aops, aopsI, aopsT, qstep, CPt, qget, Tbl.get, astep, ev, setd, List.set, List.getD, List.getElem?_cons_zero, List.getElem?_cons_succ, List.getElem?_nil, List.cons_append, List.nil_append, List.length_cons, List.length_nil, List.replicate, then_normal, inBlock_normal, Option.getD_some, Option.getD_none, Bool.or_false, Bool.or_true, Bool.true_or, Bool.false_or, Bool.false_eq_true, if_false, if_true, up_zero, Nat.reduceAdd, Nat.reduceSub, binv, ↓opt_def, AV.isAny, AV.cells, ldc, List.map_cons, List.map_nil, St.set_next, St.set_same, St.up_next, Int.natCast_nonneg, lt_len, le_len, Int.toNat_natCast, true_and, and_true, eq_self, reduceCtorEq, decide_true, List.length_singleton, er_int, er_bool, er_str, srcR, inBlock_normal]
      refine ⟨hil, _, _, Gh.keep [0, 1, 2, 9], rfl, his2, rfl⟩

theorem rput_none {k : ByteArray} {b : List UInt8} {L : Objs} (h : ¬ atR k L < L.length) : rput k b L = (L.take (spotR k L) ++ [(k, b)]) ++ L.drop (spotR k L) := by
  rw [rput, if_neg h]; simp

set_option maxRecDepth 10000 in
set_option maxHeartbeats 2000000 in
theorem rsPut_ok {q : Nat} {G : Option Nat} {room left calls : Int} {L : Objs} {k : ByteArray} {b : List UInt8} {σ : St} (h : RSt σ q G room left calls L) (hl : -1 ≤ left ∧ left ≤ 9223372036854775807) (hc : 0 ≤ calls ∧ calls < 9223372036854775807)
    (hn : L.length ≤ 1000000) (hu : usedO L ≤ 1099511627776) (hk : k.size ≤ 4611686018427387904) (hb : b.length ≤ 1099511627776) :
    ACalls Tryd.prog n_rsPut [.ptr q 0, .str k, .str ⟨b.toArray⟩] σ (fun v σ' => v = .int .i64 (rputC room left L k b) ∧ ∃ G', RSt σ' q G' room (leftB left) (calls + 1) (if rputC room left L k b = 0 then rput k b L else L) ∧ Ny σ σ' q G ∧ (G' = G ∨ ∃ g, G' = some g ∧ σ.next ≤ g ∧ g < σ'.next)) := by
  refine s_rsPut (fun wf => ?_)
  unfold c_rsPut
  have hS1 := h.called (leftB left) (calls + 1)
  have hN1 : Ny σ (σ.set q (.obj [.int .i64 room, .int .i64 (leftB left), .int .i64 (calls + 1), rsl G L.length])) q G := .set _
  have hqn := wf.lt h.obj
  have wf1 : WF (σ.set q (.obj [.int .i64 room, .int .i64 (leftB left), .int .i64 (calls + 1), rsl G L.length])) := fun n hn => by
    have hn' : σ.next ≤ n := hn
    rw [St.set_other _ _ (by omega)]; exact wf n hn'
  have hnx1 : (σ.set q (.obj [.int .i64 room, .int .i64 (leftB left), .int .i64 (calls + 1), rsl G L.length])).next = σ.next := rfl
  refine T.seq_k (fun K_h0 h0 => ?_)
  refine T.regi hm ?_
  simp only [↓reduceIte, namesOf, List.any, I.names, aopsI, astep, ev, setd, List.set, List.cons_append, List.nil_append, List.length_cons, List.length_nil, List.replicate, then_normal, Bool.or_false, Bool.false_eq_true, up_zero, Nat.reduceAdd, Nat.reduceSub]
  refine h0 _ _ ?_
  try clear h0 K_h0
  refine T.seq_k (fun K_h1 h1 => ?_)
  refine T.regi hm ?_
  simp only [↓reduceIte, namesOf, List.any, I.names, aopsI, astep, ev, setd, List.set, List.getD, List.getElem?_cons_zero, List.getElem?_cons_succ, then_normal, Option.getD_some, Bool.or_false, Bool.false_eq_true, up_zero, List.map_cons, List.map_nil]
  refine (rsCall_ok h hl hc).mono ?_
  rintro v σ1 ⟨rfl, rfl⟩
  generalize (σ.set q (.obj [.int .i64 room, .int .i64 (leftB left), .int .i64 (calls + 1), rsl G L.length])) = σ1 at hS1 hN1 wf1 hnx1 ⊢
  try simp only [↓reduceIte, namesOf, List.any, I.names, aops, aopsI, aopsT, qstep, CPt, qget, Tbl.get, astep, ev, setd, List.set, List.getD, List.getElem?_cons_zero, List.getElem?_cons_succ, List.getElem?_nil, List.cons_append, List.nil_append, List.length_cons, List.length_nil, List.replicate, then_normal, inBlock_normal, Option.getD_some, Option.getD_none, Bool.or_false, Bool.or_true, Bool.true_or, Bool.false_or, Bool.false_eq_true, if_false, if_true, up_zero, Nat.reduceAdd, Nat.reduceSub, binv, ↓opt_def, AV.isAny, AV.cells, ldc, List.map_cons, List.map_nil, St.set_next, St.set_same, St.up_next, Int.natCast_nonneg, lt_len, le_len, Int.toNat_natCast, true_and, and_true, eq_self, reduceCtorEq, decide_true, List.length_singleton, er_int, er_bool, er_str, srcR, up_zero]
  refine h1 _ _ ?_
  try clear h1 K_h1
  refine T.seq_k (fun K_h1 h1 => ?_)
  by_cases c0 : left = 0
  · have e1 : decide (left ≠ 0) = false := decide_eq_false (fun h => h c0)
    have hC : rputC room left L k b = 8 := by rw [rputC, if_pos c0]
    rw [hC]
    refine T.seq_k (fun K_h0 h0 => ?_)
    refine T.regi hm ?_
    simp only [↓reduceIte, namesOf, List.any, I.names, aopsI, astep, ev, setd, List.set, List.getD, List.getElem?_cons_zero, List.getElem?_cons_succ, then_normal, Option.getD_some, Bool.or_false, Bool.false_eq_true, up_zero, e1, Bool.not_false]
    refine h0 _ _ ?_
    try clear h0 K_h0
    refine T.cond rfl (fun _ => ?_) (fun h => by cases h)
    refine T.seq_k (fun K_h0 h0 => ?_)
    refine T.regi hm ?_
    simp only [↓reduceIte, namesOf, List.any, I.names, aopsI, astep, ev, setd, List.set, then_normal, Bool.or_false, Bool.false_eq_true, up_zero]
    refine h0 _ _ ?_
    try clear h0 K_h0
    exact T.ret (Fin.ret rfl ⟨rfl, G, by rw [if_neg (by decide)]; exact hS1, hN1, .inl rfl⟩)
  have e1 : decide (left ≠ 0) = true := decide_eq_true c0
  refine T.seq_k (fun K_h0 h0 => ?_)
  refine T.regi hm ?_
  simp only [↓reduceIte, namesOf, List.any, I.names, aopsI, astep, ev, setd, List.set, List.getD, List.getElem?_cons_zero, List.getElem?_cons_succ, then_normal, Option.getD_some, Bool.or_false, Bool.false_eq_true, up_zero, e1, Bool.not_true]
  refine h0 _ _ ?_
  try clear h0 K_h0
  refine T.cond rfl (fun h => by cases h) (fun _ => T.skip ?_)
  refine h1 _ _ ?_
  try clear h1 K_h1
  refine T.seq_k (fun K_h1 h1 => ?_)
  refine T.regi hm ?_
  simp only [↓reduceIte, namesOf, List.any, I.names, aopsI, astep, ev, setd, List.set, List.getD, List.getElem?_cons_zero, List.getElem?_cons_succ, then_normal, Option.getD_some, Bool.or_false, Bool.false_eq_true, up_zero, List.map_cons, List.map_nil]
  refine (rsNamed_ok hk).mono ?_
  rintro v σ2 ⟨rfl, rfl⟩
  try simp only [↓reduceIte, namesOf, List.any, I.names, aops, aopsI, aopsT, qstep, CPt, qget, Tbl.get, astep, ev, setd, List.set, List.getD, List.getElem?_cons_zero, List.getElem?_cons_succ, List.getElem?_nil, List.cons_append, List.nil_append, List.length_cons, List.length_nil, List.replicate, then_normal, inBlock_normal, Option.getD_some, Option.getD_none, Bool.or_false, Bool.or_true, Bool.true_or, Bool.false_or, Bool.false_eq_true, if_false, if_true, up_zero, Nat.reduceAdd, Nat.reduceSub, binv, ↓opt_def, AV.isAny, AV.cells, ldc, List.map_cons, List.map_nil, St.set_next, St.set_same, St.up_next, Int.natCast_nonneg, lt_len, le_len, Int.toNat_natCast, true_and, and_true, eq_self, reduceCtorEq, decide_true, List.length_singleton, er_int, er_bool, er_str, srcR, up_zero]
  refine h1 _ _ ?_
  try clear h1 K_h1
  refine T.seq_k (fun K_h1 h1 => ?_)
  cases hnm : rnamed k with
  | false =>
    have hC : rputC room left L k b = 1 := by rw [rputC, if_neg c0, if_pos hnm]
    rw [hC]
    refine T.seq_k (fun K_h0 h0 => ?_)
    refine T.regi hm ?_
    simp only [↓reduceIte, namesOf, List.any, I.names, aopsI, astep, ev, setd, List.set, List.getD, List.getElem?_cons_zero, List.getElem?_cons_succ, then_normal, Option.getD_some, Bool.or_false, Bool.false_eq_true, up_zero, Bool.not_false]
    refine h0 _ _ ?_
    try clear h0 K_h0
    refine T.cond rfl (fun _ => ?_) (fun h => by cases h)
    refine T.seq_k (fun K_h0 h0 => ?_)
    refine T.regi hm ?_
    simp only [↓reduceIte, namesOf, List.any, I.names, aopsI, astep, ev, setd, List.set, then_normal, Bool.or_false, Bool.false_eq_true, up_zero]
    refine h0 _ _ ?_
    try clear h0 K_h0
    exact T.ret (Fin.ret rfl ⟨rfl, G, by rw [if_neg (by decide)]; exact hS1, hN1, .inl rfl⟩)
  | true =>
  refine T.seq_k (fun K_h0 h0 => ?_)
  refine T.regi hm ?_
  simp only [↓reduceIte, namesOf, List.any, I.names, aopsI, astep, ev, setd, List.set, List.getD, List.getElem?_cons_zero, List.getElem?_cons_succ, then_normal, Option.getD_some, Bool.or_false, Bool.false_eq_true, up_zero, Bool.not_true]
  refine h0 _ _ ?_
  try clear h0 K_h0
  refine T.cond rfl (fun h => by cases h) (fun _ => T.skip ?_)
  refine h1 _ _ ?_
  try clear h1 K_h1
  refine T.seq_k (fun K_h1 h1 => ?_)
  refine T.regi hm ?_
  simp only [↓reduceIte, namesOf, List.any, I.names, aopsI, astep, ev, setd, List.set, List.getD, List.getElem?_cons_zero, List.getElem?_cons_succ, then_normal, Option.getD_some, Bool.or_false, Bool.false_eq_true, up_zero, List.map_cons, List.map_nil]
  refine (rsAt_ok hS1 hn).mono ?_
  rintro v σ3 ⟨rfl, rfl⟩
  try simp only [↓reduceIte, namesOf, List.any, I.names, aops, aopsI, aopsT, qstep, CPt, qget, Tbl.get, astep, ev, setd, List.set, List.getD, List.getElem?_cons_zero, List.getElem?_cons_succ, List.getElem?_nil, List.cons_append, List.nil_append, List.length_cons, List.length_nil, List.replicate, then_normal, inBlock_normal, Option.getD_some, Option.getD_none, Bool.or_false, Bool.or_true, Bool.true_or, Bool.false_or, Bool.false_eq_true, if_false, if_true, up_zero, Nat.reduceAdd, Nat.reduceSub, binv, ↓opt_def, AV.isAny, AV.cells, ldc, List.map_cons, List.map_nil, St.set_next, St.set_same, St.up_next, Int.natCast_nonneg, lt_len, le_len, Int.toNat_natCast, true_and, and_true, eq_self, reduceCtorEq, decide_true, List.length_singleton, er_int, er_bool, er_str, srcR, up_zero]
  refine h1 _ _ ?_
  try clear h1 K_h1
  refine T.seq_k (fun K_h1 h1 => ?_)
  refine T.regi hm ?_
  simp only [↓reduceIte, namesOf, List.any, I.names, aopsI, astep, ev, setd, List.set, List.getD, List.getElem?_cons_zero, List.getElem?_cons_succ, then_normal, Option.getD_some, Bool.or_false, Bool.false_eq_true, up_zero, List.map_cons, List.map_nil]
  refine (rsUsed_ok hS1 hn hu).mono ?_
  rintro v σ4 ⟨rfl, rfl⟩
  try simp only [↓reduceIte, namesOf, List.any, I.names, aops, aopsI, aopsT, qstep, CPt, qget, Tbl.get, astep, ev, setd, List.set, List.getD, List.getElem?_cons_zero, List.getElem?_cons_succ, List.getElem?_nil, List.cons_append, List.nil_append, List.length_cons, List.length_nil, List.replicate, then_normal, inBlock_normal, Option.getD_some, Option.getD_none, Bool.or_false, Bool.or_true, Bool.true_or, Bool.false_or, Bool.false_eq_true, if_false, if_true, up_zero, Nat.reduceAdd, Nat.reduceSub, binv, ↓opt_def, AV.isAny, AV.cells, ldc, List.map_cons, List.map_nil, St.set_next, St.set_same, St.up_next, Int.natCast_nonneg, lt_len, le_len, Int.toNat_natCast, true_and, and_true, eq_self, reduceCtorEq, decide_true, List.length_singleton, er_int, er_bool, er_str, srcR, up_zero]
  refine h1 _ _ ?_
  try clear h1 K_h1
  have hC0 : rputC room left L k b = if (usedO L : Int) - sizeO k L + b.length > room then 6 else 0 := by rw [rputC, if_neg c0, hnm, if_neg (by decide)]
  have hsz := size_le k L
  have hB : (⟨b.toArray⟩ : ByteArray).size = b.length := rfl
  have ho := hS1.obj
  refine T.gh (Gh.keep [0, 1, 2, 9, 10]) ?_
  by_cases hat : atR k L < L.length
  · obtain ⟨b0, hx, hg0⟩ := at_some hat
    have hs0 : sizeO k L = b0.length := by rw [sizeO, hg0]; rfl
    obtain ⟨n, rfl⟩ : ∃ n, G = some n := by
      cases G with
      | none => have := hS1.nil rfl; subst this; simp at hat
      | some n => exact ⟨n, rfl⟩
    obtain ⟨hnq, hrn⟩ := hS1.row n rfl
    simp only [rsl] at ho
    have hg := cR_get1 hx
    have hal : atR k L < L.length := hat
    have hset := cR_set1 b hx
    have hfl : (L.flatMap cR).length = L.length * 2 := flatk_len cR_len L
    have hrp : rput k b L = L.set (atR k L) (k, b) := by rw [rput, if_pos hat]
    generalize atR k L = a at *
    have hB0 : (⟨b0.toArray⟩ : ByteArray).size = b0.length := rfl
    have f0 : decide ((a : Int) ≥ 0) = true := decide_eq_true (by omega)
    have hw1 : IntKind.i64.wrap ((usedO L : Int) - (b0.length : Int)) = (usedO L : Int) - sizeO k L := by rw [wrap64 (by omega) (by omega)]; omega
    have hw2 : IntKind.i64.wrap ((usedO L : Int) - sizeO k L + (b.length : Int)) = (usedO L : Int) - sizeO k L + b.length := wrap64 (by omega) (by omega)
    show T _ _ _ _ ([.ptr q 0, .str k, .str ⟨b.toArray⟩, .any, .any, .any, .any, .any, .any, .int .i64 (if a < L.length then (a : Int) else -1), .int .i64 (usedO L : Int)] ++ List.replicate 92 .any) _
    rw [if_pos hat]
    refine T.seq_k (fun K_h1 h1 => ?_)
    refine T.seq_k (fun K_h0 h0 => ?_)
    refine T.regi hm ?_
    simp only [↓reduceIte, namesOf, List.any, I.names, aopsI, astep, ev, setd, List.set, List.getD, List.getElem?_cons_zero, List.getElem?_cons_succ, List.cons_append, List.nil_append, List.replicate, then_normal, Option.getD_some, Bool.or_false, Bool.false_eq_true, up_zero, binv, ↓opt_def, Int.natCast_nonneg, eq_self, decide_true]
    refine h0 _ _ ?_
    try clear h0 K_h0
    refine T.cond rfl (fun _ => ?_) (fun h => by cases h)
    refine T.regi hm ?_
    simp only [↓reduceIte, namesOf, List.any, I.names, aopsI, astep, ev, setd, List.set, List.getD, List.getElem?_cons_zero, List.getElem?_cons_succ, then_normal, Option.getD_some, Bool.or_false, Bool.false_eq_true, up_zero, Nat.reduceAdd, binv, ↓opt_def, ldc, Int.natCast_nonneg, lt_len, Int.toNat_natCast, and_true, eq_self, ho, hal, hrn, hg, hB0, hw1]
    refine h1 _ _ ?_
    try clear h1 K_h1
    refine T.seq_k (fun K_h1 h1 => ?_)
    by_cases c6 : (usedO L : Int) - sizeO k L + b.length > room
    · have e6 : decide ((usedO L : Int) - sizeO k L + b.length > room) = true := decide_eq_true c6
      have hC : rputC room left L k b = 6 := by rw [hC0, if_pos c6]
      rw [hC]
      refine T.seq_k (fun K_h0 h0 => ?_)
      refine T.regi hm ?_
      simp only [↓reduceIte, namesOf, List.any, I.names, aopsI, astep, ev, setd, List.set, List.getD, List.getElem?_cons_zero, List.getElem?_cons_succ, then_normal, Option.getD_some, Bool.or_false, Bool.false_eq_true, up_zero, Nat.reduceAdd, binv, ↓opt_def, ldc, eq_self, ho, hB, hw2, e6]
      refine h0 _ _ ?_
      try clear h0 K_h0
      refine T.cond rfl (fun _ => ?_) (fun h => by cases h)
      refine T.seq_k (fun K_h0 h0 => ?_)
      refine T.regi hm ?_
      simp only [↓reduceIte, namesOf, List.any, I.names, aopsI, astep, ev, setd, List.set, then_normal, Bool.or_false, Bool.false_eq_true, up_zero]
      refine h0 _ _ ?_
      try clear h0 K_h0
      exact T.ret (Fin.ret rfl ⟨rfl, some n, by rw [if_neg (by decide)]; exact hS1, hN1, .inl rfl⟩)
    have e6 : decide ((usedO L : Int) - sizeO k L + b.length > room) = false := decide_eq_false c6
    have hC : rputC room left L k b = 0 := by rw [hC0, if_neg c6]
    refine T.seq_k (fun K_h0 h0 => ?_)
    refine T.regi hm ?_
    simp only [↓reduceIte, namesOf, List.any, I.names, aopsI, astep, ev, setd, List.set, List.getD, List.getElem?_cons_zero, List.getElem?_cons_succ, then_normal, Option.getD_some, Bool.or_false, Bool.false_eq_true, up_zero, Nat.reduceAdd, binv, ↓opt_def, ldc, eq_self, ho, hB, hw2, e6]
    refine h0 _ _ ?_
    try clear h0 K_h0
    refine T.cond rfl (fun h => by cases h) (fun _ => T.skip ?_)
    refine h1 _ _ ?_
    try clear h1 K_h1
    refine T.seq_k (fun K_h1 h1 => ?_)
    have hle : a * 2 + 1 + 1 ≤ L.length * 2 := by omega
    refine T.seq_k (fun K_h0 h0 => ?_)
    refine T.regi hm ?_
    simp only [↓reduceIte, namesOf, List.any, I.names, aopsI, astep, ev, setd, List.set, List.getD, List.getElem?_cons_zero, List.getElem?_cons_succ, then_normal, Option.getD_some, Bool.or_false, Bool.false_eq_true, up_zero, binv, ↓opt_def, Int.natCast_nonneg, eq_self, decide_true]
    refine h0 _ _ ?_
    try clear h0 K_h0
    refine T.cond rfl (fun _ => ?_) (fun h => by cases h)
    refine T.seq_k (fun K_h0 h0 => ?_)
    refine T.regi hm ?_
    simp only [↓reduceIte, namesOf, List.any, I.names, aopsI, astep, ev, setd, List.set, List.getD, List.getElem?_cons_zero, List.getElem?_cons_succ, List.length_cons, List.length_nil, then_normal, Option.getD_some, Bool.or_false, Bool.false_eq_true, up_zero, Nat.reduceAdd, ↓opt_def, AV.isAny, AV.cells, ldc, Int.natCast_nonneg, lt_len, Int.toNat_natCast, and_true, eq_self, decide_true, ho, hal, hrn, hfl, hle, AV.fits, AV.one, List.all_cons, List.all_nil, Nat.reduceBEq, Bool.not_false, Bool.and_self, hset]
    refine h0 _ _ ?_
    try clear h0 K_h0
    refine T.seq_k (fun K_h0 h0 => ?_)
    refine T.regi hm ?_
    simp only [↓reduceIte, namesOf, List.any, I.names, aopsI, astep, ev, setd, List.set, then_normal, Bool.or_false, Bool.false_eq_true, up_zero]
    refine h0 _ _ ?_
    try clear h0 K_h0
    refine T.ret (Fin.ret rfl ⟨by rw [hC]; rfl, some n, ?_, ?_, .inl rfl⟩)
    · rw [if_pos hC, hrp]
      refine ⟨?_, fun h => (by cases h), fun m e => ?_⟩
      · rw [St.set_other _ _ (Ne.symm hnq), List.length_set]; exact hS1.obj
      · cases e; exact ⟨hnq, St.set_same _ _ _⟩
    · refine ⟨hN1.next, fun m x h1 h2 h3 => ?_⟩
      rw [St.set_other _ _ (fun e => h2 (by rw [e]))]; exact hN1.old m x h1 h2 h3
  · have hs0 : sizeO k L = 0 := by rw [sizeO, at_none hat]; rfl
    have f0 : decide ((-1 : Int) ≥ 0) = false := rfl
    have hw2 : IntKind.i64.wrap ((usedO L : Int) + (b.length : Int)) = (usedO L : Int) - sizeO k L + b.length := by rw [wrap64 (by omega) (by omega)]; omega
    show T _ _ _ _ ([.ptr q 0, .str k, .str ⟨b.toArray⟩, .any, .any, .any, .any, .any, .any, .int .i64 (if atR k L < L.length then (atR k L : Int) else -1), .int .i64 (usedO L : Int)] ++ List.replicate 92 .any) _
    rw [if_neg hat]
    refine T.seq_k (fun K_h1 h1 => ?_)
    refine T.seq_k (fun K_h0 h0 => ?_)
    refine T.regi hm ?_
    simp only [↓reduceIte, namesOf, List.any, I.names, aopsI, astep, ev, setd, List.set, List.getD, List.getElem?_cons_zero, List.getElem?_cons_succ, List.cons_append, List.nil_append, List.replicate, then_normal, Option.getD_some, Bool.or_false, Bool.false_eq_true, up_zero, binv, ↓opt_def, eq_self, f0]
    refine h0 _ _ ?_
    try clear h0 K_h0
    refine T.cond rfl (fun h => by cases h) (fun _ => T.skip ?_)
    refine h1 _ _ ?_
    try clear h1 K_h1
    refine T.seq_k (fun K_h1 h1 => ?_)
    by_cases c6 : (usedO L : Int) - sizeO k L + b.length > room
    · have e6 : decide ((usedO L : Int) - sizeO k L + b.length > room) = true := decide_eq_true c6
      have hC : rputC room left L k b = 6 := by rw [hC0, if_pos c6]
      rw [hC]
      refine T.seq_k (fun K_h0 h0 => ?_)
      refine T.regi hm ?_
      simp only [↓reduceIte, namesOf, List.any, I.names, aopsI, astep, ev, setd, List.set, List.getD, List.getElem?_cons_zero, List.getElem?_cons_succ, then_normal, Option.getD_some, Bool.or_false, Bool.false_eq_true, up_zero, Nat.reduceAdd, binv, ↓opt_def, ldc, eq_self, ho, hB, hw2, e6]
      refine h0 _ _ ?_
      try clear h0 K_h0
      refine T.cond rfl (fun _ => ?_) (fun h => by cases h)
      refine T.seq_k (fun K_h0 h0 => ?_)
      refine T.regi hm ?_
      simp only [↓reduceIte, namesOf, List.any, I.names, aopsI, astep, ev, setd, List.set, then_normal, Bool.or_false, Bool.false_eq_true, up_zero]
      refine h0 _ _ ?_
      try clear h0 K_h0
      exact T.ret (Fin.ret rfl ⟨rfl, G, by rw [if_neg (by decide)]; exact hS1, hN1, .inl rfl⟩)
    have e6 : decide ((usedO L : Int) - sizeO k L + b.length > room) = false := decide_eq_false c6
    have hC : rputC room left L k b = 0 := by rw [hC0, if_neg c6]
    refine T.seq_k (fun K_h0 h0 => ?_)
    refine T.regi hm ?_
    simp only [↓reduceIte, namesOf, List.any, I.names, aopsI, astep, ev, setd, List.set, List.getD, List.getElem?_cons_zero, List.getElem?_cons_succ, then_normal, Option.getD_some, Bool.or_false, Bool.false_eq_true, up_zero, Nat.reduceAdd, binv, ↓opt_def, ldc, eq_self, ho, hB, hw2, e6]
    refine h0 _ _ ?_
    try clear h0 K_h0
    refine T.cond rfl (fun h => by cases h) (fun _ => T.skip ?_)
    refine h1 _ _ ?_
    try clear h1 K_h1
    refine T.seq_k (fun K_h1 h1 => ?_)
    refine T.seq_k (fun K_h0 h0 => ?_)
    refine T.regi hm ?_
    simp only [↓reduceIte, namesOf, List.any, I.names, aopsI, astep, ev, setd, List.set, List.getD, List.getElem?_cons_zero, List.getElem?_cons_succ, then_normal, Option.getD_some, Bool.or_false, Bool.false_eq_true, up_zero, binv, ↓opt_def, eq_self, f0]
    refine h0 _ _ ?_
    try clear h0 K_h0
    refine T.cond rfl (fun h => by cases h) (fun _ => T.skip ?_)
    refine h1 _ _ ?_
    try clear h1 K_h1
    refine T.seq_k (fun K_h0 h0 => ?_)
    refine T.regi hm ?_
    simp only [↓reduceIte, namesOf, List.any, I.names, aopsI, astep, ev, setd, List.set, then_normal, Bool.or_false, Bool.false_eq_true, up_zero]
    refine h0 _ _ ?_
    try clear h0 K_h0
    refine T.gh (Gh.keep [0, 1, 2, 9]) ?_
    have hsl := spot_le k L
    refine T.seq_k (fun K_h1 h1 => ?_)
    refine rpl_ok hS1 hn (fun ρ' hρ => ?_)
    refine h1 _ _ ?_
    try clear h1 K_h1
    refine T.gh (Gh.keep [0, 1, 2, 9]) ?_
    rw [hρ]
    clear hρ ρ'
    refine T.seq_k (fun K_h1 h1 => ?_)
    refine rp19_ok hS1 hsl hn (fun ρ' t s' hρ hR hL => ?_)
    refine h1 _ _ ?_
    try clear h1 K_h1
    refine T.gh (Gh.keep [0, 1, 2, 9, 11]) ?_
    rw [hρ]
    clear hρ ρ'
    have hlt : (L.take (spotR k L)).length = spotR k L := by rw [List.length_take]; omega
    refine T.seq_k (fun K_h1 h1 => ?_)
    refine rp20_ok hR hL (by omega) (fun ρ' t s' hρ hR hL => ?_)
    refine h1 _ _ ?_
    try clear h1 K_h1
    refine T.gh (Gh.keep [0, 1, 2, 9, 11]) ?_
    rw [hρ]
    clear hρ ρ'
    refine T.seq_k (fun K_h1 h1 => ?_)
    refine rp21_ok wf1 hS1 hR hL hsl (by simp) (by rw [List.length_append, hlt]; simp; omega) (fun ρ' t nm hρ hSt hold hlo hhi => ?_)
    refine h1 _ _ ?_
    try clear h1 K_h1
    refine T.gh (Gh.keep []) ?_
    rw [hρ]
    clear hρ ρ'
    refine T.seq_k (fun K_h0 h0 => ?_)
    refine T.regi hm ?_
    simp only [↓reduceIte, namesOf, List.any, I.names, aopsI, astep, ev, setd, List.set, List.replicate, then_normal, Bool.or_false, Bool.false_eq_true, up_zero]
    refine h0 _ _ ?_
    try clear h0 K_h0
    refine T.ret (Fin.ret rfl ⟨by rw [hC]; rfl, some nm, by rw [if_pos hC, rput_none hat]; exact hSt, ?_, .inr ⟨nm, rfl, by omega, hhi⟩⟩)
    exact ⟨by omega, fun m x h1 h2 h3 => hold m x h1 (hN1.old m x h1 h2 h3)⟩

end Go.VL

namespace Go.VL

/-- a digit's letter -/
def dgc (d : Nat) : UInt8 := if d < 10 then UInt8.ofNat (48 + d) else UInt8.ofNat (87 + d)

/-- the last so many digits of a number, to a base -/
def dg (b : Nat) : Nat → Nat → List UInt8
  | 0, _ => []
  | m + 1, n => dg b m (n / b) ++ [dgc (n % b)]

theorem dg_len (b : Nat) : ∀ (m n : Nat), (dg b m n).length = m
  | 0, _ => rfl
  | m + 1, n => by simp [dg, dg_len b m]

theorem dg_zero (b : Nat) : ∀ m : Nat, dg b m 0 = List.replicate m 48
  | 0 => rfl
  | m + 1 => by
    rw [dg, Nat.zero_div, Nat.zero_mod, dg_zero b m, List.replicate_succ']
    rfl

theorem dg_split (b : Nat) : ∀ (k m n : Nat), dg b (m + k) n = dg b m (n / b ^ k) ++ dg b k n
  | 0, m, n => by simp [dg]
  | k + 1, m, n => by
    rw [← Nat.add_assoc, dg, dg_split b k m, dg, Nat.div_div_eq_div_mul, Nat.pow_succ', List.append_assoc]

/-- leading zeros -/
theorem dg_pad {b k m n : Nat} (h : n < b ^ k) : dg b (m + k) n = List.replicate m 48 ++ dg b k n := by
  rw [dg_split, Nat.div_eq_of_lt h, dg_zero]

/-- one more digit ahead -/
theorem dg_cons (b k n : Nat) : dg b (k + 1) n = dgc (n / b ^ k % b) :: dg b k n := by
  rw [Nat.add_comm, dg_split]
  simp [dg]

/-- the name of an object -/
def nmHead (id : Nat) : List UInt8 := [98, 47] ++ dg 16 16 id ++ [47]

def nmF (id : Nat) (what : List UInt8) (page : Int) : List UInt8 :=
  if what = [112] then nmHead id ++ [112] ++ dg 10 3 (page.toNat % 1000)
  else if what = [109] ∨ what = [105] ∨ what = [102] ∨ what = [120] then nmHead id ++ what
  else []

end Go.VL

namespace Go.VL

set_option maxRecDepth 100000 in
def sDig36 : ByteArray := ⟨#[48, 49, 50, 51, 52, 53, 54, 55, 56, 57, 97, 98, 99, 100, 101, 102, 103, 104, 105, 106, 107, 108, 109, 110, 111, 112, 113, 114, 115, 116, 117, 118, 119, 120, 121, 122]⟩

set_option maxRecDepth 100000 in
theorem sDig36_size : sDig36.size = 36 := rfl

set_option maxRecDepth 100000 in
def sDig16 : ByteArray := ⟨#[48, 49, 50, 51, 52, 53, 54, 55, 56, 57, 97, 98, 99, 100, 101, 102]⟩

set_option maxRecDepth 100000 in
theorem sDig16_size : sDig16.size = 16 := rfl

set_option maxRecDepth 100000 in
def sSmalls : ByteArray := ⟨#[48, 48, 48, 49, 48, 50, 48, 51, 48, 52, 48, 53, 48, 54, 48, 55, 48, 56, 48, 57, 49, 48, 49, 49, 49, 50, 49, 51, 49, 52, 49, 53, 49, 54, 49, 55, 49, 56, 49, 57, 50, 48, 50, 49, 50, 50, 50, 51, 50, 52, 50, 53, 50, 54, 50, 55, 50, 56, 50, 57, 51, 48, 51, 49, 51, 50, 51, 51, 51, 52, 51, 53, 51, 54, 51, 55, 51, 56, 51, 57, 52, 48, 52, 49, 52, 50, 52, 51, 52, 52, 52, 53, 52, 54, 52, 55, 52, 56, 52, 57, 53, 48, 53, 49, 53, 50, 53, 51, 53, 52, 53, 53, 53, 54, 53, 55, 53, 56, 53, 57, 54, 48, 54, 49, 54, 50, 54, 51, 54, 52, 54, 53, 54, 54, 54, 55, 54, 56, 54, 57, 55, 48, 55, 49, 55, 50, 55, 51, 55, 52, 55, 53, 55, 54, 55, 55, 55, 56, 55, 57, 56, 48, 56, 49, 56, 50, 56, 51, 56, 52, 56, 53, 56, 54, 56, 55, 56, 56, 56, 57, 57, 48, 57, 49, 57, 50, 57, 51, 57, 52, 57, 53, 57, 54, 57, 55, 57, 56, 57, 57]⟩

set_option maxRecDepth 100000 in
theorem sSmalls_size : sSmalls.size = 200 := rfl

set_option maxRecDepth 100000 in
def sLen8 : ByteArray := ⟨#[0, 1, 2, 2, 3, 3, 3, 3, 4, 4, 4, 4, 4, 4, 4, 4, 5, 5, 5, 5, 5, 5, 5, 5, 5, 5, 5, 5, 5, 5, 5, 5, 6, 6, 6, 6, 6, 6, 6, 6, 6, 6, 6, 6, 6, 6, 6, 6, 6, 6, 6, 6, 6, 6, 6, 6, 6, 6, 6, 6, 6, 6, 6, 6, 7, 7, 7, 7, 7, 7, 7, 7, 7, 7, 7, 7, 7, 7, 7, 7, 7, 7, 7, 7, 7, 7, 7, 7, 7, 7, 7, 7, 7, 7, 7, 7, 7, 7, 7, 7, 7, 7, 7, 7, 7, 7, 7, 7, 7, 7, 7, 7, 7, 7, 7, 7, 7, 7, 7, 7, 7, 7, 7, 7, 7, 7, 7, 7, 8, 8, 8, 8, 8, 8, 8, 8, 8, 8, 8, 8, 8, 8, 8, 8, 8, 8, 8, 8, 8, 8, 8, 8, 8, 8, 8, 8, 8, 8, 8, 8, 8, 8, 8, 8, 8, 8, 8, 8, 8, 8, 8, 8, 8, 8, 8, 8, 8, 8, 8, 8, 8, 8, 8, 8, 8, 8, 8, 8, 8, 8, 8, 8, 8, 8, 8, 8, 8, 8, 8, 8, 8, 8, 8, 8, 8, 8, 8, 8, 8, 8, 8, 8, 8, 8, 8, 8, 8, 8, 8, 8, 8, 8, 8, 8, 8, 8, 8, 8, 8, 8, 8, 8, 8, 8, 8, 8, 8, 8, 8, 8, 8, 8, 8, 8, 8, 8, 8, 8, 8, 8, 8, 8, 8, 8, 8, 8]⟩

set_option maxRecDepth 100000 in
theorem sLen8_size : sLen8.size = 256 := rfl

set_option maxRecDepth 100000 in
def sSp : ByteArray := ⟨#[32, 32, 32, 32, 32, 32, 32, 32, 32, 32, 32, 32, 32, 32, 32, 32, 32, 32, 32, 32, 32, 32, 32, 32, 32, 32, 32, 32, 32, 32, 32, 32, 32, 32, 32, 32, 32, 32, 32, 32, 32, 32, 32, 32, 32, 32, 32, 32, 32, 32, 32, 32, 32, 32, 32, 32, 32, 32, 32, 32, 32, 32, 32, 32, 32, 32, 32, 32, 32, 32, 32, 32, 32, 32, 32, 32, 32, 32, 32, 32, 32, 32, 32, 32, 32, 32, 32, 32, 32, 32, 32, 32, 32, 32, 32, 32, 32, 32, 32, 32, 32, 32, 32, 32, 32, 32, 32, 32, 32, 32, 32, 32, 32, 32, 32, 32, 32, 32, 32, 32, 32, 32, 32, 32, 32, 32, 32, 32]⟩

set_option maxRecDepth 100000 in
def sDa : ByteArray := ⟨#[45, 45, 45, 45, 45, 45, 45, 45, 45, 45, 45, 45, 45, 45, 45, 45, 45, 45, 45, 45, 45, 45, 45, 45, 45, 45, 45, 45, 45, 45, 45, 45, 45, 45, 45, 45, 45, 45, 45, 45, 45, 45, 45, 45, 45, 45, 45, 45, 45, 45, 45, 45, 45, 45, 45, 45, 45, 45, 45, 45, 45, 45, 45, 45, 45, 45, 45, 45, 45, 45, 45, 45, 45, 45, 45, 45, 45, 45, 45, 45, 45, 45, 45, 45, 45, 45, 45, 45, 45, 45, 45, 45, 45, 45, 45, 45, 45, 45, 45, 45, 45, 45, 45, 45, 45, 45, 45, 45, 45, 45, 45, 45, 45, 45, 45, 45, 45, 45, 45, 45, 45, 45, 45, 45, 45, 45, 45, 45]⟩

set_option maxRecDepth 100000 in
def sZe : ByteArray := ⟨#[48, 48, 48, 48, 48, 48, 48, 48, 48, 48, 48, 48, 48, 48, 48, 48, 48, 48, 48, 48, 48, 48, 48, 48, 48, 48, 48, 48, 48, 48, 48, 48, 48, 48, 48, 48, 48, 48, 48, 48, 48, 48, 48, 48, 48, 48, 48, 48, 48, 48, 48, 48, 48, 48, 48, 48, 48, 48, 48, 48, 48, 48, 48, 48]⟩

set_option maxRecDepth 100000 in
theorem sZe_size : sZe.size = 64 := rfl

set_option maxRecDepth 100000 in
def sEq : ByteArray := ⟨#[61, 61, 61, 61, 61, 61, 61, 61, 61, 61, 61, 61, 61, 61, 61, 61, 61, 61, 61, 61, 61, 61, 61, 61, 61, 61, 61, 61, 61, 61, 61, 61, 61, 61, 61, 61, 61, 61, 61, 61, 61, 61, 61, 61, 61, 61, 61, 61, 61, 61, 61, 61, 61, 61, 61, 61, 61, 61, 61, 61, 61, 61, 61, 61, 61, 61, 61, 61, 61, 61, 61, 61, 61, 61, 61, 61, 61, 61, 61, 61, 61, 61, 61, 61, 61, 61, 61, 61, 61, 61, 61, 61, 61, 61, 61, 61, 61, 61, 61, 61, 61, 61, 61, 61, 61, 61, 61, 61, 61, 61, 61, 61, 61, 61, 61, 61, 61, 61, 61, 61, 61, 61, 61, 61, 61, 61, 61, 61]⟩

set_option maxRecDepth 100000 in
def sTa : ByteArray := ⟨#[9, 9, 9, 9, 9, 9, 9, 9, 9, 9, 9, 9, 9, 9, 9, 9, 9, 9, 9, 9, 9, 9, 9, 9, 9, 9, 9, 9, 9, 9, 9, 9, 9, 9, 9, 9, 9, 9, 9, 9, 9, 9, 9, 9, 9, 9, 9, 9, 9, 9, 9, 9, 9, 9, 9, 9, 9, 9, 9, 9, 9, 9, 9, 9]⟩

end Go.VL

namespace Go.VL

open Go.Proofs

/-- a type -/
abbrev t_i64 : Nat := 2

/-- a type -/
abbrev t_int : Nat := 3

/-- a type -/
abbrev t_u8 : Nat := 5

/-- a type -/
abbrev t_metas : Nat := 22

/-- a type -/
abbrev t_u64 : Nat := 37

/-- a type -/
abbrev t_meta : Nat := 39

/-- a type -/
abbrev t_a20 : Nat := 154

/-- a type -/
abbrev t_a64 : Nat := 169

/-- a package variable -/
abbrev g_pow10 : Nat := 3

/-- a package variable -/
abbrev g_deB32 : Nat := 6

/-- a package variable -/
abbrev g_deB64 : Nat := 7

abbrev n_mName : Nat := 22

def c_mName : C := (.seq (.reg [⟨(some 6), (.mv (.c (.str ⟨#[]⟩))), none⟩]) (.seq (.block 0 (.seq (.reg [⟨(some 8), (.mv (.t 1)), none⟩, ⟨(some 9), (.sbin .eql (.t 8) (.c (.str ⟨#[112]⟩))), none⟩, ⟨(some 7), (.mv (.t 9)), none⟩]) (.cond (.t 7) (.seq (.reg [⟨(some 10), (.mv (.t 0)), none⟩, ⟨(some 11), (.call 45 [(.t 10), (.c (.int .i64 16)), (.c (.int .i64 16))]), none⟩, ⟨(some 12), (.sbin .add (.c (.str ⟨#[98, 47]⟩)) (.t 11)), none⟩, ⟨(some 13), (.sbin .add (.t 12) (.c (.str ⟨#[47, 112]⟩))), none⟩, ⟨(some 14), (.mv (.t 2)), none⟩, ⟨(some 15), (.mx [(.t 14), (.c (.int .i64 0))]), none⟩, ⟨(some 16), (.bin .rem .i64 (.t 15) (.c (.int .i64 1000))), none⟩, ⟨(some 17), (.conv .u64 (.t 16)), none⟩, ⟨(some 18), (.call 45 [(.t 17), (.c (.int .i64 10)), (.c (.int .i64 3))]), none⟩, ⟨(some 19), (.sbin .add (.t 13) (.t 18)), none⟩, ⟨(some 6), (.mv (.t 19)), none⟩]) .ret) (.seq (.reg [⟨(some 21), (.mv (.t 1)), none⟩, ⟨(some 22), (.slen (.t 21)), none⟩, ⟨(some 23), (.bin .eql .i64 (.t 22) (.c (.int .i64 1))), none⟩, ⟨(some 24), (.mv (.t 23)), none⟩, ⟨(some 25), (.mv (.t 1)), (some (24, true))⟩, ⟨(some 26), (.call 46 [(.c (.str ⟨#[109, 105, 102, 120]⟩)), (.t 25)]), (some (24, true))⟩, ⟨(some 27), (.pick (.t 24) (.t 26) (.c (.bool false))), none⟩, ⟨(some 20), (.mv (.t 27)), none⟩]) (.cond (.t 20) (.seq (.reg [⟨(some 28), (.mv (.t 0)), none⟩, ⟨(some 29), (.call 45 [(.t 28), (.c (.int .i64 16)), (.c (.int .i64 16))]), none⟩, ⟨(some 30), (.sbin .add (.c (.str ⟨#[98, 47]⟩)) (.t 29)), none⟩, ⟨(some 31), (.sbin .add (.t 30) (.c (.str ⟨#[47]⟩))), none⟩, ⟨(some 32), (.mv (.t 1)), none⟩, ⟨(some 33), (.sbin .add (.t 31) (.t 32)), none⟩, ⟨(some 6), (.mv (.t 33)), none⟩]) .ret) .skip))))) (.seq (.reg [⟨(some 6), (.mv (.c (.str ⟨#[]⟩))), none⟩]) .ret)))

set_option maxRecDepth 100000 in
theorem k_mName : compileC Tryd.prog ann (Tryd.f22.body.getD .skip) = some c_mName := by kernel_rfl

theorem s_mName {args : List AV} {σ : St} {K : AV → St → Prop} (h : WF σ → T Tryd.prog ann c_mName (Fin σ [(.t 6)] K) (args ++ List.replicate (34 - args.length) (.tup [])) σ) : ACalls Tryd.prog n_mName args σ K :=
  calls_ok Tryd.func22 (by kernel_rfl) (by kernel_rfl) k_mName (by kernel_rfl) (by kernel_rfl) h

abbrev n_mDig : Nat := 45

def c_mDig : C := (.seq (.reg [⟨(some 6), (.mv (.c (.str ⟨#[]⟩))), none⟩]) (.seq (.reg [⟨(some 8), (.mv (.t 0)), none⟩, ⟨(some 9), (.mv (.t 1)), none⟩, ⟨(some 10), (.call 63 [(.t 8), (.t 9)]), none⟩, ⟨(some 7), (.mv (.t 10)), none⟩]) (.seq (.reg [⟨(some 11), (.mv (.t 2)), none⟩, ⟨(some 12), (.mv (.t 7)), none⟩, ⟨(some 13), (.slen (.t 12)), none⟩, ⟨(some 14), (.bin .sub .i64 (.t 11) (.t 13)), none⟩, ⟨(some 15), (.mx [(.t 14), (.c (.int .i64 0))]), none⟩, ⟨(some 16), (.call 64 [(.c (.str ⟨#[48]⟩)), (.t 15)]), none⟩, ⟨(some 17), (.mv (.t 7)), none⟩, ⟨(some 18), (.sbin .add (.t 16) (.t 17)), none⟩, ⟨(some 6), (.mv (.t 18)), none⟩]) .ret)))

set_option maxRecDepth 100000 in
theorem k_mDig : compileC Tryd.prog ann (Tryd.f45.body.getD .skip) = some c_mDig := by kernel_rfl

theorem s_mDig {args : List AV} {σ : St} {K : AV → St → Prop} (h : WF σ → T Tryd.prog ann c_mDig (Fin σ [(.t 6)] K) (args ++ List.replicate (19 - args.length) (.tup [])) σ) : ACalls Tryd.prog n_mDig args σ K :=
  calls_ok Tryd.func45 (by kernel_rfl) (by kernel_rfl) k_mDig (by kernel_rfl) (by kernel_rfl) h

abbrev n_fmtU : Nat := 63

def c_fmtU : C := (.seq (.reg [⟨(some 4), (.mv (.c (.str ⟨#[]⟩))), none⟩]) (.seq (.reg [⟨(some 5), (.mv (.t 0)), none⟩, ⟨(some 6), (.mv (.t 1)), none⟩, ⟨(some 7), (.call 86 [(.t 5), (.t 6)]), none⟩, ⟨(some 4), (.mv (.t 7)), none⟩]) .ret))

set_option maxRecDepth 100000 in
theorem k_fmtU : compileC Tryd.prog ann (Tryd.f63.body.getD .skip) = some c_fmtU := by kernel_rfl

theorem s_fmtU {args : List AV} {σ : St} {K : AV → St → Prop} (h : WF σ → T Tryd.prog ann c_fmtU (Fin σ [(.t 4)] K) (args ++ List.replicate (8 - args.length) (.tup [])) σ) : ACalls Tryd.prog n_fmtU args σ K :=
  calls_ok Tryd.func63 (by kernel_rfl) (by kernel_rfl) k_fmtU (by kernel_rfl) (by kernel_rfl) h

abbrev n_ifmtU : Nat := 86

def c_ifmtU : C := (.seq (.reg [⟨(some 4), (.mv (.c (.str ⟨#[]⟩))), none⟩]) (.seq (.seq (.reg [⟨(some 9), (.mv (.t 1)), none⟩, ⟨(some 10), (.bin .eql .i64 (.t 9) (.c (.int .i64 10))), none⟩]) (.cond (.t 10) (.seq (.seq (.reg [⟨(some 11), (.mv (.t 0)), none⟩, ⟨(some 12), (.bin .lss .u64 (.t 11) (.c (.int .u64 100))), none⟩]) (.cond (.t 12) (.seq (.reg [⟨(some 13), (.mv (.t 0)), none⟩, ⟨(some 14), (.conv .i64 (.t 13)), none⟩, ⟨(some 15), (.call 103 [(.t 14)]), none⟩, ⟨(some 4), (.mv (.t 15)), none⟩]) .ret) .skip)) (.seq (.reg [⟨(some 5), (.alloc (zeros 24 (.int .u8 0))), none⟩]) (.seq (.reg [⟨(some 16), (.mv (.t 0)), none⟩, ⟨(some 17), (.call 104 [(.t 16)]), none⟩, ⟨(some 6), (.mv (.t 17)), none⟩]) (.seq (.reg [⟨(some 18), (.mv (.t 6)), none⟩, ⟨(some 19), (.sliceA 24 1 (.t 5) none (some (.t 18))), none⟩, ⟨(some 20), (.mv (.t 0)), none⟩, ⟨(some 21), (.call 105 [(.t 19), (.t 20)]), none⟩]) (.seq (.reg [⟨(some 22), (.mv (.t 6)), none⟩, ⟨(some 23), (.sliceA 24 1 (.t 5) none (some (.t 22))), none⟩, ⟨(some 24), (.convBS (.t 23)), none⟩, ⟨(some 4), (.mv (.t 24)), none⟩]) .ret))))) .skip)) (.seq (.reg [⟨(some 26), (.mv (.t 0)), none⟩, ⟨(some 27), (.mv (.t 1)), none⟩, ⟨(some 28), (.call 106 [(.c (.sl [] .nil)), (.t 26), (.t 27), (.c (.bool false)), (.c (.bool false))]), none⟩, ⟨(some 25), (.mv (.t 28)), none⟩, ⟨(some 29), (.ext (.t 25) 0), none⟩, ⟨(some 30), (.ext (.t 25) 1), none⟩, ⟨(some 7), (.mv (.t 29)), none⟩, ⟨(some 8), (.mv (.t 30)), none⟩]) (.seq (.reg [⟨(some 31), (.mv (.t 8)), none⟩, ⟨(some 4), (.mv (.t 31)), none⟩]) .ret))))

set_option maxRecDepth 100000 in
theorem k_ifmtU : compileC Tryd.prog ann (Tryd.f86.body.getD .skip) = some c_ifmtU := by kernel_rfl

theorem s_ifmtU {args : List AV} {σ : St} {K : AV → St → Prop} (h : WF σ → T Tryd.prog ann c_ifmtU (Fin σ [(.t 4)] K) (args ++ List.replicate (32 - args.length) (.tup [])) σ) : ACalls Tryd.prog n_ifmtU args σ K :=
  calls_ok Tryd.func86 (by kernel_rfl) (by kernel_rfl) k_ifmtU (by kernel_rfl) (by kernel_rfl) h

abbrev n_fbits : Nat := 106

def c_fbits : C := (.seq (.reg [⟨(some 10), (.mv (.c (.sl [] .nil))), none⟩, ⟨(some 11), (.mv (.c (.str ⟨#[]⟩))), none⟩]) (.seq (.seq (.reg [⟨(some 19), (.mv (.t 2)), none⟩, ⟨(some 20), (.bin .lss .i64 (.t 19) (.c (.int .i64 2))), none⟩, ⟨(some 21), (.mv (.t 20)), none⟩, ⟨(some 22), (.mv (.t 2)), (some (21, false))⟩, ⟨(some 23), (.bin .eql .i64 (.t 22) (.c (.int .i64 10))), (some (21, false))⟩, ⟨(some 24), (.pick (.t 21) (.c (.bool true)) (.t 23)), none⟩, ⟨(some 25), (.mv (.t 24)), none⟩, ⟨(some 26), (.mv (.t 2)), (some (25, false))⟩, ⟨(some 27), (.bin .gtr .i64 (.t 26) (.c (.int .i64 36))), (some (25, false))⟩, ⟨(some 28), (.pick (.t 25) (.c (.bool true)) (.t 27)), none⟩]) (.cond (.t 28) (.reg [⟨(some 29), (.mkI 9 (.c (.str ⟨#[115, 116, 114, 99, 111, 110, 118, 58, 32, 105, 108, 108, 101, 103, 97, 108, 32, 65, 112, 112, 101, 110, 100, 73, 110, 116, 47, 70, 111, 114, 109, 97, 116, 73, 110, 116, 32, 98, 97, 115, 101]⟩))), none⟩, ⟨none, .panic, none⟩]) .skip)) (.seq (.reg [⟨(some 12), (.alloc (zeros 65 (.int .u8 0))), none⟩]) (.seq (.reg [⟨(some 13), (.mv (.c (.int .i64 65))), none⟩]) (.seq (.seq (.reg [⟨(some 30), (.mv (.t 3)), none⟩]) (.cond (.t 30) (.reg [⟨(some 31), (.mv (.t 1)), none⟩, ⟨(some 32), (.un .neg .u64 (.t 31)), none⟩, ⟨(some 1), (.mv (.t 32)), none⟩]) .skip)) (.seq (.seq (.reg [⟨(some 33), (.mv (.t 2)), none⟩, ⟨(some 34), (.call 122 [(.t 33)]), none⟩]) (.cond (.t 34) (.seq (.reg [⟨(some 35), (.mv (.t 2)), none⟩, ⟨(some 36), (.conv .u64 (.t 35)), none⟩, ⟨(some 37), (.call 123 [(.t 36)]), none⟩, ⟨(some 38), (.conv .u64 (.t 37)), none⟩, ⟨(some 14), (.mv (.t 38)), none⟩]) (.seq (.reg [⟨(some 39), (.mv (.t 2)), none⟩, ⟨(some 40), (.conv .u64 (.t 39)), none⟩, ⟨(some 15), (.mv (.t 40)), none⟩]) (.seq (.reg [⟨(some 41), (.mv (.t 2)), none⟩, ⟨(some 42), (.conv .u64 (.t 41)), none⟩, ⟨(some 43), (.bin .sub .u64 (.t 42) (.c (.int .u64 1))), none⟩, ⟨(some 16), (.mv (.t 43)), none⟩]) (.seq (.block 0 (.loop (.seq (.seq (.reg [⟨(some 44), (.mv (.t 1)), none⟩, ⟨(some 45), (.mv (.t 15)), none⟩, ⟨(some 46), (.bin .geq .u64 (.t 44) (.t 45)), none⟩]) (.cond (.t 46) .skip (.exit 0))) (.block 1 (.seq (.reg [⟨(some 47), (.mv (.t 13)), none⟩, ⟨(some 48), (.bin .sub .i64 (.t 47) (.c (.int .i64 1))), none⟩, ⟨(some 13), (.mv (.t 48)), none⟩]) (.seq (.reg [⟨(some 49), (.mv (.t 13)), none⟩, ⟨(some 50), (.mv (.t 1)), none⟩, ⟨(some 51), (.mv (.t 16)), none⟩, ⟨(some 52), (.bin .and .u64 (.t 50) (.t 51)), none⟩, ⟨(some 53), (.idxS (.c (.str sDig36)) (.t 52)), none⟩, ⟨(some 54), (.iaddrA 65 1 (.t 12) (.t 49)), none⟩, ⟨none, (.store 1 (.t 54) (.t 53)), none⟩]) (.reg [⟨(some 55), (.mv (.t 1)), none⟩, ⟨(some 56), (.mv (.t 14)), none⟩, ⟨(some 57), (.bin .shr .u64 (.t 55) (.t 56)), none⟩, ⟨(some 1), (.mv (.t 57)), none⟩]))))))) (.seq (.reg [⟨(some 58), (.mv (.t 13)), none⟩, ⟨(some 59), (.bin .sub .i64 (.t 58) (.c (.int .i64 1))), none⟩, ⟨(some 13), (.mv (.t 59)), none⟩]) (.reg [⟨(some 60), (.mv (.t 13)), none⟩, ⟨(some 61), (.mv (.t 1)), none⟩, ⟨(some 62), (.idxS (.c (.str sDig36)) (.t 61)), none⟩, ⟨(some 63), (.iaddrA 65 1 (.t 12) (.t 60)), none⟩, ⟨none, (.store 1 (.t 63) (.t 62)), none⟩])))))) (.seq (.reg [⟨(some 64), (.mv (.t 2)), none⟩, ⟨(some 65), (.conv .u64 (.t 64)), none⟩, ⟨(some 17), (.mv (.t 65)), none⟩]) (.seq (.block 2 (.loop (.seq (.seq (.reg [⟨(some 66), (.mv (.t 1)), none⟩, ⟨(some 67), (.mv (.t 17)), none⟩, ⟨(some 68), (.bin .geq .u64 (.t 66) (.t 67)), none⟩]) (.cond (.t 68) .skip (.exit 2))) (.block 3 (.seq (.reg [⟨(some 69), (.mv (.t 13)), none⟩, ⟨(some 70), (.bin .sub .i64 (.t 69) (.c (.int .i64 1))), none⟩, ⟨(some 13), (.mv (.t 70)), none⟩]) (.seq (.reg [⟨(some 71), (.mv (.t 1)), none⟩, ⟨(some 72), (.mv (.t 17)), none⟩, ⟨(some 73), (.bin .quo .u64 (.t 71) (.t 72)), none⟩, ⟨(some 18), (.mv (.t 73)), none⟩]) (.seq (.reg [⟨(some 74), (.mv (.t 13)), none⟩, ⟨(some 75), (.mv (.t 1)), none⟩, ⟨(some 76), (.mv (.t 18)), none⟩, ⟨(some 77), (.mv (.t 17)), none⟩, ⟨(some 78), (.bin .mul .u64 (.t 76) (.t 77)), none⟩, ⟨(some 79), (.bin .sub .u64 (.t 75) (.t 78)), none⟩, ⟨(some 80), (.idxS (.c (.str sDig36)) (.t 79)), none⟩, ⟨(some 81), (.iaddrA 65 1 (.t 12) (.t 74)), none⟩, ⟨none, (.store 1 (.t 81) (.t 80)), none⟩]) (.reg [⟨(some 82), (.mv (.t 18)), none⟩, ⟨(some 1), (.mv (.t 82)), none⟩])))))))) (.seq (.reg [⟨(some 83), (.mv (.t 13)), none⟩, ⟨(some 84), (.bin .sub .i64 (.t 83) (.c (.int .i64 1))), none⟩, ⟨(some 13), (.mv (.t 84)), none⟩]) (.reg [⟨(some 85), (.mv (.t 13)), none⟩, ⟨(some 86), (.mv (.t 1)), none⟩, ⟨(some 87), (.idxS (.c (.str sDig36)) (.t 86)), none⟩, ⟨(some 88), (.iaddrA 65 1 (.t 12) (.t 85)), none⟩, ⟨none, (.store 1 (.t 88) (.t 87)), none⟩])))))) (.seq (.seq (.reg [⟨(some 89), (.mv (.t 3)), none⟩]) (.cond (.t 89) (.seq (.reg [⟨(some 90), (.mv (.t 13)), none⟩, ⟨(some 91), (.bin .sub .i64 (.t 90) (.c (.int .i64 1))), none⟩, ⟨(some 13), (.mv (.t 91)), none⟩]) (.reg [⟨(some 92), (.mv (.t 13)), none⟩, ⟨(some 93), (.iaddrA 65 1 (.t 12) (.t 92)), none⟩, ⟨none, (.store 1 (.t 93) (.c (.int .u8 45))), none⟩])) .skip)) (.seq (.seq (.reg [⟨(some 94), (.mv (.t 4)), none⟩]) (.cond (.t 94) (.seq (.reg [⟨(some 95), (.mv (.t 0)), none⟩, ⟨(some 96), (.mv (.t 13)), none⟩, ⟨(some 97), (.sliceA 65 1 (.t 12) (some (.t 96)) none), none⟩, ⟨(some 98), (.app 1 1 .tip (.t 95) (.t 97)), none⟩, ⟨(some 10), (.mv (.t 98)), none⟩]) .ret) .skip)) (.seq (.reg [⟨(some 99), (.mv (.t 13)), none⟩, ⟨(some 100), (.sliceA 65 1 (.t 12) (some (.t 99)) none), none⟩, ⟨(some 101), (.convBS (.t 100)), none⟩, ⟨(some 11), (.mv (.t 101)), none⟩]) .ret)))))))))

set_option maxRecDepth 100000 in
theorem k_fbits : compileC Tryd.prog ann (Tryd.f106.body.getD .skip) = some c_fbits := by kernel_rfl

theorem s_fbits {args : List AV} {σ : St} {K : AV → St → Prop} (h : WF σ → T Tryd.prog ann c_fbits (Fin σ [(.t 10), (.t 11)] K) (args ++ List.replicate (102 - args.length) (.tup [])) σ) : ACalls Tryd.prog n_fbits args σ K :=
  calls_ok Tryd.func106 (by kernel_rfl) (by kernel_rfl) k_fbits (by kernel_rfl) (by kernel_rfl) h

abbrev n_ismall : Nat := 103

def c_ismall : C := (.seq (.reg [⟨(some 2), (.mv (.c (.str ⟨#[]⟩))), none⟩]) (.seq (.seq (.reg [⟨(some 3), (.mv (.t 0)), none⟩, ⟨(some 4), (.bin .lss .i64 (.t 3) (.c (.int .i64 10))), none⟩]) (.cond (.t 4) (.seq (.reg [⟨(some 5), (.mv (.t 0)), none⟩, ⟨(some 6), (.mv (.t 0)), none⟩, ⟨(some 7), (.bin .add .i64 (.t 6) (.c (.int .i64 1))), none⟩, ⟨(some 8), (.sslice (.c (.str sDig36)) (some (.t 5)) (some (.t 7))), none⟩, ⟨(some 2), (.mv (.t 8)), none⟩]) .ret) .skip)) (.seq (.reg [⟨(some 9), (.mv (.t 0)), none⟩, ⟨(some 10), (.bin .mul .i64 (.t 9) (.c (.int .i64 2))), none⟩, ⟨(some 11), (.mv (.t 0)), none⟩, ⟨(some 12), (.bin .mul .i64 (.t 11) (.c (.int .i64 2))), none⟩, ⟨(some 13), (.bin .add .i64 (.t 12) (.c (.int .i64 2))), none⟩, ⟨(some 14), (.sslice (.c (.str sSmalls)) (some (.t 10)) (some (.t 13))), none⟩, ⟨(some 2), (.mv (.t 14)), none⟩]) .ret)))

set_option maxRecDepth 100000 in
theorem k_ismall : compileC Tryd.prog ann (Tryd.f103.body.getD .skip) = some c_ismall := by kernel_rfl

theorem s_ismall {args : List AV} {σ : St} {K : AV → St → Prop} (h : WF σ → T Tryd.prog ann c_ismall (Fin σ [(.t 2)] K) (args ++ List.replicate (15 - args.length) (.tup [])) σ) : ACalls Tryd.prog n_ismall args σ K :=
  calls_ok Tryd.func103 (by kernel_rfl) (by kernel_rfl) k_ismall (by kernel_rfl) (by kernel_rfl) h

abbrev n_fb10 : Nat := 105

def c_fb10 : C := (.seq (.reg [⟨(some 17), (.mv (.t 0)), none⟩, ⟨(some 18), (.len (.t 17)), none⟩, ⟨(some 4), (.mv (.t 18)), none⟩]) (.seq (.block 0 (.loop (.seq (.seq (.reg [⟨(some 19), (.mv (.t 4)), none⟩, ⟨(some 20), (.bin .geq .i64 (.t 19) (.c (.int .i64 8))), none⟩]) (.cond (.t 20) .skip (.exit 0))) (.block 1 (.seq (.reg [⟨(some 21), (.mv (.t 1)), none⟩, ⟨(some 22), (.bin .rem .u64 (.t 21) (.c (.int .u64 100000000))), none⟩, ⟨(some 23), (.conv .u32 (.t 22)), none⟩, ⟨(some 5), (.mv (.t 23)), none⟩]) (.seq (.reg [⟨(some 24), (.mv (.t 1)), none⟩, ⟨(some 25), (.bin .quo .u64 (.t 24) (.c (.int .u64 100000000))), none⟩, ⟨(some 1), (.mv (.t 25)), none⟩]) (.seq (.reg [⟨(some 26), (.mv (.t 5)), none⟩, ⟨(some 27), (.bin .quo .u32 (.t 26) (.c (.int .u32 10000))), none⟩, ⟨(some 28), (.mv (.t 5)), none⟩, ⟨(some 29), (.bin .rem .u32 (.t 28) (.c (.int .u32 10000))), none⟩, ⟨(some 6), (.mv (.t 27)), none⟩, ⟨(some 7), (.mv (.t 29)), none⟩]) (.seq (.reg [⟨(some 30), (.mv (.t 7)), none⟩, ⟨(some 31), (.bin .quo .u32 (.t 30) (.c (.int .u32 100))), none⟩, ⟨(some 32), (.bin .mul .u32 (.t 31) (.c (.int .u32 2))), none⟩, ⟨(some 33), (.mv (.t 7)), none⟩, ⟨(some 34), (.bin .rem .u32 (.t 33) (.c (.int .u32 100))), none⟩, ⟨(some 35), (.bin .mul .u32 (.t 34) (.c (.int .u32 2))), none⟩, ⟨(some 8), (.mv (.t 32)), none⟩, ⟨(some 9), (.mv (.t 35)), none⟩]) (.seq (.reg [⟨(some 36), (.mv (.t 6)), none⟩, ⟨(some 37), (.bin .quo .u32 (.t 36) (.c (.int .u32 100))), none⟩, ⟨(some 38), (.bin .mul .u32 (.t 37) (.c (.int .u32 2))), none⟩, ⟨(some 39), (.mv (.t 6)), none⟩, ⟨(some 40), (.bin .rem .u32 (.t 39) (.c (.int .u32 100))), none⟩, ⟨(some 41), (.bin .mul .u32 (.t 40) (.c (.int .u32 2))), none⟩, ⟨(some 10), (.mv (.t 38)), none⟩, ⟨(some 11), (.mv (.t 41)), none⟩]) (.seq (.reg [⟨(some 42), (.mv (.t 0)), none⟩, ⟨(some 43), (.mv (.t 4)), none⟩, ⟨(some 44), (.bin .sub .i64 (.t 43) (.c (.int .i64 1))), none⟩, ⟨(some 45), (.mv (.t 0)), none⟩, ⟨(some 46), (.mv (.t 4)), none⟩, ⟨(some 47), (.bin .sub .i64 (.t 46) (.c (.int .i64 2))), none⟩, ⟨(some 48), (.mv (.t 9)), none⟩, ⟨(some 49), (.bin .add .u32 (.t 48) (.c (.int .u32 1))), none⟩, ⟨(some 50), (.idxS (.c (.str sSmalls)) (.t 49)), none⟩, ⟨(some 51), (.mv (.t 9)), none⟩, ⟨(some 52), (.idxS (.c (.str sSmalls)) (.t 51)), none⟩, ⟨(some 53), (.iaddr 1 (.t 42) (.t 44)), none⟩, ⟨none, (.store 1 (.t 53) (.t 50)), none⟩, ⟨(some 54), (.iaddr 1 (.t 45) (.t 47)), none⟩, ⟨none, (.store 1 (.t 54) (.t 52)), none⟩]) (.seq (.reg [⟨(some 55), (.mv (.t 0)), none⟩, ⟨(some 56), (.mv (.t 4)), none⟩, ⟨(some 57), (.bin .sub .i64 (.t 56) (.c (.int .i64 3))), none⟩, ⟨(some 58), (.mv (.t 0)), none⟩, ⟨(some 59), (.mv (.t 4)), none⟩, ⟨(some 60), (.bin .sub .i64 (.t 59) (.c (.int .i64 4))), none⟩, ⟨(some 61), (.mv (.t 8)), none⟩, ⟨(some 62), (.bin .add .u32 (.t 61) (.c (.int .u32 1))), none⟩, ⟨(some 63), (.idxS (.c (.str sSmalls)) (.t 62)), none⟩, ⟨(some 64), (.mv (.t 8)), none⟩, ⟨(some 65), (.idxS (.c (.str sSmalls)) (.t 64)), none⟩, ⟨(some 66), (.iaddr 1 (.t 55) (.t 57)), none⟩, ⟨none, (.store 1 (.t 66) (.t 63)), none⟩, ⟨(some 67), (.iaddr 1 (.t 58) (.t 60)), none⟩, ⟨none, (.store 1 (.t 67) (.t 65)), none⟩]) (.seq (.reg [⟨(some 68), (.mv (.t 0)), none⟩, ⟨(some 69), (.mv (.t 4)), none⟩, ⟨(some 70), (.bin .sub .i64 (.t 69) (.c (.int .i64 5))), none⟩, ⟨(some 71), (.mv (.t 0)), none⟩, ⟨(some 72), (.mv (.t 4)), none⟩, ⟨(some 73), (.bin .sub .i64 (.t 72) (.c (.int .i64 6))), none⟩, ⟨(some 74), (.mv (.t 11)), none⟩, ⟨(some 75), (.bin .add .u32 (.t 74) (.c (.int .u32 1))), none⟩, ⟨(some 76), (.idxS (.c (.str sSmalls)) (.t 75)), none⟩, ⟨(some 77), (.mv (.t 11)), none⟩, ⟨(some 78), (.idxS (.c (.str sSmalls)) (.t 77)), none⟩, ⟨(some 79), (.iaddr 1 (.t 68) (.t 70)), none⟩, ⟨none, (.store 1 (.t 79) (.t 76)), none⟩, ⟨(some 80), (.iaddr 1 (.t 71) (.t 73)), none⟩, ⟨none, (.store 1 (.t 80) (.t 78)), none⟩]) (.seq (.reg [⟨(some 81), (.mv (.t 0)), none⟩, ⟨(some 82), (.mv (.t 4)), none⟩, ⟨(some 83), (.bin .sub .i64 (.t 82) (.c (.int .i64 7))), none⟩, ⟨(some 84), (.mv (.t 0)), none⟩, ⟨(some 85), (.mv (.t 4)), none⟩, ⟨(some 86), (.bin .sub .i64 (.t 85) (.c (.int .i64 8))), none⟩, ⟨(some 87), (.mv (.t 10)), none⟩, ⟨(some 88), (.bin .add .u32 (.t 87) (.c (.int .u32 1))), none⟩, ⟨(some 89), (.idxS (.c (.str sSmalls)) (.t 88)), none⟩, ⟨(some 90), (.mv (.t 10)), none⟩, ⟨(some 91), (.idxS (.c (.str sSmalls)) (.t 90)), none⟩, ⟨(some 92), (.iaddr 1 (.t 81) (.t 83)), none⟩, ⟨none, (.store 1 (.t 92) (.t 89)), none⟩, ⟨(some 93), (.iaddr 1 (.t 84) (.t 86)), none⟩, ⟨none, (.store 1 (.t 93) (.t 91)), none⟩]) (.reg [⟨(some 94), (.mv (.t 4)), none⟩, ⟨(some 95), (.bin .sub .i64 (.t 94) (.c (.int .i64 8))), none⟩, ⟨(some 4), (.mv (.t 95)), none⟩])))))))))))))) (.seq (.reg [⟨(some 96), (.mv (.t 1)), none⟩, ⟨(some 97), (.conv .u32 (.t 96)), none⟩, ⟨(some 12), (.mv (.t 97)), none⟩]) (.seq (.seq (.reg [⟨(some 98), (.mv (.t 4)), none⟩, ⟨(some 99), (.bin .geq .i64 (.t 98) (.c (.int .i64 4))), none⟩]) (.cond (.t 99) (.seq (.reg [⟨(some 100), (.mv (.t 12)), none⟩, ⟨(some 101), (.bin .rem .u32 (.t 100) (.c (.int .u32 10000))), none⟩, ⟨(some 13), (.mv (.t 101)), none⟩]) (.seq (.reg [⟨(some 102), (.mv (.t 12)), none⟩, ⟨(some 103), (.bin .quo .u32 (.t 102) (.c (.int .u32 10000))), none⟩, ⟨(some 12), (.mv (.t 103)), none⟩]) (.seq (.reg [⟨(some 104), (.mv (.t 13)), none⟩, ⟨(some 105), (.bin .quo .u32 (.t 104) (.c (.int .u32 100))), none⟩, ⟨(some 106), (.bin .mul .u32 (.t 105) (.c (.int .u32 2))), none⟩, ⟨(some 107), (.mv (.t 13)), none⟩, ⟨(some 108), (.bin .rem .u32 (.t 107) (.c (.int .u32 100))), none⟩, ⟨(some 109), (.bin .mul .u32 (.t 108) (.c (.int .u32 2))), none⟩, ⟨(some 14), (.mv (.t 106)), none⟩, ⟨(some 15), (.mv (.t 109)), none⟩]) (.seq (.reg [⟨(some 110), (.mv (.t 0)), none⟩, ⟨(some 111), (.mv (.t 4)), none⟩, ⟨(some 112), (.bin .sub .i64 (.t 111) (.c (.int .i64 1))), none⟩, ⟨(some 113), (.mv (.t 0)), none⟩, ⟨(some 114), (.mv (.t 4)), none⟩, ⟨(some 115), (.bin .sub .i64 (.t 114) (.c (.int .i64 2))), none⟩, ⟨(some 116), (.mv (.t 15)), none⟩, ⟨(some 117), (.bin .add .u32 (.t 116) (.c (.int .u32 1))), none⟩, ⟨(some 118), (.idxS (.c (.str sSmalls)) (.t 117)), none⟩, ⟨(some 119), (.mv (.t 15)), none⟩, ⟨(some 120), (.idxS (.c (.str sSmalls)) (.t 119)), none⟩, ⟨(some 121), (.iaddr 1 (.t 110) (.t 112)), none⟩, ⟨none, (.store 1 (.t 121) (.t 118)), none⟩, ⟨(some 122), (.iaddr 1 (.t 113) (.t 115)), none⟩, ⟨none, (.store 1 (.t 122) (.t 120)), none⟩]) (.seq (.reg [⟨(some 123), (.mv (.t 0)), none⟩, ⟨(some 124), (.mv (.t 4)), none⟩, ⟨(some 125), (.bin .sub .i64 (.t 124) (.c (.int .i64 3))), none⟩, ⟨(some 126), (.mv (.t 0)), none⟩, ⟨(some 127), (.mv (.t 4)), none⟩, ⟨(some 128), (.bin .sub .i64 (.t 127) (.c (.int .i64 4))), none⟩, ⟨(some 129), (.mv (.t 14)), none⟩, ⟨(some 130), (.bin .add .u32 (.t 129) (.c (.int .u32 1))), none⟩, ⟨(some 131), (.idxS (.c (.str sSmalls)) (.t 130)), none⟩, ⟨(some 132), (.mv (.t 14)), none⟩, ⟨(some 133), (.idxS (.c (.str sSmalls)) (.t 132)), none⟩, ⟨(some 134), (.iaddr 1 (.t 123) (.t 125)), none⟩, ⟨none, (.store 1 (.t 134) (.t 131)), none⟩, ⟨(some 135), (.iaddr 1 (.t 126) (.t 128)), none⟩, ⟨none, (.store 1 (.t 135) (.t 133)), none⟩]) (.reg [⟨(some 136), (.mv (.t 4)), none⟩, ⟨(some 137), (.bin .sub .i64 (.t 136) (.c (.int .i64 4))), none⟩, ⟨(some 4), (.mv (.t 137)), none⟩])))))) .skip)) (.seq (.seq (.reg [⟨(some 138), (.mv (.t 4)), none⟩, ⟨(some 139), (.bin .geq .i64 (.t 138) (.c (.int .i64 2))), none⟩]) (.cond (.t 139) (.seq (.reg [⟨(some 140), (.mv (.t 12)), none⟩, ⟨(some 141), (.bin .rem .u32 (.t 140) (.c (.int .u32 100))), none⟩, ⟨(some 142), (.bin .mul .u32 (.t 141) (.c (.int .u32 2))), none⟩, ⟨(some 16), (.mv (.t 142)), none⟩]) (.seq (.reg [⟨(some 143), (.mv (.t 12)), none⟩, ⟨(some 144), (.bin .quo .u32 (.t 143) (.c (.int .u32 100))), none⟩, ⟨(some 12), (.mv (.t 144)), none⟩]) (.seq (.reg [⟨(some 145), (.mv (.t 0)), none⟩, ⟨(some 146), (.mv (.t 4)), none⟩, ⟨(some 147), (.bin .sub .i64 (.t 146) (.c (.int .i64 1))), none⟩, ⟨(some 148), (.mv (.t 0)), none⟩, ⟨(some 149), (.mv (.t 4)), none⟩, ⟨(some 150), (.bin .sub .i64 (.t 149) (.c (.int .i64 2))), none⟩, ⟨(some 151), (.mv (.t 16)), none⟩, ⟨(some 152), (.bin .add .u32 (.t 151) (.c (.int .u32 1))), none⟩, ⟨(some 153), (.idxS (.c (.str sSmalls)) (.t 152)), none⟩, ⟨(some 154), (.mv (.t 16)), none⟩, ⟨(some 155), (.idxS (.c (.str sSmalls)) (.t 154)), none⟩, ⟨(some 156), (.iaddr 1 (.t 145) (.t 147)), none⟩, ⟨none, (.store 1 (.t 156) (.t 153)), none⟩, ⟨(some 157), (.iaddr 1 (.t 148) (.t 150)), none⟩, ⟨none, (.store 1 (.t 157) (.t 155)), none⟩]) (.reg [⟨(some 158), (.mv (.t 4)), none⟩, ⟨(some 159), (.bin .sub .i64 (.t 158) (.c (.int .i64 2))), none⟩, ⟨(some 4), (.mv (.t 159)), none⟩])))) .skip)) (.seq (.reg [⟨(some 160), (.mv (.t 4)), none⟩, ⟨(some 161), (.bin .gtr .i64 (.t 160) (.c (.int .i64 0))), none⟩]) (.cond (.t 161) (.reg [⟨(some 162), (.mv (.t 0)), none⟩, ⟨(some 163), (.mv (.t 12)), none⟩, ⟨(some 164), (.bin .add .u32 (.c (.int .u32 48)) (.t 163)), none⟩, ⟨(some 165), (.conv .u8 (.t 164)), none⟩, ⟨(some 166), (.iaddr 1 (.t 162) (.c (.int .i64 0))), none⟩, ⟨none, (.store 1 (.t 166) (.t 165)), none⟩]) .skip)))))))

set_option maxRecDepth 100000 in
theorem k_fb10 : compileC Tryd.prog ann (Tryd.f105.body.getD .skip) = some c_fb10 := by kernel_rfl

theorem s_fb10 {args : List AV} {σ : St} {K : AV → St → Prop} (h : WF σ → T Tryd.prog ann c_fb10 (Fin σ [] K) (args ++ List.replicate (167 - args.length) (.tup [])) σ) : ACalls Tryd.prog n_fb10 args σ K :=
  calls_ok Tryd.func105 (by kernel_rfl) (by kernel_rfl) k_fb10 (by kernel_rfl) (by kernel_rfl) h

abbrev n_numd : Nat := 104

def c_numd : C := (.seq (.reg [⟨(some 2), (.mv (.c (.int .i64 0))), none⟩]) (.seq (.reg [⟨(some 4), (.mv (.t 0)), none⟩, ⟨(some 5), (.call 120 [(.t 4)]), none⟩, ⟨(some 6), (.call 119 [(.t 5)]), none⟩, ⟨(some 3), (.mv (.t 6)), none⟩]) (.seq (.reg [⟨(some 7), (.mv (.t 3)), none⟩, ⟨(some 8), (.mv (.t 0)), none⟩, ⟨(some 9), (.mv (.t 3)), none⟩, ⟨(some 10), (.gaddr 3 20 1 (.t 9)), none⟩, ⟨(some 11), (.load none (.t 10)), none⟩, ⟨(some 12), (.bin .geq .u64 (.t 8) (.t 11)), none⟩, ⟨(some 13), (.call 121 [(.t 12)]), none⟩, ⟨(some 14), (.bin .add .i64 (.t 7) (.t 13)), none⟩, ⟨(some 2), (.mv (.t 14)), none⟩]) .ret)))

set_option maxRecDepth 100000 in
theorem k_numd : compileC Tryd.prog ann (Tryd.f104.body.getD .skip) = some c_numd := by kernel_rfl

theorem s_numd {args : List AV} {σ : St} {K : AV → St → Prop} (h : WF σ → T Tryd.prog ann c_numd (Fin σ [(.t 2)] K) (args ++ List.replicate (15 - args.length) (.tup [])) σ) : ACalls Tryd.prog n_numd args σ K :=
  calls_ok Tryd.func104 (by kernel_rfl) (by kernel_rfl) k_numd (by kernel_rfl) (by kernel_rfl) h

abbrev n_l10p2 : Nat := 119

def c_l10p2 : C := (.seq (.reg [⟨(some 2), (.mv (.c (.int .i64 0))), none⟩]) (.seq (.reg [⟨(some 3), (.mv (.t 0)), none⟩, ⟨(some 4), (.bin .mul .i64 (.t 3) (.c (.int .i64 78913))), none⟩, ⟨(some 5), (.bin .shr .i64 (.t 4) (.c (.int .u64 18))), none⟩, ⟨(some 2), (.mv (.t 5)), none⟩]) .ret))

set_option maxRecDepth 100000 in
theorem k_l10p2 : compileC Tryd.prog ann (Tryd.f119.body.getD .skip) = some c_l10p2 := by kernel_rfl

theorem s_l10p2 {args : List AV} {σ : St} {K : AV → St → Prop} (h : WF σ → T Tryd.prog ann c_l10p2 (Fin σ [(.t 2)] K) (args ++ List.replicate (6 - args.length) (.tup [])) σ) : ACalls Tryd.prog n_l10p2 args σ K :=
  calls_ok Tryd.func119 (by kernel_rfl) (by kernel_rfl) k_l10p2 (by kernel_rfl) (by kernel_rfl) h

abbrev n_len64 : Nat := 120

def c_len64 : C := (.seq (.reg [⟨(some 2), (.mv (.c (.int .i64 0))), none⟩]) (.seq (.seq (.reg [⟨(some 3), (.mv (.t 0)), none⟩, ⟨(some 4), (.bin .geq .u64 (.t 3) (.c (.int .u64 4294967296))), none⟩]) (.cond (.t 4) (.seq (.reg [⟨(some 5), (.mv (.t 0)), none⟩, ⟨(some 6), (.bin .shr .u64 (.t 5) (.c (.int .u64 32))), none⟩, ⟨(some 0), (.mv (.t 6)), none⟩]) (.reg [⟨(some 2), (.mv (.c (.int .i64 32))), none⟩])) .skip)) (.seq (.seq (.reg [⟨(some 7), (.mv (.t 0)), none⟩, ⟨(some 8), (.bin .geq .u64 (.t 7) (.c (.int .u64 65536))), none⟩]) (.cond (.t 8) (.seq (.reg [⟨(some 9), (.mv (.t 0)), none⟩, ⟨(some 10), (.bin .shr .u64 (.t 9) (.c (.int .u64 16))), none⟩, ⟨(some 0), (.mv (.t 10)), none⟩]) (.reg [⟨(some 11), (.mv (.t 2)), none⟩, ⟨(some 12), (.bin .add .i64 (.t 11) (.c (.int .i64 16))), none⟩, ⟨(some 2), (.mv (.t 12)), none⟩])) .skip)) (.seq (.seq (.reg [⟨(some 13), (.mv (.t 0)), none⟩, ⟨(some 14), (.bin .geq .u64 (.t 13) (.c (.int .u64 256))), none⟩]) (.cond (.t 14) (.seq (.reg [⟨(some 15), (.mv (.t 0)), none⟩, ⟨(some 16), (.bin .shr .u64 (.t 15) (.c (.int .u64 8))), none⟩, ⟨(some 0), (.mv (.t 16)), none⟩]) (.reg [⟨(some 17), (.mv (.t 2)), none⟩, ⟨(some 18), (.bin .add .i64 (.t 17) (.c (.int .i64 8))), none⟩, ⟨(some 2), (.mv (.t 18)), none⟩])) .skip)) (.seq (.reg [⟨(some 19), (.mv (.t 2)), none⟩, ⟨(some 20), (.mv (.t 0)), none⟩, ⟨(some 21), (.conv .u8 (.t 20)), none⟩, ⟨(some 22), (.idxS (.c (.str sLen8)) (.t 21)), none⟩, ⟨(some 23), (.conv .i64 (.t 22)), none⟩, ⟨(some 24), (.bin .add .i64 (.t 19) (.t 23)), none⟩, ⟨(some 2), (.mv (.t 24)), none⟩]) .ret)))))

set_option maxRecDepth 100000 in
theorem k_len64 : compileC Tryd.prog ann (Tryd.f120.body.getD .skip) = some c_len64 := by kernel_rfl

theorem s_len64 {args : List AV} {σ : St} {K : AV → St → Prop} (h : WF σ → T Tryd.prog ann c_len64 (Fin σ [(.t 2)] K) (args ++ List.replicate (25 - args.length) (.tup [])) σ) : ACalls Tryd.prog n_len64 args σ K :=
  calls_ok Tryd.func120 (by kernel_rfl) (by kernel_rfl) k_len64 (by kernel_rfl) (by kernel_rfl) h

abbrev n_bool2i : Nat := 121

def c_bool2i : C := (.seq (.reg [⟨(some 2), (.mv (.c (.int .i64 0))), none⟩]) (.seq (.seq (.reg [⟨(some 3), (.mv (.t 0)), none⟩]) (.cond (.t 3) (.seq (.reg [⟨(some 2), (.mv (.c (.int .i64 1))), none⟩]) .ret) .skip)) (.seq (.reg [⟨(some 2), (.mv (.c (.int .i64 0))), none⟩]) .ret)))

set_option maxRecDepth 100000 in
theorem k_bool2i : compileC Tryd.prog ann (Tryd.f121.body.getD .skip) = some c_bool2i := by kernel_rfl

theorem s_bool2i {args : List AV} {σ : St} {K : AV → St → Prop} (h : WF σ → T Tryd.prog ann c_bool2i (Fin σ [(.t 2)] K) (args ++ List.replicate (4 - args.length) (.tup [])) σ) : ACalls Tryd.prog n_bool2i args σ K :=
  calls_ok Tryd.func121 (by kernel_rfl) (by kernel_rfl) k_bool2i (by kernel_rfl) (by kernel_rfl) h

abbrev n_pow2 : Nat := 122

def c_pow2 : C := (.seq (.reg [⟨(some 2), (.mv (.c (.bool false))), none⟩]) (.seq (.reg [⟨(some 3), (.mv (.t 0)), none⟩, ⟨(some 4), (.mv (.t 0)), none⟩, ⟨(some 5), (.bin .sub .i64 (.t 4) (.c (.int .i64 1))), none⟩, ⟨(some 6), (.bin .and .i64 (.t 3) (.t 5)), none⟩, ⟨(some 7), (.bin .eql .i64 (.t 6) (.c (.int .i64 0))), none⟩, ⟨(some 2), (.mv (.t 7)), none⟩]) .ret))

set_option maxRecDepth 100000 in
theorem k_pow2 : compileC Tryd.prog ann (Tryd.f122.body.getD .skip) = some c_pow2 := by kernel_rfl

theorem s_pow2 {args : List AV} {σ : St} {K : AV → St → Prop} (h : WF σ → T Tryd.prog ann c_pow2 (Fin σ [(.t 2)] K) (args ++ List.replicate (8 - args.length) (.tup [])) σ) : ACalls Tryd.prog n_pow2 args σ K :=
  calls_ok Tryd.func122 (by kernel_rfl) (by kernel_rfl) k_pow2 (by kernel_rfl) (by kernel_rfl) h

abbrev n_tz : Nat := 123

def c_tz : C := (.seq (.reg [⟨(some 2), (.mv (.c (.int .i64 0))), none⟩]) (.seq (.cond (.c (.bool false)) (.seq (.reg [⟨(some 3), (.mv (.t 0)), none⟩, ⟨(some 4), (.conv .u32 (.t 3)), none⟩, ⟨(some 5), (.call 130 [(.t 4)]), none⟩, ⟨(some 2), (.mv (.t 5)), none⟩]) .ret) .skip) (.seq (.reg [⟨(some 6), (.mv (.t 0)), none⟩, ⟨(some 7), (.call 131 [(.t 6)]), none⟩, ⟨(some 2), (.mv (.t 7)), none⟩]) .ret)))

set_option maxRecDepth 100000 in
theorem k_tz : compileC Tryd.prog ann (Tryd.f123.body.getD .skip) = some c_tz := by kernel_rfl

theorem s_tz {args : List AV} {σ : St} {K : AV → St → Prop} (h : WF σ → T Tryd.prog ann c_tz (Fin σ [(.t 2)] K) (args ++ List.replicate (8 - args.length) (.tup [])) σ) : ACalls Tryd.prog n_tz args σ K :=
  calls_ok Tryd.func123 (by kernel_rfl) (by kernel_rfl) k_tz (by kernel_rfl) (by kernel_rfl) h

abbrev n_tz64 : Nat := 131

def c_tz64 : C := (.seq (.reg [⟨(some 2), (.mv (.c (.int .i64 0))), none⟩]) (.seq (.seq (.reg [⟨(some 3), (.mv (.t 0)), none⟩, ⟨(some 4), (.bin .eql .u64 (.t 3) (.c (.int .u64 0))), none⟩]) (.cond (.t 4) (.seq (.reg [⟨(some 2), (.mv (.c (.int .i64 64))), none⟩]) .ret) .skip)) (.seq (.reg [⟨(some 5), (.mv (.t 0)), none⟩, ⟨(some 6), (.mv (.t 0)), none⟩, ⟨(some 7), (.un .neg .u64 (.t 6)), none⟩, ⟨(some 8), (.bin .and .u64 (.t 5) (.t 7)), none⟩, ⟨(some 9), (.bin .mul .u64 (.t 8) (.c (.int .u64 285870213051353865))), none⟩, ⟨(some 10), (.bin .shr .u64 (.t 9) (.c (.int .u64 58))), none⟩, ⟨(some 11), (.gaddr 7 64 1 (.t 10)), none⟩, ⟨(some 12), (.load none (.t 11)), none⟩, ⟨(some 13), (.conv .i64 (.t 12)), none⟩, ⟨(some 2), (.mv (.t 13)), none⟩]) .ret)))

set_option maxRecDepth 100000 in
theorem k_tz64 : compileC Tryd.prog ann (Tryd.f131.body.getD .skip) = some c_tz64 := by kernel_rfl

theorem s_tz64 {args : List AV} {σ : St} {K : AV → St → Prop} (h : WF σ → T Tryd.prog ann c_tz64 (Fin σ [(.t 2)] K) (args ++ List.replicate (14 - args.length) (.tup [])) σ) : ACalls Tryd.prog n_tz64 args σ K :=
  calls_ok Tryd.func131 (by kernel_rfl) (by kernel_rfl) k_tz64 (by kernel_rfl) (by kernel_rfl) h

abbrev n_srep : Nat := 64

def c_srep : C := (.seq (.reg [⟨(some 4), (.mv (.c (.str ⟨#[]⟩))), none⟩]) (.seq (.seq (.reg [⟨(some 11), (.mv (.t 1)), none⟩]) (.block 0 (.seq (.reg [⟨(some 13), (.bin .eql .i64 (.t 11) (.c (.int .i64 0))), none⟩, ⟨(some 12), (.mv (.t 13)), none⟩]) (.cond (.t 12) (.seq (.reg [⟨(some 4), (.mv (.c (.str ⟨#[]⟩))), none⟩]) .ret) (.seq (.reg [⟨(some 15), (.bin .eql .i64 (.t 11) (.c (.int .i64 1))), none⟩, ⟨(some 14), (.mv (.t 15)), none⟩]) (.cond (.t 14) (.seq (.reg [⟨(some 16), (.mv (.t 0)), none⟩, ⟨(some 4), (.mv (.t 16)), none⟩]) .ret) .skip)))))) (.seq (.seq (.reg [⟨(some 17), (.mv (.t 1)), none⟩, ⟨(some 18), (.bin .lss .i64 (.t 17) (.c (.int .i64 0))), none⟩]) (.cond (.t 18) (.reg [⟨(some 19), (.mkI 9 (.c (.str ⟨#[115, 116, 114, 105, 110, 103, 115, 58, 32, 110, 101, 103, 97, 116, 105, 118, 101, 32, 82, 101, 112, 101, 97, 116, 32, 99, 111, 117, 110, 116]⟩))), none⟩, ⟨none, .panic, none⟩]) .skip)) (.seq (.reg [⟨(some 21), (.mv (.t 0)), none⟩, ⟨(some 22), (.slen (.t 21)), none⟩, ⟨(some 23), (.conv .u64 (.t 22)), none⟩, ⟨(some 24), (.mv (.t 1)), none⟩, ⟨(some 25), (.conv .u64 (.t 24)), none⟩, ⟨(some 26), (.call 87 [(.t 23), (.t 25)]), none⟩, ⟨(some 20), (.mv (.t 26)), none⟩, ⟨(some 27), (.ext (.t 20) 0), none⟩, ⟨(some 28), (.ext (.t 20) 1), none⟩, ⟨(some 5), (.mv (.t 27)), none⟩, ⟨(some 6), (.mv (.t 28)), none⟩]) (.seq (.seq (.reg [⟨(some 29), (.mv (.t 5)), none⟩, ⟨(some 30), (.bin .gtr .u64 (.t 29) (.c (.int .u64 0))), none⟩, ⟨(some 31), (.mv (.t 30)), none⟩, ⟨(some 32), (.mv (.t 6)), (some (31, false))⟩, ⟨(some 33), (.bin .gtr .u64 (.t 32) (.c (.int .u64 9223372036854775807))), (some (31, false))⟩, ⟨(some 34), (.pick (.t 31) (.c (.bool true)) (.t 33)), none⟩]) (.cond (.t 34) (.reg [⟨(some 35), (.mkI 9 (.c (.str ⟨#[115, 116, 114, 105, 110, 103, 115, 58, 32, 82, 101, 112, 101, 97, 116, 32, 111, 117, 116, 112, 117, 116, 32, 108, 101, 110, 103, 116, 104, 32, 111, 118, 101, 114, 102, 108, 111, 119]⟩))), none⟩, ⟨none, .panic, none⟩]) .skip)) (.seq (.reg [⟨(some 36), (.mv (.t 6)), none⟩, ⟨(some 37), (.conv .i64 (.t 36)), none⟩, ⟨(some 7), (.mv (.t 37)), none⟩]) (.seq (.seq (.reg [⟨(some 38), (.mv (.t 0)), none⟩, ⟨(some 39), (.slen (.t 38)), none⟩, ⟨(some 40), (.bin .eql .i64 (.t 39) (.c (.int .i64 0))), none⟩]) (.cond (.t 40) (.seq (.reg [⟨(some 4), (.mv (.c (.str ⟨#[]⟩))), none⟩]) .ret) .skip)) (.seq (.seq (.reg [⟨(some 41), (.mv (.t 0)), none⟩, ⟨(some 42), (.idxS (.t 41) (.c (.int .i64 0))), none⟩]) (.block 1 (.seq (.seq (.reg [⟨(some 44), (.bin .eql .u8 (.t 42) (.c (.int .u8 32))), none⟩, ⟨(some 43), (.mv (.t 44)), none⟩]) (.cond (.t 43) .skip (.seq (.reg [⟨(some 45), (.bin .eql .u8 (.t 42) (.c (.int .u8 45))), none⟩, ⟨(some 43), (.mv (.t 45)), none⟩]) (.cond (.t 43) .skip (.seq (.reg [⟨(some 46), (.bin .eql .u8 (.t 42) (.c (.int .u8 48))), none⟩, ⟨(some 43), (.mv (.t 46)), none⟩]) (.cond (.t 43) .skip (.seq (.reg [⟨(some 47), (.bin .eql .u8 (.t 42) (.c (.int .u8 61))), none⟩, ⟨(some 43), (.mv (.t 47)), none⟩]) (.cond (.t 43) .skip (.reg [⟨(some 48), (.bin .eql .u8 (.t 42) (.c (.int .u8 9))), none⟩, ⟨(some 43), (.mv (.t 48)), none⟩]))))))))) (.cond (.t 43) (.block 2 (.seq (.reg [⟨(some 50), (.mv (.t 7)), none⟩, ⟨(some 51), (.bin .leq .i64 (.t 50) (.c (.int .i64 128))), none⟩, ⟨(some 52), (.mv (.t 51)), none⟩, ⟨(some 53), (.mv (.t 0)), (some (52, true))⟩, ⟨(some 54), (.call 88 [(.c (.str sSp)), (.t 53)]), (some (52, true))⟩, ⟨(some 55), (.pick (.t 52) (.t 54) (.c (.bool false))), none⟩, ⟨(some 49), (.mv (.t 55)), none⟩]) (.cond (.t 49) (.seq (.reg [⟨(some 56), (.mv (.t 7)), none⟩, ⟨(some 57), (.sslice (.c (.str sSp)) none (some (.t 56))), none⟩, ⟨(some 4), (.mv (.t 57)), none⟩]) .ret) (.seq (.reg [⟨(some 59), (.mv (.t 7)), none⟩, ⟨(some 60), (.bin .leq .i64 (.t 59) (.c (.int .i64 128))), none⟩, ⟨(some 61), (.mv (.t 60)), none⟩, ⟨(some 62), (.mv (.t 0)), (some (61, true))⟩, ⟨(some 63), (.call 88 [(.c (.str sDa)), (.t 62)]), (some (61, true))⟩, ⟨(some 64), (.pick (.t 61) (.t 63) (.c (.bool false))), none⟩, ⟨(some 58), (.mv (.t 64)), none⟩]) (.cond (.t 58) (.seq (.reg [⟨(some 65), (.mv (.t 7)), none⟩, ⟨(some 66), (.sslice (.c (.str sDa)) none (some (.t 65))), none⟩, ⟨(some 4), (.mv (.t 66)), none⟩]) .ret) (.seq (.reg [⟨(some 68), (.mv (.t 7)), none⟩, ⟨(some 69), (.bin .leq .i64 (.t 68) (.c (.int .i64 64))), none⟩, ⟨(some 70), (.mv (.t 69)), none⟩, ⟨(some 71), (.mv (.t 0)), (some (70, true))⟩, ⟨(some 72), (.call 88 [(.c (.str sZe)), (.t 71)]), (some (70, true))⟩, ⟨(some 73), (.pick (.t 70) (.t 72) (.c (.bool false))), none⟩, ⟨(some 67), (.mv (.t 73)), none⟩]) (.cond (.t 67) (.seq (.reg [⟨(some 74), (.mv (.t 7)), none⟩, ⟨(some 75), (.sslice (.c (.str sZe)) none (some (.t 74))), none⟩, ⟨(some 4), (.mv (.t 75)), none⟩]) .ret) (.seq (.reg [⟨(some 77), (.mv (.t 7)), none⟩, ⟨(some 78), (.bin .leq .i64 (.t 77) (.c (.int .i64 128))), none⟩, ⟨(some 79), (.mv (.t 78)), none⟩, ⟨(some 80), (.mv (.t 0)), (some (79, true))⟩, ⟨(some 81), (.call 88 [(.c (.str sEq)), (.t 80)]), (some (79, true))⟩, ⟨(some 82), (.pick (.t 79) (.t 81) (.c (.bool false))), none⟩, ⟨(some 76), (.mv (.t 82)), none⟩]) (.cond (.t 76) (.seq (.reg [⟨(some 83), (.mv (.t 7)), none⟩, ⟨(some 84), (.sslice (.c (.str sEq)) none (some (.t 83))), none⟩, ⟨(some 4), (.mv (.t 84)), none⟩]) .ret) (.seq (.reg [⟨(some 86), (.mv (.t 7)), none⟩, ⟨(some 87), (.bin .leq .i64 (.t 86) (.c (.int .i64 64))), none⟩, ⟨(some 88), (.mv (.t 87)), none⟩, ⟨(some 89), (.mv (.t 0)), (some (88, true))⟩, ⟨(some 90), (.call 88 [(.c (.str sTa)), (.t 89)]), (some (88, true))⟩, ⟨(some 91), (.pick (.t 88) (.t 90) (.c (.bool false))), none⟩, ⟨(some 85), (.mv (.t 91)), none⟩]) (.cond (.t 85) (.seq (.reg [⟨(some 92), (.mv (.t 7)), none⟩, ⟨(some 93), (.sslice (.c (.str sTa)) none (some (.t 92))), none⟩, ⟨(some 4), (.mv (.t 93)), none⟩]) .ret) .skip))))))))))) .skip)))) (.seq (.reg [⟨(some 94), (.mv (.t 7)), none⟩, ⟨(some 8), (.mv (.t 94)), none⟩]) (.seq (.seq (.reg [⟨(some 95), (.mv (.t 7)), none⟩, ⟨(some 96), (.bin .gtr .i64 (.t 95) (.c (.int .i64 8192))), none⟩]) (.cond (.t 96) (.seq (.reg [⟨(some 97), (.mv (.t 0)), none⟩, ⟨(some 98), (.slen (.t 97)), none⟩, ⟨(some 99), (.bin .quo .i64 (.c (.int .i64 8192)) (.t 98)), none⟩, ⟨(some 100), (.mv (.t 0)), none⟩, ⟨(some 101), (.slen (.t 100)), none⟩, ⟨(some 102), (.bin .mul .i64 (.t 99) (.t 101)), none⟩, ⟨(some 8), (.mv (.t 102)), none⟩]) (.seq (.reg [⟨(some 103), (.mv (.t 8)), none⟩, ⟨(some 104), (.bin .eql .i64 (.t 103) (.c (.int .i64 0))), none⟩]) (.cond (.t 104) (.reg [⟨(some 105), (.mv (.t 0)), none⟩, ⟨(some 106), (.slen (.t 105)), none⟩, ⟨(some 8), (.mv (.t 106)), none⟩]) .skip))) .skip)) (.seq (.reg [⟨(some 9), (.alloc [.nilp, (.sl [] .nil)]), none⟩]) (.seq (.reg [⟨(some 107), (.mv (.t 7)), none⟩, ⟨(some 108), (.call 89 [(.t 9), (.t 107)]), none⟩]) (.seq (.reg [⟨(some 109), (.mv (.t 0)), none⟩, ⟨(some 110), (.call 90 [(.t 9), (.t 109)]), none⟩]) (.seq (.block 3 (.loop (.seq (.seq (.reg [⟨(some 111), (.call 91 [(.t 9)]), none⟩, ⟨(some 112), (.mv (.t 7)), none⟩, ⟨(some 113), (.bin .lss .i64 (.t 111) (.t 112)), none⟩]) (.cond (.t 113) .skip (.exit 3))) (.block 4 (.seq (.reg [⟨(some 114), (.mv (.t 7)), none⟩, ⟨(some 115), (.call 91 [(.t 9)]), none⟩, ⟨(some 116), (.bin .sub .i64 (.t 114) (.t 115)), none⟩, ⟨(some 117), (.call 91 [(.t 9)]), none⟩, ⟨(some 118), (.mv (.t 8)), none⟩, ⟨(some 119), (.mn [(.t 116), (.t 117), (.t 118)]), none⟩, ⟨(some 10), (.mv (.t 119)), none⟩]) (.reg [⟨(some 120), (.call 92 [(.t 9)]), none⟩, ⟨(some 121), (.mv (.t 10)), none⟩, ⟨(some 122), (.sslice (.t 120) none (some (.t 121))), none⟩, ⟨(some 123), (.call 90 [(.t 9), (.t 122)]), none⟩])))))) (.seq (.reg [⟨(some 124), (.call 92 [(.t 9)]), none⟩, ⟨(some 4), (.mv (.t 124)), none⟩]) .ret)))))))))))))))

set_option maxRecDepth 100000 in
theorem k_srep : compileC Tryd.prog ann (Tryd.f64.body.getD .skip) = some c_srep := by kernel_rfl

theorem s_srep {args : List AV} {σ : St} {K : AV → St → Prop} (h : WF σ → T Tryd.prog ann c_srep (Fin σ [(.t 4)] K) (args ++ List.replicate (125 - args.length) (.tup [])) σ) : ACalls Tryd.prog n_srep args σ K :=
  calls_ok Tryd.func64 (by kernel_rfl) (by kernel_rfl) k_srep (by kernel_rfl) (by kernel_rfl) h

abbrev n_bmul : Nat := 87

def c_bmul : C := (.seq (.reg [⟨(some 4), (.mv (.c (.int .u64 0))), none⟩, ⟨(some 5), (.mv (.c (.int .u64 0))), none⟩]) (.seq (.cond (.c (.bool false)) (.seq (.reg [⟨(some 11), (.mv (.t 0)), none⟩, ⟨(some 12), (.conv .u32 (.t 11)), none⟩, ⟨(some 13), (.mv (.t 1)), none⟩, ⟨(some 14), (.conv .u32 (.t 13)), none⟩, ⟨(some 15), (.call 107 [(.t 12), (.t 14)]), none⟩, ⟨(some 10), (.mv (.t 15)), none⟩, ⟨(some 16), (.ext (.t 10) 0), none⟩, ⟨(some 17), (.ext (.t 10) 1), none⟩, ⟨(some 6), (.mv (.t 16)), none⟩, ⟨(some 7), (.mv (.t 17)), none⟩]) (.seq (.reg [⟨(some 18), (.mv (.t 6)), none⟩, ⟨(some 19), (.conv .u64 (.t 18)), none⟩, ⟨(some 20), (.mv (.t 7)), none⟩, ⟨(some 21), (.conv .u64 (.t 20)), none⟩, ⟨(some 4), (.mv (.t 19)), none⟩, ⟨(some 5), (.mv (.t 21)), none⟩]) .ret)) .skip) (.seq (.reg [⟨(some 23), (.mv (.t 0)), none⟩, ⟨(some 24), (.mv (.t 1)), none⟩, ⟨(some 25), (.call 108 [(.t 23), (.t 24)]), none⟩, ⟨(some 22), (.mv (.t 25)), none⟩, ⟨(some 26), (.ext (.t 22) 0), none⟩, ⟨(some 27), (.ext (.t 22) 1), none⟩, ⟨(some 8), (.mv (.t 26)), none⟩, ⟨(some 9), (.mv (.t 27)), none⟩]) (.seq (.reg [⟨(some 28), (.mv (.t 8)), none⟩, ⟨(some 29), (.mv (.t 9)), none⟩, ⟨(some 4), (.mv (.t 28)), none⟩, ⟨(some 5), (.mv (.t 29)), none⟩]) .ret))))

set_option maxRecDepth 100000 in
theorem k_bmul : compileC Tryd.prog ann (Tryd.f87.body.getD .skip) = some c_bmul := by kernel_rfl

theorem s_bmul {args : List AV} {σ : St} {K : AV → St → Prop} (h : WF σ → T Tryd.prog ann c_bmul (Fin σ [(.t 4), (.t 5)] K) (args ++ List.replicate (30 - args.length) (.tup [])) σ) : ACalls Tryd.prog n_bmul args σ K :=
  calls_ok Tryd.func87 (by kernel_rfl) (by kernel_rfl) k_bmul (by kernel_rfl) (by kernel_rfl) h

abbrev n_bmul64 : Nat := 108

def c_bmul64 : C := (.seq (.reg [⟨(some 4), (.mv (.c (.int .u64 0))), none⟩, ⟨(some 5), (.mv (.c (.int .u64 0))), none⟩]) (.seq (.reg [⟨(some 14), (.mv (.t 0)), none⟩, ⟨(some 15), (.bin .and .u64 (.t 14) (.c (.int .u64 4294967295))), none⟩, ⟨(some 6), (.mv (.t 15)), none⟩]) (.seq (.reg [⟨(some 16), (.mv (.t 0)), none⟩, ⟨(some 17), (.bin .shr .u64 (.t 16) (.c (.int .u64 32))), none⟩, ⟨(some 7), (.mv (.t 17)), none⟩]) (.seq (.reg [⟨(some 18), (.mv (.t 1)), none⟩, ⟨(some 19), (.bin .and .u64 (.t 18) (.c (.int .u64 4294967295))), none⟩, ⟨(some 8), (.mv (.t 19)), none⟩]) (.seq (.reg [⟨(some 20), (.mv (.t 1)), none⟩, ⟨(some 21), (.bin .shr .u64 (.t 20) (.c (.int .u64 32))), none⟩, ⟨(some 9), (.mv (.t 21)), none⟩]) (.seq (.reg [⟨(some 22), (.mv (.t 6)), none⟩, ⟨(some 23), (.mv (.t 8)), none⟩, ⟨(some 24), (.bin .mul .u64 (.t 22) (.t 23)), none⟩, ⟨(some 10), (.mv (.t 24)), none⟩]) (.seq (.reg [⟨(some 25), (.mv (.t 7)), none⟩, ⟨(some 26), (.mv (.t 8)), none⟩, ⟨(some 27), (.bin .mul .u64 (.t 25) (.t 26)), none⟩, ⟨(some 28), (.mv (.t 10)), none⟩, ⟨(some 29), (.bin .shr .u64 (.t 28) (.c (.int .u64 32))), none⟩, ⟨(some 30), (.bin .add .u64 (.t 27) (.t 29)), none⟩, ⟨(some 11), (.mv (.t 30)), none⟩]) (.seq (.reg [⟨(some 31), (.mv (.t 11)), none⟩, ⟨(some 32), (.bin .and .u64 (.t 31) (.c (.int .u64 4294967295))), none⟩, ⟨(some 12), (.mv (.t 32)), none⟩]) (.seq (.reg [⟨(some 33), (.mv (.t 11)), none⟩, ⟨(some 34), (.bin .shr .u64 (.t 33) (.c (.int .u64 32))), none⟩, ⟨(some 13), (.mv (.t 34)), none⟩]) (.seq (.reg [⟨(some 35), (.mv (.t 12)), none⟩, ⟨(some 36), (.mv (.t 6)), none⟩, ⟨(some 37), (.mv (.t 9)), none⟩, ⟨(some 38), (.bin .mul .u64 (.t 36) (.t 37)), none⟩, ⟨(some 39), (.bin .add .u64 (.t 35) (.t 38)), none⟩, ⟨(some 12), (.mv (.t 39)), none⟩]) (.seq (.reg [⟨(some 40), (.mv (.t 7)), none⟩, ⟨(some 41), (.mv (.t 9)), none⟩, ⟨(some 42), (.bin .mul .u64 (.t 40) (.t 41)), none⟩, ⟨(some 43), (.mv (.t 13)), none⟩, ⟨(some 44), (.bin .add .u64 (.t 42) (.t 43)), none⟩, ⟨(some 45), (.mv (.t 12)), none⟩, ⟨(some 46), (.bin .shr .u64 (.t 45) (.c (.int .u64 32))), none⟩, ⟨(some 47), (.bin .add .u64 (.t 44) (.t 46)), none⟩, ⟨(some 4), (.mv (.t 47)), none⟩]) (.seq (.reg [⟨(some 48), (.mv (.t 0)), none⟩, ⟨(some 49), (.mv (.t 1)), none⟩, ⟨(some 50), (.bin .mul .u64 (.t 48) (.t 49)), none⟩, ⟨(some 5), (.mv (.t 50)), none⟩]) .ret))))))))))))

set_option maxRecDepth 100000 in
theorem k_bmul64 : compileC Tryd.prog ann (Tryd.f108.body.getD .skip) = some c_bmul64 := by kernel_rfl

theorem s_bmul64 {args : List AV} {σ : St} {K : AV → St → Prop} (h : WF σ → T Tryd.prog ann c_bmul64 (Fin σ [(.t 4), (.t 5)] K) (args ++ List.replicate (51 - args.length) (.tup [])) σ) : ACalls Tryd.prog n_bmul64 args σ K :=
  calls_ok Tryd.func108 (by kernel_rfl) (by kernel_rfl) k_bmul64 (by kernel_rfl) (by kernel_rfl) h

abbrev n_hasPre : Nat := 88

def c_hasPre : C := (.seq (.reg [⟨(some 4), (.mv (.c (.bool false))), none⟩]) (.seq (.reg [⟨(some 5), (.mv (.t 0)), none⟩, ⟨(some 6), (.mv (.t 1)), none⟩, ⟨(some 7), (.call 109 [(.t 5), (.t 6)]), none⟩, ⟨(some 4), (.mv (.t 7)), none⟩]) .ret))

set_option maxRecDepth 100000 in
theorem k_hasPre : compileC Tryd.prog ann (Tryd.f88.body.getD .skip) = some c_hasPre := by kernel_rfl

theorem s_hasPre {args : List AV} {σ : St} {K : AV → St → Prop} (h : WF σ → T Tryd.prog ann c_hasPre (Fin σ [(.t 4)] K) (args ++ List.replicate (8 - args.length) (.tup [])) σ) : ACalls Tryd.prog n_hasPre args σ K :=
  calls_ok Tryd.func88 (by kernel_rfl) (by kernel_rfl) k_hasPre (by kernel_rfl) (by kernel_rfl) h

abbrev n_scont : Nat := 46

def c_scont : C := (.seq (.reg [⟨(some 4), (.mv (.c (.bool false))), none⟩]) (.seq (.reg [⟨(some 5), (.mv (.t 0)), none⟩, ⟨(some 6), (.mv (.t 1)), none⟩, ⟨(some 7), (.call 65 [(.t 5), (.t 6)]), none⟩, ⟨(some 8), (.bin .geq .i64 (.t 7) (.c (.int .i64 0))), none⟩, ⟨(some 4), (.mv (.t 8)), none⟩]) .ret))

set_option maxRecDepth 100000 in
theorem k_scont : compileC Tryd.prog ann (Tryd.f46.body.getD .skip) = some c_scont := by kernel_rfl

theorem s_scont {args : List AV} {σ : St} {K : AV → St → Prop} (h : WF σ → T Tryd.prog ann c_scont (Fin σ [(.t 4)] K) (args ++ List.replicate (9 - args.length) (.tup [])) σ) : ACalls Tryd.prog n_scont args σ K :=
  calls_ok Tryd.func46 (by kernel_rfl) (by kernel_rfl) k_scont (by kernel_rfl) (by kernel_rfl) h

abbrev n_sindex : Nat := 65

def c_sindex : C := (.seq (.reg [⟨(some 4), (.mv (.c (.int .i64 0))), none⟩]) (.seq (.reg [⟨(some 5), (.mv (.t 0)), none⟩, ⟨(some 6), (.mv (.t 1)), none⟩, ⟨(some 7), (.call 93 [(.t 5), (.t 6)]), none⟩, ⟨(some 4), (.mv (.t 7)), none⟩]) .ret))

set_option maxRecDepth 100000 in
theorem k_sindex : compileC Tryd.prog ann (Tryd.f65.body.getD .skip) = some c_sindex := by kernel_rfl

theorem s_sindex {args : List AV} {σ : St} {K : AV → St → Prop} (h : WF σ → T Tryd.prog ann c_sindex (Fin σ [(.t 4)] K) (args ++ List.replicate (8 - args.length) (.tup [])) σ) : ACalls Tryd.prog n_sindex args σ K :=
  calls_ok Tryd.func65 (by kernel_rfl) (by kernel_rfl) k_sindex (by kernel_rfl) (by kernel_rfl) h

abbrev n_rName : Nat := 23

def c_rName : C := (.seq (.reg [⟨(some 6), (.mv (.c (.str ⟨#[]⟩))), none⟩]) (.seq (.reg [⟨(some 8), (.mv (.t 0)), none⟩, ⟨(some 9), (.call 47 [(.t 8), (.c (.int .u64 16)), (.c (.int .i64 16))]), none⟩, ⟨(some 10), (.sbin .add (.c (.str ⟨#[98, 47]⟩)) (.t 9)), none⟩, ⟨(some 11), (.sbin .add (.t 10) (.c (.str ⟨#[47]⟩))), none⟩, ⟨(some 7), (.mv (.t 11)), none⟩]) (.seq (.seq (.reg [⟨(some 12), (.mv (.t 1)), none⟩, ⟨(some 13), (.sbin .eql (.t 12) (.c (.str ⟨#[112]⟩))), none⟩]) (.cond (.t 13) (.seq (.seq (.reg [⟨(some 14), (.mv (.t 2)), none⟩, ⟨(some 15), (.bin .lss .i64 (.t 14) (.c (.int .i64 0))), none⟩]) (.cond (.t 15) (.reg [⟨(some 2), (.mv (.c (.int .i64 0))), none⟩]) .skip)) (.seq (.reg [⟨(some 16), (.mv (.t 7)), none⟩, ⟨(some 17), (.sbin .add (.t 16) (.c (.str ⟨#[112]⟩))), none⟩, ⟨(some 18), (.mv (.t 2)), none⟩, ⟨(some 19), (.bin .rem .i64 (.t 18) (.c (.int .i64 1000))), none⟩, ⟨(some 20), (.conv .u64 (.t 19)), none⟩, ⟨(some 21), (.call 47 [(.t 20), (.c (.int .u64 10)), (.c (.int .i64 3))]), none⟩, ⟨(some 22), (.sbin .add (.t 17) (.t 21)), none⟩, ⟨(some 6), (.mv (.t 22)), none⟩]) .ret)) .skip)) (.seq (.seq (.reg [⟨(some 23), (.mv (.t 1)), none⟩, ⟨(some 24), (.sbin .eql (.t 23) (.c (.str ⟨#[109]⟩))), none⟩, ⟨(some 25), (.mv (.t 24)), none⟩, ⟨(some 26), (.mv (.t 1)), (some (25, false))⟩, ⟨(some 27), (.sbin .eql (.t 26) (.c (.str ⟨#[105]⟩))), (some (25, false))⟩, ⟨(some 28), (.pick (.t 25) (.c (.bool true)) (.t 27)), none⟩, ⟨(some 29), (.mv (.t 28)), none⟩, ⟨(some 30), (.mv (.t 1)), (some (29, false))⟩, ⟨(some 31), (.sbin .eql (.t 30) (.c (.str ⟨#[102]⟩))), (some (29, false))⟩, ⟨(some 32), (.pick (.t 29) (.c (.bool true)) (.t 31)), none⟩, ⟨(some 33), (.mv (.t 32)), none⟩, ⟨(some 34), (.mv (.t 1)), (some (33, false))⟩, ⟨(some 35), (.sbin .eql (.t 34) (.c (.str ⟨#[120]⟩))), (some (33, false))⟩, ⟨(some 36), (.pick (.t 33) (.c (.bool true)) (.t 35)), none⟩]) (.cond (.t 36) (.seq (.reg [⟨(some 37), (.mv (.t 7)), none⟩, ⟨(some 38), (.mv (.t 1)), none⟩, ⟨(some 39), (.sbin .add (.t 37) (.t 38)), none⟩, ⟨(some 6), (.mv (.t 39)), none⟩]) .ret) .skip)) (.seq (.reg [⟨(some 6), (.mv (.c (.str ⟨#[]⟩))), none⟩]) .ret)))))

set_option maxRecDepth 100000 in
theorem k_rName : compileC Tryd.prog ann (Tryd.f23.body.getD .skip) = some c_rName := by kernel_rfl

theorem s_rName {args : List AV} {σ : St} {K : AV → St → Prop} (h : WF σ → T Tryd.prog ann c_rName (Fin σ [(.t 6)] K) (args ++ List.replicate (40 - args.length) (.tup [])) σ) : ACalls Tryd.prog n_rName args σ K :=
  calls_ok Tryd.func23 (by kernel_rfl) (by kernel_rfl) k_rName (by kernel_rfl) (by kernel_rfl) h

abbrev n_rDig : Nat := 47

def c_rDig : C := (.seq (.reg [⟨(some 6), (.mv (.c (.str ⟨#[]⟩))), none⟩]) (.seq (.seq (.reg [⟨(some 9), (.mv (.t 2)), none⟩, ⟨(some 10), (.bin .eql .i64 (.t 9) (.c (.int .i64 0))), none⟩]) (.cond (.t 10) (.seq (.reg [⟨(some 6), (.mv (.c (.str ⟨#[]⟩))), none⟩]) .ret) .skip)) (.seq (.reg [⟨(some 7), (.mv (.c (.str sDig16))), none⟩]) (.seq (.reg [⟨(some 11), (.mv (.t 0)), none⟩, ⟨(some 12), (.mv (.t 1)), none⟩, ⟨(some 13), (.bin .rem .u64 (.t 11) (.t 12)), none⟩, ⟨(some 8), (.mv (.t 13)), none⟩]) (.seq (.reg [⟨(some 14), (.mv (.t 0)), none⟩, ⟨(some 15), (.mv (.t 1)), none⟩, ⟨(some 16), (.bin .quo .u64 (.t 14) (.t 15)), none⟩, ⟨(some 17), (.mv (.t 1)), none⟩, ⟨(some 18), (.mv (.t 2)), none⟩, ⟨(some 19), (.bin .sub .i64 (.t 18) (.c (.int .i64 1))), none⟩, ⟨(some 20), (.qcall 47 [(.t 16), (.t 17), (.t 19)]), none⟩, ⟨(some 21), (.mv (.t 7)), none⟩, ⟨(some 22), (.mv (.t 8)), none⟩, ⟨(some 23), (.mv (.t 8)), none⟩, ⟨(some 24), (.bin .add .u64 (.t 23) (.c (.int .u64 1))), none⟩, ⟨(some 25), (.sslice (.t 21) (some (.t 22)) (some (.t 24))), none⟩, ⟨(some 26), (.sbin .add (.t 20) (.t 25)), none⟩, ⟨(some 6), (.mv (.t 26)), none⟩]) .ret)))))

set_option maxRecDepth 100000 in
theorem k_rDig : compileC Tryd.prog ann (Tryd.f47.body.getD .skip) = some c_rDig := by kernel_rfl

theorem s_rDig {args : List AV} {σ : St} {K : AV → St → Prop} (h : WF σ → T Tryd.prog ann c_rDig (Fin σ [(.t 6)] K) (args ++ List.replicate (27 - args.length) (.tup [])) σ) : ACalls Tryd.prog n_rDig args σ K :=
  calls_ok Tryd.func47 (by kernel_rfl) (by kernel_rfl) k_rDig (by kernel_rfl) (by kernel_rfl) h

abbrev n_mMay : Nat := 27

def c_mMay : C := (.seq (.reg [⟨(some 1), (.box (.t 0)), none⟩, ⟨(some 2), (.mv (.c (.bool false))), none⟩]) (.seq (.reg [⟨(some 3), (.faddr 0 (.t 1)), none⟩, ⟨(some 4), (.load none (.t 3)), none⟩, ⟨(some 5), (.bin .geq .u64 (.t 4) (.c (.int .u64 1))), none⟩, ⟨(some 6), (.mv (.t 5)), none⟩, ⟨(some 7), (.faddr 1 (.t 1)), (some (6, true))⟩, ⟨(some 8), (.load none (.t 7)), (some (6, true))⟩, ⟨(some 9), (.bin .geq .i64 (.t 8) (.c (.int .i64 0))), (some (6, true))⟩, ⟨(some 10), (.pick (.t 6) (.t 9) (.c (.bool false))), none⟩, ⟨(some 11), (.mv (.t 10)), none⟩, ⟨(some 12), (.faddr 1 (.t 1)), (some (11, true))⟩, ⟨(some 13), (.load none (.t 12)), (some (11, true))⟩, ⟨(some 14), (.bin .leq .i64 (.t 13) (.c (.int .i64 10))), (some (11, true))⟩, ⟨(some 15), (.pick (.t 11) (.t 14) (.c (.bool false))), none⟩, ⟨(some 16), (.mv (.t 15)), none⟩, ⟨(some 17), (.faddr 2 (.t 1)), (some (16, true))⟩, ⟨(some 18), (.load none (.t 17)), (some (16, true))⟩, ⟨(some 19), (.bin .geq .i64 (.t 18) (.c (.int .i64 0))), (some (16, true))⟩, ⟨(some 20), (.pick (.t 16) (.t 19) (.c (.bool false))), none⟩, ⟨(some 21), (.mv (.t 20)), none⟩, ⟨(some 22), (.faddr 2 (.t 1)), (some (21, true))⟩, ⟨(some 23), (.load none (.t 22)), (some (21, true))⟩, ⟨(some 24), (.faddr 3 (.t 1)), (some (21, true))⟩, ⟨(some 25), (.load none (.t 24)), (some (21, true))⟩, ⟨(some 26), (.bin .leq .i64 (.t 23) (.t 25)), (some (21, true))⟩, ⟨(some 27), (.pick (.t 21) (.t 26) (.c (.bool false))), none⟩, ⟨(some 28), (.mv (.t 27)), none⟩, ⟨(some 29), (.faddr 3 (.t 1)), (some (28, true))⟩, ⟨(some 30), (.load none (.t 29)), (some (28, true))⟩, ⟨(some 31), (.bin .leq .i64 (.t 30) (.c (.int .i64 1099511627776))), (some (28, true))⟩, ⟨(some 32), (.pick (.t 28) (.t 31) (.c (.bool false))), none⟩, ⟨(some 33), (.mv (.t 32)), none⟩, ⟨(some 34), (.faddr 4 (.t 1)), (some (33, true))⟩, ⟨(some 35), (.load none (.t 34)), (some (33, true))⟩, ⟨(some 36), (.bin .geq .i64 (.t 35) (.c (.int .i64 1))), (some (33, true))⟩, ⟨(some 37), (.pick (.t 33) (.t 36) (.c (.bool false))), none⟩, ⟨(some 38), (.mv (.t 37)), none⟩, ⟨(some 39), (.faddr 4 (.t 1)), (some (38, true))⟩, ⟨(some 40), (.load none (.t 39)), (some (38, true))⟩, ⟨(some 41), (.bin .leq .i64 (.t 40) (.c (.int .i64 200))), (some (38, true))⟩, ⟨(some 42), (.pick (.t 38) (.t 41) (.c (.bool false))), none⟩, ⟨(some 43), (.mv (.t 42)), none⟩, ⟨(some 44), (.faddr 5 (.t 1)), (some (43, true))⟩, ⟨(some 45), (.load none (.t 44)), (some (43, true))⟩, ⟨(some 46), (.faddr 4 (.t 1)), (some (43, true))⟩, ⟨(some 47), (.load none (.t 46)), (some (43, true))⟩, ⟨(some 48), (.bin .geq .i64 (.t 45) (.t 47)), (some (43, true))⟩, ⟨(some 49), (.pick (.t 43) (.t 48) (.c (.bool false))), none⟩, ⟨(some 50), (.mv (.t 49)), none⟩, ⟨(some 51), (.faddr 5 (.t 1)), (some (50, true))⟩, ⟨(some 52), (.load none (.t 51)), (some (50, true))⟩, ⟨(some 53), (.faddr 4 (.t 1)), (some (50, true))⟩, ⟨(some 54), (.load none (.t 53)), (some (50, true))⟩, ⟨(some 55), (.bin .mul .i64 (.t 54) (.c (.int .i64 64))), (some (50, true))⟩, ⟨(some 56), (.bin .leq .i64 (.t 52) (.t 55)), (some (50, true))⟩, ⟨(some 57), (.pick (.t 50) (.t 56) (.c (.bool false))), none⟩, ⟨(some 2), (.mv (.t 57)), none⟩]) .ret))

set_option maxRecDepth 100000 in
theorem k_mMay : compileC Tryd.prog ann (Tryd.f27.body.getD .skip) = some c_mMay := by kernel_rfl

theorem s_mMay {args : List AV} {σ : St} {K : AV → St → Prop} (h : WF σ → T Tryd.prog ann c_mMay (Fin σ [(.t 2)] K) (args ++ List.replicate (58 - args.length) (.tup [])) σ) : ACalls Tryd.prog n_mMay args σ K :=
  calls_ok Tryd.func27 (by kernel_rfl) (by kernel_rfl) k_mMay (by kernel_rfl) (by kernel_rfl) h

abbrev n_mFair : Nat := 28

def c_mFair : C := (.seq (.reg [⟨(some 1), (.box (.t 0)), none⟩, ⟨(some 2), (.mv (.c (.bool false))), none⟩]) (.seq (.reg [⟨(some 3), (.faddr 0 (.t 1)), none⟩, ⟨(some 4), (.load none (.t 3)), none⟩, ⟨(some 5), (.bin .geq .u64 (.t 4) (.c (.int .u64 1))), none⟩, ⟨(some 6), (.mv (.t 5)), none⟩, ⟨(some 7), (.faddr 1 (.t 1)), (some (6, true))⟩, ⟨(some 8), (.load none (.t 7)), (some (6, true))⟩, ⟨(some 9), (.bin .geq .i64 (.t 8) (.c (.int .i64 0))), (some (6, true))⟩, ⟨(some 10), (.pick (.t 6) (.t 9) (.c (.bool false))), none⟩, ⟨(some 11), (.mv (.t 10)), none⟩, ⟨(some 12), (.faddr 1 (.t 1)), (some (11, true))⟩, ⟨(some 13), (.load none (.t 12)), (some (11, true))⟩, ⟨(some 14), (.bin .leq .i64 (.t 13) (.c (.int .i64 1099511627776))), (some (11, true))⟩, ⟨(some 15), (.pick (.t 11) (.t 14) (.c (.bool false))), none⟩, ⟨(some 16), (.mv (.t 15)), none⟩, ⟨(some 17), (.faddr 2 (.t 1)), (some (16, true))⟩, ⟨(some 18), (.load none (.t 17)), (some (16, true))⟩, ⟨(some 19), (.faddr 0 (.t 1)), (some (16, true))⟩, ⟨(some 20), (.load none (.t 19)), (some (16, true))⟩, ⟨(some 21), (.bin .neq .u64 (.t 18) (.t 20)), (some (16, true))⟩, ⟨(some 22), (.pick (.t 16) (.t 21) (.c (.bool false))), none⟩, ⟨(some 2), (.mv (.t 22)), none⟩]) .ret))

set_option maxRecDepth 100000 in
theorem k_mFair : compileC Tryd.prog ann (Tryd.f28.body.getD .skip) = some c_mFair := by kernel_rfl

theorem s_mFair {args : List AV} {σ : St} {K : AV → St → Prop} (h : WF σ → T Tryd.prog ann c_mFair (Fin σ [(.t 2)] K) (args ++ List.replicate (23 - args.length) (.tup [])) σ) : ACalls Tryd.prog n_mFair args σ K :=
  calls_ok Tryd.func28 (by kernel_rfl) (by kernel_rfl) k_mFair (by kernel_rfl) (by kernel_rfl) h

abbrev n_mput : Nat := 48

def c_mput : C := (.seq (.reg [⟨(some 2), (.mv (.c (.sl [] .nil))), none⟩, ⟨(some 3), (.mv (.c .nili)), none⟩]) (.seq (.reg [⟨(some 4), (.mv (.c (.sl [] .nil))), none⟩]) (.seq (.seq (.reg [⟨(some 9), (.mv (.t 0)), none⟩, ⟨(some 10), (.len (.t 9)), none⟩, ⟨(some 11), (.mv (.c (.int .i64 0))), none⟩]) (.block 0 (.loop (.seq (.reg [⟨(some 12), (.bin .lss .i64 (.t 11) (.t 10)), none⟩]) (.seq (.cond (.t 12) .skip (.exit 0)) (.seq (.block 1 (.seq (.reg [⟨(some 13), (.iaddr 2 (.t 9) (.t 11)), none⟩, ⟨(some 14), (.load (some 2) (.t 13)), none⟩, ⟨(some 6), (.alloc [(.int .i64 0), (.int .u64 0)]), none⟩, ⟨none, (.store 2 (.t 6) (.t 14)), none⟩]) (.seq (.reg [⟨(some 16), (.mv (.t 4)), none⟩, ⟨(some 17), (.faddr 0 (.t 6)), none⟩, ⟨(some 18), (.load none (.t 17)), none⟩, ⟨(some 19), (.faddr 1 (.t 6)), none⟩, ⟨(some 20), (.load none (.t 19)), none⟩, ⟨(some 21), (.call 66 [(.t 16), (.t 18), (.t 20)]), none⟩, ⟨(some 15), (.mv (.t 21)), none⟩, ⟨(some 22), (.ext (.t 15) 0), none⟩, ⟨(some 23), (.ext (.t 15) 1), none⟩, ⟨(some 7), (.mv (.t 22)), none⟩, ⟨(some 8), (.mv (.t 23)), none⟩]) (.seq (.seq (.reg [⟨(some 24), (.mv (.t 8)), none⟩, ⟨(some 25), (.eqI true true [(40, .i64)] (.t 24) (.c .nili)), none⟩]) (.cond (.t 25) (.seq (.reg [⟨(some 26), (.mv (.t 8)), none⟩, ⟨(some 2), (.mv (.c (.sl [] .nil))), none⟩, ⟨(some 3), (.mv (.t 26)), none⟩]) .ret) .skip)) (.reg [⟨(some 27), (.mv (.t 7)), none⟩, ⟨(some 4), (.mv (.t 27)), none⟩]))))) (.reg [⟨(some 28), (.bin .add .i64 (.t 11) (.c (.int .i64 1))), none⟩, ⟨(some 11), (.mv (.t 28)), none⟩]))))))) (.seq (.reg [⟨(some 29), (.mv (.t 4)), none⟩, ⟨(some 30), (.call 67 [(.t 29)]), none⟩, ⟨(some 2), (.mv (.t 30)), none⟩, ⟨(some 3), (.mv (.c .nili)), none⟩]) .ret))))

set_option maxRecDepth 100000 in
theorem k_mput : compileC Tryd.prog ann (Tryd.f48.body.getD .skip) = some c_mput := by kernel_rfl

theorem s_mput {args : List AV} {σ : St} {K : AV → St → Prop} (h : WF σ → T Tryd.prog ann c_mput (Fin σ [(.t 2), (.t 3)] K) (args ++ List.replicate (31 - args.length) (.tup [])) σ) : ACalls Tryd.prog n_mput args σ K :=
  calls_ok Tryd.func48 (by kernel_rfl) (by kernel_rfl) k_mput (by kernel_rfl) (by kernel_rfl) h

abbrev n_mMark : Nat := 25

def c_mMark : C := (.seq (.reg [⟨(some 1), (.box (.t 0)), none⟩, ⟨(some 2), (.mv (.c (.sl [] .nil))), none⟩, ⟨(some 3), (.mv (.c .nili)), none⟩]) (.seq (.seq (.reg [⟨(some 4), (.load (some 3) (.t 1)), none⟩, ⟨(some 5), (.call 28 [(.t 4)]), none⟩, ⟨(some 6), (.not (.t 5)), none⟩]) (.cond (.t 6) (.seq (.reg [⟨(some 7), (.mkI 40 (.c (.int .i64 1))), none⟩, ⟨(some 2), (.mv (.c (.sl [] .nil))), none⟩, ⟨(some 3), (.mv (.t 7)), none⟩]) .ret) .skip)) (.seq (.reg [⟨(some 8), (.faddr 0 (.t 1)), none⟩, ⟨(some 9), (.load none (.t 8)), none⟩, ⟨(some 10), (.build [(.int .i64 0), (.int .u64 0)] [(0, (1, (.c (.int .i64 8)))), (1, (1, (.t 9)))]), none⟩, ⟨(some 11), (.faddr 1 (.t 1)), none⟩, ⟨(some 12), (.load none (.t 11)), none⟩, ⟨(some 13), (.conv .u64 (.t 12)), none⟩, ⟨(some 14), (.build [(.int .i64 0), (.int .u64 0)] [(0, (1, (.c (.int .i64 8)))), (1, (1, (.t 13)))]), none⟩, ⟨(some 15), (.faddr 2 (.t 1)), none⟩, ⟨(some 16), (.load none (.t 15)), none⟩, ⟨(some 17), (.build [(.int .i64 0), (.int .u64 0)] [(0, (1, (.c (.int .i64 8)))), (1, (1, (.t 16)))]), none⟩, ⟨(some 18), (.bslice 2 .val [(.t 10), (.t 14), (.t 17)]), none⟩, ⟨(some 19), (.call 48 [(.t 18)]), none⟩, ⟨(some 20), (.ext (.t 19) 0), none⟩, ⟨(some 21), (.ext (.t 19) 1), none⟩, ⟨(some 2), (.mv (.t 20)), none⟩, ⟨(some 3), (.mv (.t 21)), none⟩]) .ret)))

set_option maxRecDepth 100000 in
theorem k_mMark : compileC Tryd.prog ann (Tryd.f25.body.getD .skip) = some c_mMark := by kernel_rfl

theorem s_mMark {args : List AV} {σ : St} {K : AV → St → Prop} (h : WF σ → T Tryd.prog ann c_mMark (Fin σ [(.t 2), (.t 3)] K) (args ++ List.replicate (22 - args.length) (.tup [])) σ) : ACalls Tryd.prog n_mMark args σ K :=
  calls_ok Tryd.func25 (by kernel_rfl) (by kernel_rfl) k_mMark (by kernel_rfl) (by kernel_rfl) h

abbrev n_plOut : Nat := 35

def c_plOut : C := (.seq (.reg [⟨(some 6), (.mv (.c (.sl [] .nil))), none⟩, ⟨(some 7), (.mv (.c .nili)), none⟩]) (.seq (.seq (.reg [⟨(some 11), (.mv (.t 1)), none⟩, ⟨(some 12), (.bin .lss .i64 (.t 11) (.c (.int .i64 0))), none⟩, ⟨(some 13), (.mv (.t 12)), none⟩, ⟨(some 14), (.mv (.t 1)), (some (13, false))⟩, ⟨(some 15), (.bin .gtr .i64 (.t 14) (.c (.int .i64 1099511627776))), (some (13, false))⟩, ⟨(some 16), (.pick (.t 13) (.c (.bool true)) (.t 15)), none⟩, ⟨(some 17), (.mv (.t 16)), none⟩, ⟨(some 18), (.mv (.t 2)), (some (17, false))⟩, ⟨(some 19), (.bin .lss .i64 (.t 18) (.c (.int .i64 0))), (some (17, false))⟩, ⟨(some 20), (.pick (.t 17) (.c (.bool true)) (.t 19)), none⟩, ⟨(some 21), (.mv (.t 20)), none⟩, ⟨(some 22), (.mv (.t 2)), (some (21, false))⟩, ⟨(some 23), (.bin .gtr .i64 (.t 22) (.c (.int .i64 1099511627776))), (some (21, false))⟩, ⟨(some 24), (.pick (.t 21) (.c (.bool true)) (.t 23)), none⟩]) (.cond (.t 24) (.seq (.reg [⟨(some 25), (.mkI 40 (.c (.int .i64 1))), none⟩, ⟨(some 6), (.mv (.c (.sl [] .nil))), none⟩, ⟨(some 7), (.mv (.t 25)), none⟩]) .ret) .skip)) (.seq (.reg [⟨(some 8), (.mv (.c (.sl [] .nil))), none⟩]) (.seq (.seq (.reg [⟨(some 26), (.mv (.t 0)), none⟩, ⟨(some 27), (.len (.t 26)), none⟩, ⟨(some 28), (.mv (.c (.int .i64 0))), none⟩]) (.block 0 (.loop (.seq (.reg [⟨(some 29), (.bin .lss .i64 (.t 28) (.t 27)), none⟩]) (.seq (.cond (.t 29) .skip (.exit 0)) (.seq (.block 1 (.seq (.reg [⟨(some 30), (.iaddr 6 (.t 26) (.t 28)), none⟩, ⟨(some 31), (.load (some 6) (.t 30)), none⟩, ⟨(some 10), (.alloc [(.int .u64 0), (.int .i64 0), (.int .i64 0), (.int .i64 0), (.int .i64 0), (.int .i64 0)]), none⟩, ⟨none, (.store 6 (.t 10) (.t 31)), none⟩]) (.seq (.reg [⟨(some 32), (.faddr 3 (.t 10)), none⟩, ⟨(some 33), (.load none (.t 32)), none⟩, ⟨(some 34), (.mv (.t 1)), none⟩, ⟨(some 35), (.mv (.t 2)), none⟩, ⟨(some 36), (.bin .sub .i64 (.t 34) (.t 35)), none⟩, ⟨(some 37), (.bin .leq .i64 (.t 33) (.t 36)), none⟩]) (.cond (.t 37) (.reg [⟨(some 38), (.mv (.t 8)), none⟩, ⟨(some 39), (.load (some 6) (.t 10)), none⟩, ⟨(some 40), (.bslice 6 .val [(.t 39)]), none⟩, ⟨(some 41), (.app 6 48 .tip (.t 38) (.t 40)), none⟩, ⟨(some 8), (.mv (.t 41)), none⟩]) .skip)))) (.reg [⟨(some 42), (.bin .add .i64 (.t 28) (.c (.int .i64 1))), none⟩, ⟨(some 28), (.mv (.t 42)), none⟩]))))))) (.seq (.reg [⟨(some 43), (.mv (.t 8)), none⟩, ⟨(some 6), (.mv (.t 43)), none⟩, ⟨(some 7), (.mv (.c .nili)), none⟩]) .ret)))))

set_option maxRecDepth 100000 in
theorem k_plOut : compileC Tryd.prog ann (Tryd.f35.body.getD .skip) = some c_plOut := by kernel_rfl

theorem s_plOut {args : List AV} {σ : St} {K : AV → St → Prop} (h : WF σ → T Tryd.prog ann c_plOut (Fin σ [(.t 6), (.t 7)] K) (args ++ List.replicate (44 - args.length) (.tup [])) σ) : ACalls Tryd.prog n_plOut args σ K :=
  calls_ok Tryd.func35 (by kernel_rfl) (by kernel_rfl) k_plOut (by kernel_rfl) (by kernel_rfl) h

abbrev n_exMark : Nat := 11

def c_exMark : C := (.seq (.reg [⟨(some 8), (.mv (.c (.int .i64 0))), none⟩, ⟨(some 9), (.mv (.c .nili)), none⟩]) (.seq (.reg [⟨(some 10), (.mv (.c (.func 33 [] []))), none⟩]) (.seq (.seq (.reg [⟨(some 18), (.mv (.t 0)), none⟩, ⟨(some 19), (.eqP false (.t 18) (.c .nilp)), none⟩, ⟨(some 20), (.mv (.t 19)), none⟩, ⟨(some 21), (.mv (.t 1)), (some (20, false))⟩, ⟨(some 22), (.mv (.t 10)), (some (20, false))⟩, ⟨(some 23), (.call 34 [(.t 21), (.t 22)]), (some (20, false))⟩, ⟨(some 24), (.pick (.t 20) (.c (.bool true)) (.t 23)), none⟩]) (.cond (.t 24) (.seq (.reg [⟨(some 25), (.mkI 40 (.c (.int .i64 1))), none⟩, ⟨(some 8), (.mv (.c (.int .i64 0))), none⟩, ⟨(some 9), (.mv (.t 25)), none⟩]) .ret) .skip)) (.seq (.reg [⟨(some 27), (.mv (.t 1)), none⟩, ⟨(some 28), (.mv (.t 2)), none⟩, ⟨(some 29), (.mv (.t 3)), none⟩, ⟨(some 30), (.call 35 [(.t 27), (.t 28), (.t 29)]), none⟩, ⟨(some 26), (.mv (.t 30)), none⟩, ⟨(some 31), (.ext (.t 26) 0), none⟩, ⟨(some 32), (.ext (.t 26) 1), none⟩, ⟨(some 11), (.mv (.t 31)), none⟩, ⟨(some 12), (.mv (.t 32)), none⟩]) (.seq (.seq (.reg [⟨(some 33), (.mv (.t 12)), none⟩, ⟨(some 34), (.eqI true true [(40, .i64)] (.t 33) (.c .nili)), none⟩]) (.cond (.t 34) (.seq (.reg [⟨(some 35), (.mv (.t 12)), none⟩, ⟨(some 8), (.mv (.c (.int .i64 0))), none⟩, ⟨(some 9), (.mv (.t 35)), none⟩]) .ret) .skip)) (.seq (.seq (.reg [⟨(some 36), (.mv (.t 11)), none⟩, ⟨(some 37), (.len (.t 36)), none⟩, ⟨(some 38), (.mv (.c (.int .i64 0))), none⟩]) (.block 0 (.loop (.seq (.reg [⟨(some 39), (.bin .lss .i64 (.t 38) (.t 37)), none⟩]) (.seq (.cond (.t 39) .skip (.exit 0)) (.seq (.block 1 (.seq (.reg [⟨(some 40), (.mv (.t 38)), none⟩, ⟨(some 41), (.iaddr 6 (.t 36) (.t 38)), none⟩, ⟨(some 42), (.load (some 6) (.t 41)), none⟩, ⟨(some 14), (.alloc [(.int .u64 0), (.int .i64 0), (.int .i64 0), (.int .i64 0), (.int .i64 0), (.int .i64 0)]), none⟩, ⟨(some 13), (.mv (.t 40)), none⟩, ⟨none, (.store 6 (.t 14) (.t 42)), none⟩]) (.seq (.reg [⟨(some 44), (.faddr 0 (.t 14)), none⟩, ⟨(some 45), (.load none (.t 44)), none⟩, ⟨(some 46), (.mv (.t 2)), none⟩, ⟨(some 47), (.build [(.int .u64 0), (.int .i64 0), (.int .u64 0)] [(0, (1, (.t 45))), (1, (1, (.t 46)))]), none⟩, ⟨(some 48), (.call 25 [(.t 47)]), none⟩, ⟨(some 43), (.mv (.t 48)), none⟩, ⟨(some 49), (.ext (.t 43) 0), none⟩, ⟨(some 50), (.ext (.t 43) 1), none⟩, ⟨(some 15), (.mv (.t 49)), none⟩, ⟨(some 16), (.mv (.t 50)), none⟩]) (.seq (.seq (.reg [⟨(some 51), (.mv (.t 16)), none⟩, ⟨(some 52), (.eqI true true [(40, .i64)] (.t 51) (.c .nili)), none⟩]) (.cond (.t 52) (.seq (.reg [⟨(some 53), (.mv (.t 13)), none⟩, ⟨(some 54), (.mv (.t 16)), none⟩, ⟨(some 8), (.mv (.t 53)), none⟩, ⟨(some 9), (.mv (.t 54)), none⟩]) .ret) .skip)) (.seq (.reg [⟨(some 55), (.mv (.t 0)), none⟩, ⟨(some 56), (.faddr 0 (.t 14)), none⟩, ⟨(some 57), (.load none (.t 56)), none⟩, ⟨(some 58), (.call 22 [(.t 57), (.c (.str ⟨#[120]⟩)), (.c (.int .i64 0))]), none⟩, ⟨(some 59), (.mv (.t 15)), none⟩, ⟨(some 60), (.call 36 [(.t 55), (.t 58), (.t 59)]), none⟩, ⟨(some 17), (.mv (.t 60)), none⟩]) (.seq (.reg [⟨(some 61), (.mv (.t 17)), none⟩, ⟨(some 62), (.eqI true true [(40, .i64)] (.t 61) (.c .nili)), none⟩]) (.cond (.t 62) (.seq (.reg [⟨(some 63), (.mv (.t 13)), none⟩, ⟨(some 64), (.mv (.t 17)), none⟩, ⟨(some 8), (.mv (.t 63)), none⟩, ⟨(some 9), (.mv (.t 64)), none⟩]) .ret) .skip))))))) (.reg [⟨(some 65), (.bin .add .i64 (.t 38) (.c (.int .i64 1))), none⟩, ⟨(some 38), (.mv (.t 65)), none⟩]))))))) (.seq (.reg [⟨(some 66), (.mv (.t 11)), none⟩, ⟨(some 67), (.len (.t 66)), none⟩, ⟨(some 8), (.mv (.t 67)), none⟩, ⟨(some 9), (.mv (.c .nili)), none⟩]) .ret)))))))

set_option maxRecDepth 100000 in
theorem k_exMark : compileC Tryd.prog ann (Tryd.f11.body.getD .skip) = some c_exMark := by kernel_rfl

theorem s_exMark {args : List AV} {σ : St} {K : AV → St → Prop} (h : WF σ → T Tryd.prog ann c_exMark (Fin σ [(.t 8), (.t 9)] K) (args ++ List.replicate (68 - args.length) (.tup [])) σ) : ACalls Tryd.prog n_exMark args σ K :=
  calls_ok Tryd.func11 (by kernel_rfl) (by kernel_rfl) k_exMark (by kernel_rfl) (by kernel_rfl) h

abbrev n_exMark1 : Nat := 33

def c_exMark1 : C := (.seq (.reg [⟨(some 1), (.box (.t 0)), none⟩, ⟨(some 2), (.mv (.c (.bool false))), none⟩]) (.seq (.reg [⟨(some 3), (.load (some 6) (.t 1)), none⟩, ⟨(some 4), (.call 27 [(.t 3)]), none⟩, ⟨(some 5), (.not (.t 4)), none⟩, ⟨(some 2), (.mv (.t 5)), none⟩]) .ret))

set_option maxRecDepth 100000 in
theorem k_exMark1 : compileC Tryd.prog ann (Tryd.f33.body.getD .skip) = some c_exMark1 := by kernel_rfl

theorem s_exMark1 {args : List AV} {σ : St} {K : AV → St → Prop} (h : WF σ → T Tryd.prog ann c_exMark1 (Fin σ [(.t 2)] K) (args ++ List.replicate (6 - args.length) (.tup [])) σ) : ACalls Tryd.prog n_exMark1 args σ K :=
  calls_ok Tryd.func33 (by kernel_rfl) (by kernel_rfl) k_exMark1 (by kernel_rfl) (by kernel_rfl) h

abbrev n_up21 : Nat := 7

def c_up21 : C := (.seq (.reg [⟨(some 0), (.mv (.c (.bool false))), none⟩]) (.seq (.reg [⟨(some 8), (.call 8 [(.c (.int .i64 1000))]), none⟩, ⟨(some 7), (.mv (.t 8)), none⟩, ⟨(some 9), (.ext (.t 7) 0), none⟩, ⟨(some 10), (.ext (.t 7) 1), none⟩, ⟨(some 1), (.mv (.t 9)), none⟩, ⟨(some 2), (.mv (.t 10)), none⟩]) (.seq (.seq (.reg [⟨(some 11), (.mv (.t 1)), none⟩, ⟨(some 12), (.eqP false (.t 11) (.c .nilp)), none⟩, ⟨(some 13), (.mv (.t 12)), none⟩, ⟨(some 14), (.mv (.t 2)), (some (13, false))⟩, ⟨(some 15), (.eqI true true [(40, .i64)] (.t 14) (.c .nili)), (some (13, false))⟩, ⟨(some 16), (.pick (.t 13) (.c (.bool true)) (.t 15)), none⟩]) (.cond (.t 16) (.seq (.reg [⟨(some 0), (.mv (.c (.bool false))), none⟩]) .ret) .skip)) (.seq (.reg [⟨(some 18), (.mv (.t 1)), none⟩, ⟨(some 19), (.build [(.int .u64 0), (.int .i64 0), (.int .i64 0), (.int .i64 0), (.int .i64 0), (.int .i64 0)] [(0, (1, (.c (.int .u64 1)))), (4, (1, (.c (.int .i64 1)))), (5, (1, (.c (.int .i64 1)))), (3, (1, (.c (.int .i64 3))))]), none⟩, ⟨(some 20), (.bslice 6 .val [(.t 19)]), none⟩, ⟨(some 21), (.call 11 [(.t 18), (.t 20), (.c (.int .i64 5)), (.c (.int .i64 2))]), none⟩, ⟨(some 17), (.mv (.t 21)), none⟩, ⟨(some 22), (.ext (.t 17) 0), none⟩, ⟨(some 23), (.ext (.t 17) 1), none⟩, ⟨(some 3), (.mv (.t 22)), none⟩, ⟨(some 4), (.mv (.t 23)), none⟩]) (.seq (.reg [⟨(some 25), (.call 11 [(.c .nilp), (.c (.sl [] .nil)), (.c (.int .i64 5)), (.c (.int .i64 2))]), none⟩, ⟨(some 24), (.mv (.t 25)), none⟩, ⟨(some 26), (.ext (.t 24) 0), none⟩, ⟨(some 27), (.ext (.t 24) 1), none⟩, ⟨(some 5), (.mv (.t 26)), none⟩, ⟨(some 6), (.mv (.t 27)), none⟩]) (.seq (.reg [⟨(some 28), (.mv (.t 3)), none⟩, ⟨(some 29), (.bin .eql .i64 (.t 28) (.c (.int .i64 1))), none⟩, ⟨(some 30), (.mv (.t 29)), none⟩, ⟨(some 31), (.mv (.t 4)), (some (30, true))⟩, ⟨(some 32), (.eqI false true [(40, .i64)] (.t 31) (.c .nili)), (some (30, true))⟩, ⟨(some 33), (.pick (.t 30) (.t 32) (.c (.bool false))), none⟩, ⟨(some 34), (.mv (.t 33)), none⟩, ⟨(some 35), (.mv (.t 6)), (some (34, true))⟩, ⟨(some 36), (.mkI 40 (.c (.int .i64 1))), (some (34, true))⟩, ⟨(some 37), (.eqI false false [(40, .i64)] (.t 35) (.t 36)), (some (34, true))⟩, ⟨(some 38), (.pick (.t 34) (.t 37) (.c (.bool false))), none⟩, ⟨(some 0), (.mv (.t 38)), none⟩]) .ret))))))

set_option maxRecDepth 100000 in
theorem k_up21 : compileC Tryd.prog ann (Tryd.f7.body.getD .skip) = some c_up21 := by kernel_rfl

theorem s_up21 {args : List AV} {σ : St} {K : AV → St → Prop} (h : WF σ → T Tryd.prog ann c_up21 (Fin σ [(.t 0)] K) (args ++ List.replicate (39 - args.length) (.tup [])) σ) : ACalls Tryd.prog n_up21 args σ K :=
  calls_ok Tryd.func7 (by kernel_rfl) (by kernel_rfl) k_up21 (by kernel_rfl) (by kernel_rfl) h

abbrev n_slHasPre : Nat := 109

def c_slHasPre : C := (.seq (.reg [⟨(some 4), (.mv (.c (.bool false))), none⟩]) (.seq (.reg [⟨(some 5), (.mv (.t 0)), none⟩, ⟨(some 6), (.slen (.t 5)), none⟩, ⟨(some 7), (.mv (.t 1)), none⟩, ⟨(some 8), (.slen (.t 7)), none⟩, ⟨(some 9), (.bin .geq .i64 (.t 6) (.t 8)), none⟩, ⟨(some 10), (.mv (.t 9)), none⟩, ⟨(some 11), (.mv (.t 0)), (some (10, true))⟩, ⟨(some 12), (.mv (.t 1)), (some (10, true))⟩, ⟨(some 13), (.slen (.t 12)), (some (10, true))⟩, ⟨(some 14), (.sslice (.t 11) none (some (.t 13))), (some (10, true))⟩, ⟨(some 15), (.mv (.t 1)), (some (10, true))⟩, ⟨(some 16), (.sbin .eql (.t 14) (.t 15)), (some (10, true))⟩, ⟨(some 17), (.pick (.t 10) (.t 16) (.c (.bool false))), none⟩, ⟨(some 4), (.mv (.t 17)), none⟩]) .ret))

set_option maxRecDepth 100000 in
theorem k_slHasPre : compileC Tryd.prog ann (Tryd.f109.body.getD .skip) = some c_slHasPre := by kernel_rfl

theorem s_slHasPre {args : List AV} {σ : St} {K : AV → St → Prop} (h : WF σ → T Tryd.prog ann c_slHasPre (Fin σ [(.t 4)] K) (args ++ List.replicate (18 - args.length) (.tup [])) σ) : ACalls Tryd.prog n_slHasPre args σ K :=
  calls_ok Tryd.func109 (by kernel_rfl) (by kernel_rfl) k_slHasPre (by kernel_rfl) (by kernel_rfl) h

abbrev n_slIndex : Nat := 93

def c_slIndex : C := (.seq (.reg [⟨(some 4), (.mv (.c (.int .i64 0))), none⟩]) (.seq (.reg [⟨(some 14), (.mv (.t 1)), none⟩, ⟨(some 15), (.slen (.t 14)), none⟩, ⟨(some 5), (.mv (.t 15)), none⟩]) (.seq (.block 0 (.seq (.reg [⟨(some 17), (.mv (.t 5)), none⟩, ⟨(some 18), (.bin .eql .i64 (.t 17) (.c (.int .i64 0))), none⟩, ⟨(some 19), (.mv (.t 18)), none⟩, ⟨(some 20), (.mv (.t 1)), (some (19, false))⟩, ⟨(some 21), (.mv (.t 0)), (some (19, false))⟩, ⟨(some 22), (.sbin .eql (.t 20) (.t 21)), (some (19, false))⟩, ⟨(some 23), (.pick (.t 19) (.c (.bool true)) (.t 22)), none⟩, ⟨(some 16), (.mv (.t 23)), none⟩]) (.cond (.t 16) (.seq (.reg [⟨(some 4), (.mv (.c (.int .i64 0))), none⟩]) .ret) (.seq (.reg [⟨(some 25), (.mv (.t 5)), none⟩, ⟨(some 26), (.bin .eql .i64 (.t 25) (.c (.int .i64 1))), none⟩, ⟨(some 24), (.mv (.t 26)), none⟩]) (.cond (.t 24) (.seq (.reg [⟨(some 27), (.mv (.t 0)), none⟩, ⟨(some 28), (.mv (.t 1)), none⟩, ⟨(some 29), (.idxS (.t 28) (.c (.int .i64 0))), none⟩, ⟨(some 30), (.call 112 [(.t 27), (.t 29)]), none⟩, ⟨(some 4), (.mv (.t 30)), none⟩]) .ret) (.seq (.reg [⟨(some 32), (.mv (.t 5)), none⟩, ⟨(some 33), (.mv (.t 0)), none⟩, ⟨(some 34), (.slen (.t 33)), none⟩, ⟨(some 35), (.bin .geq .i64 (.t 32) (.t 34)), none⟩, ⟨(some 31), (.mv (.t 35)), none⟩]) (.cond (.t 31) (.seq (.reg [⟨(some 4), (.mv (.c (.int .i64 (-1)))), none⟩]) .ret) (.seq (.reg [⟨(some 37), (.mv (.t 5)), none⟩, ⟨(some 38), (.gload 2 none), none⟩, ⟨(some 39), (.bin .leq .i64 (.t 37) (.t 38)), none⟩, ⟨(some 40), (.mv (.t 39)), none⟩, ⟨(some 41), (.mv (.t 0)), (some (40, true))⟩, ⟨(some 42), (.slen (.t 41)), (some (40, true))⟩, ⟨(some 43), (.bin .leq .i64 (.t 42) (.c (.int .i64 64))), (some (40, true))⟩, ⟨(some 44), (.pick (.t 40) (.t 43) (.c (.bool false))), none⟩, ⟨(some 36), (.mv (.t 44)), none⟩]) (.cond (.t 36) (.seq (.reg [⟨(some 45), (.mv (.t 0)), none⟩, ⟨(some 46), (.mv (.t 1)), none⟩, ⟨(some 47), (.call 113 [(.t 45), (.t 46)]), none⟩, ⟨(some 4), (.mv (.t 47)), none⟩]) .ret) .skip))))))))) (.seq (.reg [⟨(some 48), (.mv (.t 1)), none⟩, ⟨(some 49), (.idxS (.t 48) (.c (.int .i64 0))), none⟩, ⟨(some 6), (.mv (.t 49)), none⟩]) (.seq (.reg [⟨(some 50), (.mv (.t 1)), none⟩, ⟨(some 51), (.idxS (.t 50) (.c (.int .i64 1))), none⟩, ⟨(some 7), (.mv (.t 51)), none⟩]) (.seq (.reg [⟨(some 8), (.mv (.c (.int .i64 0))), none⟩]) (.seq (.reg [⟨(some 52), (.mv (.t 0)), none⟩, ⟨(some 53), (.slen (.t 52)), none⟩, ⟨(some 54), (.mv (.t 5)), none⟩, ⟨(some 55), (.bin .sub .i64 (.t 53) (.t 54)), none⟩, ⟨(some 56), (.bin .add .i64 (.t 55) (.c (.int .i64 1))), none⟩, ⟨(some 9), (.mv (.t 56)), none⟩]) (.seq (.reg [⟨(some 10), (.mv (.c (.int .i64 0))), none⟩]) (.seq (.block 1 (.loop (.seq (.seq (.reg [⟨(some 57), (.mv (.t 8)), none⟩, ⟨(some 58), (.mv (.t 9)), none⟩, ⟨(some 59), (.bin .lss .i64 (.t 57) (.t 58)), none⟩]) (.cond (.t 59) .skip (.exit 1))) (.block 2 (.seq (.seq (.reg [⟨(some 60), (.mv (.t 0)), none⟩, ⟨(some 61), (.mv (.t 8)), none⟩, ⟨(some 62), (.idxS (.t 60) (.t 61)), none⟩, ⟨(some 63), (.mv (.t 6)), none⟩, ⟨(some 64), (.bin .neq .u8 (.t 62) (.t 63)), none⟩]) (.cond (.t 64) (.seq (.reg [⟨(some 65), (.mv (.t 0)), none⟩, ⟨(some 66), (.mv (.t 8)), none⟩, ⟨(some 67), (.bin .add .i64 (.t 66) (.c (.int .i64 1))), none⟩, ⟨(some 68), (.mv (.t 9)), none⟩, ⟨(some 69), (.sslice (.t 65) (some (.t 67)) (some (.t 68))), none⟩, ⟨(some 70), (.mv (.t 6)), none⟩, ⟨(some 71), (.call 112 [(.t 69), (.t 70)]), none⟩, ⟨(some 11), (.mv (.t 71)), none⟩]) (.seq (.seq (.reg [⟨(some 72), (.mv (.t 11)), none⟩, ⟨(some 73), (.bin .lss .i64 (.t 72) (.c (.int .i64 0))), none⟩]) (.cond (.t 73) (.seq (.reg [⟨(some 4), (.mv (.c (.int .i64 (-1)))), none⟩]) .ret) .skip)) (.reg [⟨(some 74), (.mv (.t 8)), none⟩, ⟨(some 75), (.mv (.t 11)), none⟩, ⟨(some 76), (.bin .add .i64 (.t 75) (.c (.int .i64 1))), none⟩, ⟨(some 77), (.bin .add .i64 (.t 74) (.t 76)), none⟩, ⟨(some 8), (.mv (.t 77)), none⟩]))) .skip)) (.seq (.seq (.reg [⟨(some 78), (.mv (.t 0)), none⟩, ⟨(some 79), (.mv (.t 8)), none⟩, ⟨(some 80), (.bin .add .i64 (.t 79) (.c (.int .i64 1))), none⟩, ⟨(some 81), (.idxS (.t 78) (.t 80)), none⟩, ⟨(some 82), (.mv (.t 7)), none⟩, ⟨(some 83), (.bin .eql .u8 (.t 81) (.t 82)), none⟩, ⟨(some 84), (.mv (.t 83)), none⟩, ⟨(some 85), (.mv (.t 0)), (some (84, true))⟩, ⟨(some 86), (.mv (.t 8)), (some (84, true))⟩, ⟨(some 87), (.mv (.t 8)), (some (84, true))⟩, ⟨(some 88), (.mv (.t 5)), (some (84, true))⟩, ⟨(some 89), (.bin .add .i64 (.t 87) (.t 88)), (some (84, true))⟩, ⟨(some 90), (.sslice (.t 85) (some (.t 86)) (some (.t 89))), (some (84, true))⟩, ⟨(some 91), (.mv (.t 1)), (some (84, true))⟩, ⟨(some 92), (.sbin .eql (.t 90) (.t 91)), (some (84, true))⟩, ⟨(some 93), (.pick (.t 84) (.t 92) (.c (.bool false))), none⟩]) (.cond (.t 93) (.seq (.reg [⟨(some 94), (.mv (.t 8)), none⟩, ⟨(some 4), (.mv (.t 94)), none⟩]) .ret) .skip)) (.seq (.reg [⟨(some 95), (.mv (.t 8)), none⟩, ⟨(some 96), (.bin .add .i64 (.t 95) (.c (.int .i64 1))), none⟩, ⟨(some 8), (.mv (.t 96)), none⟩]) (.seq (.reg [⟨(some 97), (.mv (.t 10)), none⟩, ⟨(some 98), (.bin .add .i64 (.t 97) (.c (.int .i64 1))), none⟩, ⟨(some 10), (.mv (.t 98)), none⟩]) (.seq (.reg [⟨(some 99), (.mv (.t 5)), none⟩, ⟨(some 100), (.gload 2 none), none⟩, ⟨(some 101), (.bin .leq .i64 (.t 99) (.t 100)), none⟩, ⟨(some 102), (.mv (.t 101)), none⟩, ⟨(some 103), (.mv (.t 10)), (some (102, true))⟩, ⟨(some 104), (.mv (.t 8)), (some (102, true))⟩, ⟨(some 105), (.call 114 [(.t 104)]), (some (102, true))⟩, ⟨(some 106), (.bin .gtr .i64 (.t 103) (.t 105)), (some (102, true))⟩, ⟨(some 107), (.pick (.t 102) (.t 106) (.c (.bool false))), none⟩]) (.cond (.t 107) (.seq (.reg [⟨(some 108), (.mv (.t 0)), none⟩, ⟨(some 109), (.mv (.t 8)), none⟩, ⟨(some 110), (.sslice (.t 108) (some (.t 109)) none), none⟩, ⟨(some 111), (.mv (.t 1)), none⟩, ⟨(some 112), (.call 113 [(.t 110), (.t 111)]), none⟩, ⟨(some 12), (.mv (.t 112)), none⟩]) (.seq (.seq (.reg [⟨(some 113), (.mv (.t 12)), none⟩, ⟨(some 114), (.bin .geq .i64 (.t 113) (.c (.int .i64 0))), none⟩]) (.cond (.t 114) (.seq (.reg [⟨(some 115), (.mv (.t 12)), none⟩, ⟨(some 116), (.mv (.t 8)), none⟩, ⟨(some 117), (.bin .add .i64 (.t 115) (.t 116)), none⟩, ⟨(some 4), (.mv (.t 117)), none⟩]) .ret) .skip)) (.seq (.reg [⟨(some 4), (.mv (.c (.int .i64 (-1)))), none⟩]) .ret))) (.seq (.reg [⟨(some 118), (.mv (.t 5)), none⟩, ⟨(some 119), (.gload 2 none), none⟩, ⟨(some 120), (.bin .gtr .i64 (.t 118) (.t 119)), none⟩, ⟨(some 121), (.mv (.t 120)), none⟩, ⟨(some 122), (.mv (.t 10)), (some (121, true))⟩, ⟨(some 123), (.mv (.t 8)), (some (121, true))⟩, ⟨(some 124), (.bin .shr .i64 (.t 123) (.c (.int .u64 4))), (some (121, true))⟩, ⟨(some 125), (.bin .add .i64 (.c (.int .i64 4)) (.t 124)), (some (121, true))⟩, ⟨(some 126), (.bin .geq .i64 (.t 122) (.t 125)), (some (121, true))⟩, ⟨(some 127), (.pick (.t 121) (.t 126) (.c (.bool false))), none⟩, ⟨(some 128), (.mv (.t 127)), none⟩, ⟨(some 129), (.mv (.t 8)), (some (128, true))⟩, ⟨(some 130), (.mv (.t 9)), (some (128, true))⟩, ⟨(some 131), (.bin .lss .i64 (.t 129) (.t 130)), (some (128, true))⟩, ⟨(some 132), (.pick (.t 128) (.t 131) (.c (.bool false))), none⟩]) (.cond (.t 132) (.seq (.reg [⟨(some 133), (.mv (.t 0)), none⟩, ⟨(some 134), (.mv (.t 8)), none⟩, ⟨(some 135), (.sslice (.t 133) (some (.t 134)) none), none⟩, ⟨(some 136), (.mv (.t 1)), none⟩, ⟨(some 137), (.call 115 [(.t 135), (.t 136)]), none⟩, ⟨(some 13), (.mv (.t 137)), none⟩]) (.seq (.seq (.reg [⟨(some 138), (.mv (.t 13)), none⟩, ⟨(some 139), (.bin .lss .i64 (.t 138) (.c (.int .i64 0))), none⟩]) (.cond (.t 139) (.seq (.reg [⟨(some 4), (.mv (.c (.int .i64 (-1)))), none⟩]) .ret) .skip)) (.seq (.reg [⟨(some 140), (.mv (.t 8)), none⟩, ⟨(some 141), (.mv (.t 13)), none⟩, ⟨(some 142), (.bin .add .i64 (.t 140) (.t 141)), none⟩, ⟨(some 4), (.mv (.t 142)), none⟩]) .ret))) .skip)))))))))))) (.seq (.reg [⟨(some 4), (.mv (.c (.int .i64 (-1)))), none⟩]) .ret))))))))))

set_option maxRecDepth 100000 in
theorem k_slIndex : compileC Tryd.prog ann (Tryd.f93.body.getD .skip) = some c_slIndex := by kernel_rfl

theorem s_slIndex {args : List AV} {σ : St} {K : AV → St → Prop} (h : WF σ → T Tryd.prog ann c_slIndex (Fin σ [(.t 4)] K) (args ++ List.replicate (143 - args.length) (.tup [])) σ) : ACalls Tryd.prog n_slIndex args σ K :=
  calls_ok Tryd.func93 (by kernel_rfl) (by kernel_rfl) k_slIndex (by kernel_rfl) (by kernel_rfl) h

abbrev n_slIdxB : Nat := 112

def c_slIdxB : C := (.seq (.reg [⟨(some 4), (.mv (.c (.int .i64 0))), none⟩]) (.seq (.reg [⟨(some 5), (.mv (.t 0)), none⟩, ⟨(some 6), (.mv (.t 1)), none⟩, ⟨(some 7), (.xidx (.t 5) (.t 6)), none⟩, ⟨(some 4), (.mv (.t 7)), none⟩]) .ret))

set_option maxRecDepth 100000 in
theorem k_slIdxB : compileC Tryd.prog ann (Tryd.f112.body.getD .skip) = some c_slIdxB := by kernel_rfl

theorem s_slIdxB {args : List AV} {σ : St} {K : AV → St → Prop} (h : WF σ → T Tryd.prog ann c_slIdxB (Fin σ [(.t 4)] K) (args ++ List.replicate (8 - args.length) (.tup [])) σ) : ACalls Tryd.prog n_slIdxB args σ K :=
  calls_ok Tryd.func112 (by kernel_rfl) (by kernel_rfl) k_slIdxB (by kernel_rfl) (by kernel_rfl) h

abbrev n_mcontF : Nat := 34

def c_mcontF : C := (.seq (.reg [⟨(some 4), (.mv (.c (.bool false))), none⟩]) (.seq (.reg [⟨(some 5), (.mv (.t 0)), none⟩, ⟨(some 6), (.mv (.t 1)), none⟩, ⟨(some 7), (.call 54 [(.t 5), (.t 6)]), none⟩, ⟨(some 8), (.bin .geq .i64 (.t 7) (.c (.int .i64 0))), none⟩, ⟨(some 4), (.mv (.t 8)), none⟩]) .ret))

set_option maxRecDepth 100000 in
theorem k_mcontF : compileC Tryd.prog ann (Tryd.f34.body.getD .skip) = some c_mcontF := by kernel_rfl

theorem s_mcontF {args : List AV} {σ : St} {K : AV → St → Prop} (h : WF σ → T Tryd.prog ann c_mcontF (Fin σ [(.t 4)] K) (args ++ List.replicate (9 - args.length) (.tup [])) σ) : ACalls Tryd.prog n_mcontF args σ K :=
  calls_ok Tryd.func34 (by kernel_rfl) (by kernel_rfl) k_mcontF (by kernel_rfl) (by kernel_rfl) h

abbrev n_midxF : Nat := 54

def c_midxF : C := (.seq (.reg [⟨(some 4), (.mv (.c (.int .i64 0))), none⟩]) (.seq (.seq (.reg [⟨(some 6), (.mv (.t 0)), none⟩, ⟨(some 7), (.len (.t 6)), none⟩, ⟨(some 8), (.mv (.c (.int .i64 0))), none⟩]) (.block 0 (.loop (.seq (.reg [⟨(some 9), (.bin .lss .i64 (.t 8) (.t 7)), none⟩]) (.seq (.cond (.t 9) .skip (.exit 0)) (.seq (.block 1 (.seq (.reg [⟨(some 10), (.mv (.t 8)), none⟩, ⟨(some 5), (.mv (.t 10)), none⟩]) (.seq (.reg [⟨(some 11), (.mv (.t 1)), none⟩, ⟨(some 12), (.mv (.t 0)), none⟩, ⟨(some 13), (.mv (.t 5)), none⟩, ⟨(some 14), (.iaddr 6 (.t 12) (.t 13)), none⟩, ⟨(some 15), (.load (some 6) (.t 14)), none⟩, ⟨(some 16), (.callv (.t 11) [(.t 15)]), none⟩]) (.cond (.t 16) (.seq (.reg [⟨(some 17), (.mv (.t 5)), none⟩, ⟨(some 4), (.mv (.t 17)), none⟩]) .ret) .skip)))) (.reg [⟨(some 18), (.bin .add .i64 (.t 8) (.c (.int .i64 1))), none⟩, ⟨(some 8), (.mv (.t 18)), none⟩]))))))) (.seq (.reg [⟨(some 4), (.mv (.c (.int .i64 (-1)))), none⟩]) .ret)))

set_option maxRecDepth 100000 in
theorem k_midxF : compileC Tryd.prog ann (Tryd.f54.body.getD .skip) = some c_midxF := by kernel_rfl

theorem s_midxF {args : List AV} {σ : St} {K : AV → St → Prop} (h : WF σ → T Tryd.prog ann c_midxF (Fin σ [(.t 4)] K) (args ++ List.replicate (19 - args.length) (.tup [])) σ) : ACalls Tryd.prog n_midxF args σ K :=
  calls_ok Tryd.func54 (by kernel_rfl) (by kernel_rfl) k_midxF (by kernel_rfl) (by kernel_rfl) h

end Go.VL

namespace Go.VL

open Go.Proofs

/-- bytes, as a value or as an owned row -/
def BytesE (σ : St) (v : AV) (b : List UInt8) : Prop := (∃ g, v = .sl (bytesAV b) g) ∨ ∃ n, v = .ref n 0 b.length ∧ σ.res n = some (.obj (bytesAV b))

theorem BytesE.src {σ : St} {v : AV} {b : List UInt8} (h : BytesE σ v b) : srcOf σ 1 v = some (bytesAV b) := by
  rcases h with ⟨g, rfl⟩ | ⟨n, rfl, hr⟩
  · simp only [srcOf, bytesAV_er]
  · have e : ((bytesAV b).drop 0).take b.length = bytesAV b := by rw [List.drop_zero, List.take_of_length_le (by rw [bytesAV_len]; exact Nat.le_refl _)]
    unfold srcOf
    simp only [hr]
    rw [e, if_pos ⟨by trivial, by rw [bytesAV_len]; omega, by simp [bytesAV, AV.one]⟩]
    simp [bytesAV, AV.er1]

theorem BytesE.mono {σ σ' : St} {v : AV} {b : List UInt8} (h : BytesE σ v b) (ho : ∀ n x, σ.res n = some x → σ'.res n = some x) : BytesE σ' v b := by
  rcases h with ⟨g, rfl⟩ | ⟨n, rfl, hr⟩
  · exact .inl ⟨g, rfl⟩
  · exact .inr ⟨n, rfl, ho _ _ hr⟩

end Go.VL

namespace Go.VL

open Go.Proofs

def refs (k : Nat) (ns : List Nat) : List AV := ns.map fun n => .ref n 0 k

/-- a filter stands at p, its shards at ns -/
structure Bl (σ : St) (p : Nat) (ns : List Nat) (v : Ver) (bits hashes k : Nat) (rows : List (List UInt8)) : Prop where
  obj : σ.res p = some (.obj [.int .i64 bits, .int .i64 hashes, .sl (refs k ns) v])
  len : ns.length = rows.length
  nd : (p :: ns).Nodup
  row : ∀ (i n : Nat) (b : List UInt8), ns[i]? = some n → rows[i]? = some b → σ.res n = some (.obj (bytesAV b)) ∧ b.length = k

theorem Bl.mono {σ σ' : St} {p : Nat} {ns : List Nat} {v : Ver} {bits hashes k : Nat} {rows : List (List UInt8)} (h : Bl σ p ns v bits hashes k rows) (ho : ∀ n x, σ.res n = some x → σ'.res n = some x) : Bl σ' p ns v bits hashes k rows :=
  ⟨ho _ _ h.obj, h.len, h.nd, fun i n b h1 h2 => ⟨ho _ _ (h.row i n b h1 h2).1, (h.row i n b h1 h2).2⟩⟩

end Go.VL

namespace Go.VL

open Go.Proofs

def boolsAV (l : List Bool) : List AV := l.map .bool

/-- the document's filter stands at p, its shards at ns -/
structure Rf (σ : St) (p : Nat) (ns : List Nat) (v : Ver) (bits hashes : Nat) (rows : List (List Bool)) : Prop where
  obj : σ.res p = some (.obj [.int .i64 bits, .int .i64 hashes, .sl (refs bits ns) v])
  len : ns.length = rows.length
  nd : (p :: ns).Nodup
  row : ∀ (i n : Nat) (b : List Bool), ns[i]? = some n → rows[i]? = some b → σ.res n = some (.obj (boolsAV b)) ∧ b.length = bits

theorem Rf.mono {σ σ' : St} {p : Nat} {ns : List Nat} {v : Ver} {bits hashes : Nat} {rows : List (List Bool)} (h : Rf σ p ns v bits hashes rows) (ho : ∀ n x, σ.res n = some x → σ'.res n = some x) : Rf σ' p ns v bits hashes rows :=
  ⟨ho _ _ h.obj, h.len, h.nd, fun i n b h1 h2 => ⟨ho _ _ (h.row i n b h1 h2).1, (h.row i n b h1 h2).2⟩⟩

end Go.VL
