/- PLAIN LAW: a checksum by a table is the checksum bit by bit. -/
import Derived.Test.YtlbnimbgodmagaaVpB
namespace Go.VL

def bitstep (x : BitVec 32) : BitVec 32 := if x.getLsbD 0 then (x >>> 1) ^^^ 0xEDB88320#32 else x >>> 1
def stepN : Nat → BitVec 32 → BitVec 32
  | 0, x => x
  | n + 1, x => stepN n (bitstep x)

theorem bitstep_xor (a b : BitVec 32) : bitstep (a ^^^ b) = bitstep a ^^^ bitstep b := by
  unfold bitstep
  rw [BitVec.getLsbD_xor, BitVec.ushiftRight_xor_distrib]
  cases a.getLsbD 0 <;> cases b.getLsbD 0 <;> simp only [Bool.xor_false, Bool.xor_true, Bool.not_true, Bool.not_false, if_true, if_false, Bool.false_eq_true]
  · rw [BitVec.xor_assoc]
  · rw [BitVec.xor_assoc, BitVec.xor_assoc, BitVec.xor_comm (b >>> 1)]
  · rw [BitVec.xor_assoc (a >>> 1), BitVec.xor_comm 0xEDB88320#32, BitVec.xor_assoc (b >>> 1), BitVec.xor_self, BitVec.xor_zero]
theorem stepN_xor : ∀ (n : Nat) (a b : BitVec 32), stepN n (a ^^^ b) = stepN n a ^^^ stepN n b
  | 0, _, _ => rfl
  | n + 1, a, b => by simp only [stepN]; rw [bitstep_xor, stepN_xor n]

theorem stepN_low : ∀ (n : Nat) (y : BitVec 32), (∀ i, i < n → y.getLsbD i = false) → stepN n y = y >>> n
  | 0, y, _ => by simp [stepN]
  | n + 1, y, h => by
    have h0 : bitstep y = y >>> 1 := by unfold bitstep; rw [h 0 (by omega)]; simp
    simp only [stepN]
    rw [h0, stepN_low n _ (fun i hi => by rw [BitVec.getLsbD_ushiftRight]; exact h (1 + i) (by omega))]
    rw [← BitVec.shiftRight_add, Nat.add_comm]

theorem split8 (y : BitVec 32) : y = (y &&& 0xff#32) ^^^ ((y >>> 8) <<< 8) := by
  apply BitVec.eq_of_getLsbD_eq
  intro i hi
  simp only [BitVec.getLsbD_xor, BitVec.getLsbD_and, BitVec.getLsbD_shiftLeft, BitVec.getLsbD_ushiftRight]
  have hff : (0xff#32).getLsbD i = decide (i < 8) := by
    have : ∀ j : _root_.Fin 32, (0xff#32).getLsbD j.val = decide (j.val < 8) := by decide
    exact this ⟨i, hi⟩
  rw [hff]
  by_cases h8 : i < 8
  · simp [h8]
  · have : 8 + (i - 8) = i := by omega
    simp [h8, this, hi]

/-- eight steps of a word and a byte: by the low byte's own -/
theorem table_step (x c : BitVec 32) (hc : c >>> 8 = 0#32) : stepN 8 (x ^^^ c) = (x >>> 8) ^^^ stepN 8 ((x ^^^ c) &&& 0xff#32) := by
  have h := split8 (x ^^^ c)
  have h2 : stepN 8 (((x ^^^ c) >>> 8) <<< 8) = (x ^^^ c) >>> 8 := by
    rw [stepN_low 8 _ (fun i hi => by rw [BitVec.getLsbD_shiftLeft]; simp [hi])]
    apply BitVec.eq_of_getLsbD_eq
    intro i hi
    simp only [BitVec.getLsbD_ushiftRight, BitVec.getLsbD_shiftLeft]
    by_cases h32 : 8 + i < 32
    · have : 8 + i - 8 = i := by omega
      simp [h32, this]
    · rw [BitVec.getLsbD_of_ge (x ^^^ c) (8 + i) (by omega)]
      simp [h32]
  conv => lhs; rw [h]
  rw [stepN_xor, h2, BitVec.ushiftRight_xor_distrib, hc, BitVec.xor_zero, BitVec.xor_comm]

/-- the checksum's run over bytes -/
def crcRun (x : BitVec 32) : List UInt8 → BitVec 32
  | [] => x
  | c :: r => crcRun (stepN 8 (x ^^^ BitVec.ofNat 32 c.toNat)) r
def crcOf (l : List UInt8) : Nat := (~~~ (crcRun 0xffffffff#32 l)).toNat
theorem crcOf_lt (l : List UInt8) : crcOf l < 4294967296 := (~~~ (crcRun 0xffffffff#32 l)).isLt
/-! ### The operations on words -/
theorem u32_shr1 (x : BitVec 32) : Int.fdiv (x.toNat : Int) (2 ^ min (1 : Int).toNat IntKind.u32.bits) = ((x >>> 1).toNat : Int) := by
  have : (2 : Int) ^ min (1 : Int).toNat IntKind.u32.bits = ((2 : Nat) : Int) := by simp [IntKind.bits]
  rw [this, Int.fdiv_eq_ediv_of_nonneg _ (by omega), ← Int.natCast_ediv, BitVec.toNat_ushiftRight, Nat.shiftRight_eq_div_pow]
theorem u32_shr8 (x : BitVec 32) : Int.fdiv (x.toNat : Int) (2 ^ min (8 : Int).toNat IntKind.u32.bits) = ((x >>> 8).toNat : Int) := by
  have : (2 : Int) ^ min (8 : Int).toNat IntKind.u32.bits = ((256 : Nat) : Int) := by simp [IntKind.bits]
  rw [this, Int.fdiv_eq_ediv_of_nonneg _ (by omega), ← Int.natCast_ediv, BitVec.toNat_ushiftRight, Nat.shiftRight_eq_div_pow]
theorem u32_of (x : BitVec 32) : BitVec.ofInt IntKind.u32.bits (x.toNat : Int) = x := by
  apply BitVec.eq_of_toNat_eq
  have := x.isLt
  simp [IntKind.bits]
theorem u32_wrap (x : BitVec 32) : IntKind.u32.wrap (x.toNat : Int) = (x.toNat : Int) := by
  have := x.isLt
  simp [IntKind.wrap, IntKind.bits, IntKind.signed]; omega
theorem u32_xor (x y : BitVec 32) : IntKind.u32.wrap ((BitVec.ofInt IntKind.u32.bits (x.toNat : Int) ^^^ BitVec.ofInt IntKind.u32.bits (y.toNat : Int)).toNat) = ((x ^^^ y).toNat : Int) := by
  rw [u32_of, u32_of]; exact u32_wrap _
theorem u32_poly : (3988292384 : Int) = ((0xEDB88320#32).toNat : Int) := rfl
theorem u32_odd (x : BitVec 32) : (IntKind.u32.wrap ((BitVec.ofInt IntKind.u32.bits (x.toNat : Int) &&& BitVec.ofInt IntKind.u32.bits 1).toNat) == 1) = x.getLsbD 0 := by
  rw [u32_of]
  have h1 : BitVec.ofInt IntKind.u32.bits 1 = 1#32 := rfl
  rw [h1]
  show (IntKind.u32.wrap (((x &&& 1#32 : BitVec 32).toNat : Nat) : Int) == 1) = x.getLsbD 0
  rw [u32_wrap]
  have h2 : x &&& 1#32 = if x.getLsbD 0 then 1#32 else 0#32 := by
    apply BitVec.eq_of_getLsbD_eq
    intro i hi
    rw [BitVec.getLsbD_and]
    have hone : (1#32).getLsbD i = decide (i = 0) := by
      have : ∀ j : _root_.Fin 32, (1#32).getLsbD j.val = decide (j.val = 0) := by decide
      exact this ⟨i, hi⟩
    rw [hone]
    by_cases h0 : i = 0
    · subst h0; cases x.getLsbD 0 <;> simp
    · cases x.getLsbD 0 <;> simp [h0]
  rw [h2]
  cases x.getLsbD 0 <;> rfl
theorem u32_rem2 (x : BitVec 32) : (Int.tmod (x.toNat : Int) 2 == 1) = x.getLsbD 0 := by
  have h1 : Int.tmod (x.toNat : Int) 2 = ((x.toNat % 2 : Nat) : Int) := by
    exact (Int.ofNat_tmod x.toNat 2).symm
  rw [h1]
  have h2 : x.getLsbD 0 = decide (x.toNat % 2 = 1) := by
    rw [BitVec.getLsbD, Nat.testBit_zero]
  rw [h2]
  rcases Nat.mod_two_eq_zero_or_one x.toNat with h | h <;> rw [h] <;> rfl
theorem u32_quo2 (x : BitVec 32) : IntKind.u32.wrap (Int.tdiv (x.toNat : Int) 2) = ((x >>> 1).toNat : Int) := by
  have h1 : Int.tdiv (x.toNat : Int) 2 = ((x.toNat / 2 : Nat) : Int) := by
    exact (Int.ofNat_tdiv x.toNat 2).symm
  have h2 : x.toNat / 2 = (x >>> 1).toNat := by rw [BitVec.toNat_ushiftRight, Nat.shiftRight_eq_div_pow]
  rw [h1, h2]; exact u32_wrap _
end Go.VL
