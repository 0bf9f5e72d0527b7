/- Words of 32 bits. -/
import Derived.Test.YtnogalajfccioaaDoorRound
namespace Go.Proofs.YtnogalajfccioaaDoor
open Go.RowKit
theorem u32_wrap (n : Nat) (h : n < 2 ^ 32) : IntKind.u32.wrap (n : Int) = (n : Int) := by
  have : IntKind.u32.wrap (n : Int) = (n : Int) % 4294967296 := by simp [IntKind.wrap, IntKind.bits, IntKind.signed]
  rw [this]; omega
theorem u32_pow {k : Nat} (h : k < 32) : (2 : Nat) ^ k < 2 ^ 32 := Nat.pow_lt_pow_right (by decide) h
theorem u32_shl1 {k : Nat} (h : k < 32) : IntKind.u32.wrap ((2 : Int) ^ k) = ((2 ^ k : Nat) : Int) := by
  have := u32_wrap (2 ^ k) (u32_pow h)
  rw [← this]; congr 1
theorem u32_ofNat (a : Nat) : BitVec.ofInt IntKind.u32.bits (a : Int) = BitVec.ofNat 32 a := by
  have : IntKind.u32.bits = 32 := by decide
  show BitVec.ofInt 32 (a : Int) = _
  rw [BitVec.ofInt_natCast]
theorem u32_or {a b : Nat} (ha : a < 2 ^ 32) (hb : b < 2 ^ 32) : Go.bits .or .u32 (a : Int) (b : Int) = ((a ||| b : Nat) : Int) := by
  unfold Go.bits
  rw [u32_ofNat, u32_ofNat]
  show IntKind.u32.wrap ((BitVec.ofNat 32 a ||| BitVec.ofNat 32 b).toNat : Int) = _
  rw [BitVec.toNat_or, BitVec.toNat_ofNat, BitVec.toNat_ofNat, Nat.mod_eq_of_lt ha, Nat.mod_eq_of_lt hb, u32_wrap _ (Nat.or_lt_two_pow ha hb)]
theorem u32_and {a b : Nat} (ha : a < 2 ^ 32) (hb : b < 2 ^ 32) : Go.bits .and .u32 (a : Int) (b : Int) = ((a &&& b : Nat) : Int) := by
  unfold Go.bits
  rw [u32_ofNat, u32_ofNat]
  show IntKind.u32.wrap ((BitVec.ofNat 32 a &&& BitVec.ofNat 32 b).toNat : Int) = _
  rw [BitVec.toNat_and, BitVec.toNat_ofNat, BitVec.toNat_ofNat, Nat.mod_eq_of_lt ha, Nat.mod_eq_of_lt hb, u32_wrap _ (Nat.and_lt_two_pow _ hb)]
/-- a without the bits of b. -/
def bnot (a b : Nat) : Nat := a &&& (2 ^ 32 - (b + 1))
theorem u32_andNot {a b : Nat} (ha : a < 2 ^ 32) (hb : b < 2 ^ 32) : Go.bits .andNot .u32 (a : Int) (b : Int) = ((bnot a b : Nat) : Int) := by
  unfold Go.bits
  rw [u32_ofNat, u32_ofNat]
  show IntKind.u32.wrap ((BitVec.ofNat 32 a &&& ~~~ BitVec.ofNat 32 b).toNat : Int) = _
  rw [BitVec.toNat_and, BitVec.toNat_not, BitVec.toNat_ofNat, BitVec.toNat_ofNat, Nat.mod_eq_of_lt ha, Nat.mod_eq_of_lt hb]
  have e : 2 ^ 32 - 1 - b = 2 ^ 32 - (b + 1) := by omega
  rw [e]
  exact u32_wrap _ (Nat.and_lt_two_pow _ (by omega))
theorem bnot_bit {a b : Nat} (hb : b < 2 ^ 32) (ha : a < 2 ^ 32) (k : Nat) : (bnot a b).testBit k = (a.testBit k && !b.testBit k) := by
  unfold bnot
  rw [Nat.testBit_and, Nat.testBit_two_pow_sub_succ hb]
  by_cases hk : k < 32
  · simp [hk]
  · have : a.testBit k = false := Nat.testBit_lt_two_pow (Nat.lt_of_lt_of_le ha (Nat.pow_le_pow_right (by decide) (Nat.le_of_not_lt hk)))
    simp [this]
theorem bnot_lt {a b : Nat} (ha : a < 2 ^ 32) : bnot a b < 2 ^ 32 := Nat.lt_of_le_of_lt Nat.and_le_left ha
/-- 'x>>k&1' -/
theorem u32_bit {a : Nat} (ha : a < 2 ^ 32) (k : Nat) : Go.bits .and .u32 ((a : Int) / 2 ^ k) 1 = (((a.testBit k).toNat : Nat) : Int) := by
  have e : ((a : Int) / 2 ^ k) = ((a / 2 ^ k : Nat) : Int) := by simp
  rw [e]
  have h := u32_and (a := a / 2 ^ k) (b := 1) (Nat.lt_of_le_of_lt (Nat.div_le_self _ _) ha) (by decide)
  rw [show ((1 : Nat) : Int) = 1 from rfl] at h
  rw [h, Nat.and_one_is_mod, Nat.testBit_eq_decide_div_mod_eq]
  rcases Nat.mod_two_eq_zero_or_one (a / 2 ^ k) with h0 | h0 <;> simp [h0]
end Go.Proofs.YtnogalajfccioaaDoor
