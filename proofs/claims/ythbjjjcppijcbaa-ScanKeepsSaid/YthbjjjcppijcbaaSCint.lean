/- Contracts of scan: within, gathered. -/
import Derived.Test.YthbjjjcppijcbaaBK3int
import Derived.Test.YthbjjjcppijcbaaCM
import Derived.Test.YthbjjjcppijcbaaHC
import Derived.Laws.BitsAllLaws
namespace Go.Proofs.Ythbjjjcppijcbaa
open Go.RowKit Pal

theorem bit_within {a b : Nat} (hab : a ≤ b) (i : Nat) : (2 ^ b - 2 ^ a).testBit i = (decide (a ≤ i) && decide (i < b)) := by
  have e : 2 ^ b - 2 ^ a = 2 ^ a * (2 ^ (b - a) - 1) := by
    rw [Nat.mul_sub, ← pow_up hab]; omega
  rw [e, Nat.mul_comm, Nat.testBit_mul_two_pow, Nat.testBit_two_pow_sub_one]
  by_cases h : a ≤ i
  · by_cases h2 : i < b
    · have : i - a < b - a := by omega
      simp [h, h2, this]
    · have : ¬ i - a < b - a := by omega
      simp [h2, this]
  · simp [h]
theorem and_within {a b c : Nat} (hab : a ≤ b) : c &&& (2 ^ b - 2 ^ a) = c % 2 ^ b / 2 ^ a * 2 ^ a := by
  apply Nat.eq_of_testBit_eq
  intro i
  rw [Nat.testBit_and, bit_within hab, Nat.testBit_mul_two_pow, ← Nat.shiftRight_eq_div_pow, Nat.testBit_shiftRight, Nat.testBit_mod_two_pow]
  by_cases h : a ≤ i
  · rw [show a + (i - a) = i by omega]
    by_cases h2 : i < b <;> simp [h, h2]
  · simp [h]
theorem within_zero {a b c : Nat} (hab : a ≤ b) : (c &&& (2 ^ b - 2 ^ a) = 0) ↔ c % 2 ^ b < 2 ^ a := by
  rw [and_within hab]
  have h1 : 0 < 2 ^ a := Nat.one_le_two_pow
  constructor
  · intro h
    rcases Nat.mul_eq_zero.1 h with h | h
    · exact (Nat.div_eq_zero_iff_lt h1).1 h
    · omega
  · intro h
    rw [(Nat.div_eq_zero_iff_lt h1).2 h, Nat.zero_mul]
theorem andNot_mask {a b : Nat} (hab : a ≤ b) (hb : b ≤ 16) : bits BinOp.andNot IntKind.u32 ((2 ^ b - 1 : Nat) : Int) ((2 ^ a - 1 : Nat) : Int) = ((2 ^ b - 2 ^ a : Nat) : Int) := by
  have hp : (2 : Nat) ^ b ≤ 2 ^ 16 := pow_mono hb
  have hpa : (2 : Nat) ^ a ≤ 2 ^ b := pow_mono hab
  have h1 : 1 ≤ 2 ^ a := Nat.one_le_two_pow
  show IntKind.u32.wrap ((BitVec.ofInt 32 ((2 ^ b - 1 : Nat) : Int) &&& ~~~ BitVec.ofInt 32 ((2 ^ a - 1 : Nat) : Int)).toNat : Int) = _
  rw [BitVec.toNat_and, BitVec.toNat_not, ofInt_u32 _ (by omega), ofInt_u32 _ (by omega), IntKind.wrap_u32']
  have e : (2 ^ b - 1) &&& (2 ^ 32 - 1 - (2 ^ a - 1)) = 2 ^ b - 2 ^ a := by
    apply Nat.eq_of_testBit_eq
    intro i
    rw [Nat.testBit_and, Nat.testBit_two_pow_sub_one, bit_within hab]
    by_cases hi : i < 32
    · rw [show 2 ^ 32 - 1 - (2 ^ a - 1) = 4294967295 - (2 ^ a - 1) from rfl, bit_high a i (by omega) hi, Bool.and_comm]
    · have : ¬ i < b := by omega
      simp [this]
  rw [e]
  omega

theorem within_any (a b : Nat) (s g : Int) (w : World) (hab : a ≤ b) (hb : b ≤ 16) (hs : s = ((2 ^ a : Nat) : Int)) (hg : g = ((2 ^ b : Nat) : Int)) :
    Calls Try.prog 84 #[.int .i64 s, .int .i64 g] w fun e w' => e = .returned (.int .u32 ((2 ^ b - 2 ^ a : Nat) : Int)) ∧ w = w' := by
  have hp : (2 : Nat) ^ b ≤ 2 ^ 16 := pow_mono hb
  have hpa : (2 : Nat) ^ a ≤ 2 ^ b := pow_mono hab
  have h1 : 1 ≤ 2 ^ a := Nat.one_le_two_pow
  have s1 : 1 ≤ s := by omega
  have s2 : s ≤ 65536 := by omega
  have g1 : 1 ≤ g := by omega
  have g2 : g ≤ 65536 := by omega
  have hm := fun w => mask_any s w s1 s2
  have hm2 := fun w => mask_any g w g1 g2
  have H : Hid (bits BinOp.andNot IntKind.u32 (g - 1) (s - 1) = ((2 ^ b - 2 ^ a : Nat) : Int)) := by
    show _ = _
    have e1 : g - 1 = ((2 ^ b - 1 : Nat) : Int) := by omega
    have e2 : s - 1 = ((2 ^ a - 1 : Nat) : Int) := by omega
    rw [e1, e2]
    exact andNot_mask hab hb
  clear hs hg
  go_enter Try.func84, Try.ntmps84
  go_wp2_with fail
  refine (hm2 _).mono ?_
  rintro e w' ⟨rfl, rfl⟩
  go_wp2_with fail
  refine (hm _).mono ?_
  rintro e w' ⟨rfl, rfl⟩
  go_wp2_with fail
  go_ret
  exact ⟨by rw [← H.out]; rfl, rfl⟩

end Go.Proofs.Ythbjjjcppijcbaa
