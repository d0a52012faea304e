/- Plain law: a number with some of its bits set has just those set. No program in sight. Condition: the numbers are below 2^64. -/
import Derived.Test.YtngpfjmifaecjaaPlainWire
namespace Go.Proofs.Ytngpfjmifaecjaa

theorem fieldN_one (n i : Nat) : fieldN n i 1 = (n.testBit i).toNat := by
  rw [fieldN, Nat.toNat_testBit]
theorem withN_bit (n a k v i : Nat) (hi : i < 64) (hk : k + a ≤ 64) :
    (withN n a k v).testBit i = if a ≤ i ∧ i < a + k then v.testBit (i - a) else n.testBit i := by
  have hka : 2 ^ k * 2 ^ a ≤ 2 ^ 64 := by rw [← Nat.pow_add]; exact Nat.pow_le_pow_right (by omega) (by omega)
  have ha : 1 ≤ 2 ^ a := Nat.one_le_two_pow
  have hk1 : 1 ≤ 2 ^ k := Nat.one_le_two_pow
  have hm1 : (2 ^ k - 1) * 2 ^ a + 2 ^ a = 2 ^ k * 2 ^ a := by rw [← Nat.succ_mul, Nat.succ_eq_add_one, Nat.sub_add_cancel hk1]
  have hx : (2 ^ k - 1) * 2 ^ a < 2 ^ 64 := by omega
  have e : 18446744073709551615 - (2 ^ k - 1) * 2 ^ a = 2 ^ 64 - ((2 ^ k - 1) * 2 ^ a + 1) := by omega
  rw [withN, Nat.testBit_or, Nat.testBit_and, e, Nat.testBit_two_pow_sub_succ hx, Nat.testBit_mul_two_pow, Nat.testBit_mul_two_pow, Nat.testBit_mod_two_pow, Nat.testBit_two_pow_sub_one]
  by_cases h1 : a ≤ i
  · by_cases h2 : i < a + k
    · have h3 : i - a < k := by omega
      simp [h1, h2, h3, hi]
    · have h3 : ¬ i - a < k := by omega
      simp [h1, h2, h3, hi]
  · simp [h1, hi]
theorem withN_lt (n a k v : Nat) (hn : n < 2 ^ 64) (hk : k + a ≤ 64) : withN n a k v < 2 ^ 64 := by
  have hka : 2 ^ k * 2 ^ a ≤ 2 ^ 64 := by rw [← Nat.pow_add]; exact Nat.pow_le_pow_right (by omega) (by omega)
  have ha : 1 ≤ 2 ^ a := Nat.one_le_two_pow
  have hmv : v % 2 ^ k < 2 ^ k := Nat.mod_lt _ (Nat.two_pow_pos _)
  have h2 : v % 2 ^ k * 2 ^ a < 2 ^ 64 := Nat.lt_of_lt_of_le (Nat.mul_lt_mul_of_pos_right hmv (by omega)) hka
  exact Nat.or_lt_two_pow (Nat.lt_of_le_of_lt Nat.and_le_left hn) h2
theorem withV_ge (n a k v : Int) (h0 : 0 ≤ n) : 0 ≤ withV n a k v := by unfold withV; split <;> omega
theorem withV_le (n a k v : Int) (h0 : 0 ≤ n) (hn : n ≤ 18446744073709551615) : withV n a k v ≤ 18446744073709551615 := by
  unfold withV
  cases h : isField a k
  · simpa using hn
  · have hf := isField_yes h
    have := withN_lt n.toNat a.toNat k.toNat v.toNat (by omega) (by omega)
    rw [if_pos rfl]
    omega
theorem with_one (n a k v i : Int) (h : isField a k = true) (h0 : 0 ≤ i) (h1 : i < 64) :
    fieldV (withV n a k v) i 1 = if a ≤ i ∧ i < a + k then fieldV v (i - a) 1 else fieldV n i 1 := by
  have hf := isField_yes h
  have e1 : isField i 1 = true := by simp [isField]; omega
  rw [fieldV, e1, if_pos rfl, withV, h, if_pos rfl, Int.toNat_natCast, show (1 : Int).toNat = 1 from rfl, fieldN_one, withN_bit _ _ _ _ _ (by omega) (by omega)]
  by_cases h2 : a ≤ i ∧ i < a + k
  · rw [if_pos (by omega), if_pos h2, fieldV, show isField (i - a) 1 = true by simp [isField]; omega, if_pos rfl, show (1 : Int).toNat = 1 from rfl, fieldN_one, show (i - a).toNat = i.toNat - a.toNat by omega]
  · rw [if_neg (by omega), if_neg h2, fieldV, e1, if_pos rfl, show (1 : Int).toNat = 1 from rfl, fieldN_one]
end Go.Proofs.Ytngpfjmifaecjaa
