/- Plain law: bits that are turned within 32 in a row, of a text and its sum behind it, are found. No program in sight. No condition. -/
import Derived.Test.YtclnginkplhlhaaPlainCrc
namespace Go.Proofs.Ytclnginkplhlhaa

theorem crcStep_xor (x y : Nat) : crcStep (x ^^^ y) = crcStep x ^^^ crcStep y := by
  have h2 : (x ^^^ y) / 2 = x / 2 ^^^ y / 2 := Nat.xor_div_two
  have hp : (x ^^^ y) % 2 = 1 ↔ ¬ (x % 2 = 1 ↔ y % 2 = 1) := Nat.xor_mod_two_eq_one
  unfold crcStep
  rw [h2]
  by_cases hx : x % 2 = 1
  · by_cases hy : y % 2 = 1
    · rw [if_neg (by rw [hp]; simp [hx, hy]), if_pos hx, if_pos hy]
      rw [Nat.xor_assoc, Nat.xor_comm 3988292384 (y / 2 ^^^ 3988292384), Nat.xor_assoc, Nat.xor_self, Nat.xor_zero]
    · rw [if_pos (by rw [hp]; simp [hx, hy]), if_pos hx, if_neg hy, Nat.xor_assoc, Nat.xor_assoc, Nat.xor_comm 3988292384]
  · by_cases hy : y % 2 = 1
    · rw [if_pos (by rw [hp]; simp [hx, hy]), if_neg hx, if_pos hy, Nat.xor_assoc]
    · rw [if_neg (by rw [hp]; simp [hx, hy]), if_neg hx, if_neg hy]
theorem crcIt_xor (x y : Nat) : ∀ k, crcIt k (x ^^^ y) = crcIt k x ^^^ crcIt k y
  | 0 => rfl
  | k + 1 => by rw [crcIt, crcIt_xor x y k, crcStep_xor]; rfl
theorem crcIt_add (x a : Nat) : ∀ m, crcIt (m + a) x = crcIt m (crcIt a x)
  | 0 => by simp [crcIt]
  | m + 1 => by rw [Nat.add_right_comm, crcIt, crcIt_add x a m]; rfl
theorem crcStep_zero {x : Nat} (h : x < 4294967296) (h0 : crcStep x = 0) : x = 0 := by
  unfold crcStep at h0
  split at h0
  · have h1 : x / 2 = 3988292384 := by
      have e : (x / 2 ^^^ 3988292384) ^^^ 3988292384 = x / 2 := by rw [Nat.xor_assoc, Nat.xor_self, Nat.xor_zero]
      rw [← e, h0, Nat.zero_xor]
    omega
  · omega
theorem crcIt_zero {x : Nat} (h : x < 4294967296) : ∀ k, crcIt k x = 0 → x = 0
  | 0, h0 => h0
  | k + 1, h0 => crcIt_zero h k (crcStep_zero (crcIt_lt h k) h0)
theorem crcIt_shift (y : Nat) : ∀ k, crcIt k (2 ^ k * y) = y
  | 0 => by simp [crcIt]
  | k + 1 => by
    rw [crcIt, Nat.pow_succ, Nat.mul_assoc, crcIt_shift (2 * y) k, crcStep, if_neg (by omega)]
    omega
theorem low_xor (q m : Nat) (h : m < 256) : 256 * q + m = 256 * q ^^^ m := by
  apply Nat.eq_of_testBit_eq
  intro i
  rw [Nat.testBit_xor, show 256 = 2 ^ 8 from rfl, Nat.testBit_two_pow_mul_add _ h, Nat.testBit_two_pow_mul]
  by_cases hi : i < 8
  · simp [hi, Nat.not_le.2 hi]
  · have : m.testBit i = false := Nat.testBit_lt_two_pow (Nat.lt_of_lt_of_le h (show 2 ^ 8 ≤ 2 ^ i from Nat.pow_le_pow_right (by omega) (Nat.le_of_not_lt hi)))
    simp [hi, Nat.le_of_not_lt hi, this]
theorem crcUpd_eq (r : Nat) (b : UInt8) : crcUpd r b = crcIt 8 (r ^^^ b.toNat) := by
  have hb := b.toNat_lt
  have hm : (r % 256) ^^^ b.toNat < 256 := xor_lt8 (by omega) hb
  have e : r ^^^ b.toNat = 2 ^ 8 * (r / 256) ^^^ ((r % 256) ^^^ b.toNat) := by
    rw [← Nat.xor_assoc, show 2 ^ 8 * (r / 256) = 256 * (r / 256) from rfl, ← low_xor (r / 256) (r % 256) (by omega), Nat.div_add_mod]
  rw [e, crcIt_xor, crcIt_shift]
  rfl
/-- a text as a number, its first byte the lowest -/
def leVal : List UInt8 → Nat
  | [] => 0
  | b :: l => 256 * leVal l + b.toNat
theorem reg_eq : ∀ (l : List UInt8) (r : Nat), l.foldl crcUpd r = crcIt (8 * l.length) (leVal l ^^^ r)
  | [], r => by simp [leVal, crcIt]
  | b :: l, r => by
    rw [List.foldl_cons, reg_eq l, crcUpd_eq, leVal, low_xor _ _ b.toNat_lt, List.length_cons, show 8 * (l.length + 1) = 8 * l.length + 8 by omega, crcIt_add]
    rw [Nat.xor_assoc, show 256 * leVal l = 2 ^ 8 * leVal l from rfl, crcIt_xor (2 ^ 8 * leVal l), crcIt_shift, Nat.xor_comm r]
theorem leVal_inj : ∀ (l m : List UInt8), l.length = m.length → leVal l = leVal m → l = m
  | [], [], _, _ => rfl
  | b :: l, c :: m, hl, h => by
    have hb := b.toNat_lt
    have hc := c.toNat_lt
    simp only [leVal] at h
    have h1 : b.toNat = c.toNat := by omega
    have h2 : leVal l = leVal m := by omega
    rw [UInt8.toNat_inj.1 h1, leVal_inj l m (by simpa using hl) h2]
  | [], _ :: _, hl, _ => by simp at hl
  | _ :: _, [], hl, _ => by simp at hl
theorem leVal_turn1 : ∀ (l : List UInt8) (p : Nat), p / 8 < l.length → leVal (turn1 l p) = leVal l ^^^ 2 ^ p
  | [], p, h => by simp at h
  | b :: l, p, h => by
    have hb := b.toNat_lt
    by_cases hp : p < 8
    · have e1 : p / 8 = 0 := by omega
      have e2 : p % 8 = p := by omega
      have h28 : 2 ^ p < 256 := by
        have : 2 ^ p ≤ 2 ^ 7 := Nat.pow_le_pow_right (by omega) (by omega)
        omega
      unfold turn1
      rw [e1, e2]
      simp only [List.set_cons_zero, List.getD_cons_zero, leVal]
      rw [UInt8.toNat_xor, UInt8.toNat_ofNat', Nat.mod_eq_of_lt h28, low_xor _ _ (xor_lt8 hb h28), low_xor _ _ hb, Nat.xor_assoc]
    · obtain ⟨q, rfl⟩ : ∃ q, p = q + 8 := ⟨p - 8, by omega⟩
      have e1 : (q + 8) / 8 = q / 8 + 1 := by omega
      have e2 : (q + 8) % 8 = q % 8 := by omega
      have ih := leVal_turn1 l q (by simp at h; omega)
      unfold turn1 at ih ⊢
      rw [e1, e2]
      simp only [List.set_cons_succ, List.getD_cons_succ, leVal]
      rw [ih, low_xor _ _ hb, low_xor _ _ hb, Nat.pow_add, show 256 * (leVal l ^^^ 2 ^ q) = 256 * leVal l ^^^ 2 ^ q * 2 ^ 8 by
        rw [show 256 = 2 ^ 8 from rfl, Nat.mul_comm, Nat.mul_comm (2 ^ 8), ← Nat.shiftLeft_eq, ← Nat.shiftLeft_eq, ← Nat.shiftLeft_eq, Nat.shiftLeft_xor_distrib]]
      rw [Nat.xor_assoc, Nat.xor_assoc, Nat.xor_comm (2 ^ q * 2 ^ 8)]
theorem turnU_val (l : List UInt8) (a B : Nat) : ∀ k, ∃ y, y < 2 ^ k ∧ leVal (turnU l a B k) = leVal l ^^^ 2 ^ a * y ∧ (8 * l.length ≤ a → y = 0)
  | 0 => ⟨0, by simp, by simp [turnU], fun _ => rfl⟩
  | k + 1 => by
    obtain ⟨y, hy, he, h0⟩ := turnU_val l a B k
    have hy' : y < 2 ^ (k + 1) := by rw [Nat.pow_succ]; omega
    rw [turnU]
    split
    · by_cases ho : (a + k) / 8 < l.length
      · refine ⟨y ^^^ 2 ^ k, ?_, ?_, fun h => by omega⟩
        · exact Nat.xor_lt_two_pow hy' (by rw [Nat.pow_succ]; have := Nat.two_pow_pos k; omega)
        · rw [leVal_turn1 _ _ (by rw [turnU_length]; exact ho), he, Nat.xor_assoc, Nat.pow_add]
          rw [show 2 ^ a * (y ^^^ 2 ^ k) = 2 ^ a * y ^^^ 2 ^ a * 2 ^ k by
            rw [Nat.mul_comm, Nat.mul_comm (2 ^ a), Nat.mul_comm (2 ^ a), ← Nat.shiftLeft_eq, ← Nat.shiftLeft_eq, ← Nat.shiftLeft_eq, Nat.shiftLeft_xor_distrib]]
      · rw [turn1_out _ _ (by rw [turnU_length]; omega)]
        exact ⟨y, hy', he, h0⟩
    · exact ⟨y, hy', he, h0⟩
/-- two texts of one length whose registers are the same, the one turned out of the other: they are the same -/
theorem burst (l : List UInt8) (a B : Int) (h : crcReg (turnV l a B) = crcReg l) : turnV l a B = l := by
  unfold turnV at h ⊢
  by_cases ha : a < 0 ∨ 1073741824 < a
  · rw [if_pos ha]
  · rw [if_neg ha] at h ⊢
    obtain ⟨y, hy, he, h0⟩ := turnU_val l a.toNat B.toNat 32
    have hy0 : y = 0 := by
      by_cases hl : 8 * l.length ≤ a.toNat
      · exact h0 hl
      · have h1 : crcReg (turnU l a.toNat B.toNat 32) ^^^ crcReg l = 0 := by rw [h, Nat.xor_self]
        unfold crcReg at h1
        rw [reg_eq, reg_eq, turnU_length, ← crcIt_xor, he, Nat.xor_comm (leVal l) 4294967295, ← Nat.xor_assoc, Nat.xor_assoc _ 4294967295 4294967295, Nat.xor_self, Nat.xor_zero,
          Nat.xor_comm (leVal l), Nat.xor_assoc, Nat.xor_self, Nat.xor_zero] at h1
        rw [show 8 * l.length = (8 * l.length - a.toNat) + a.toNat by omega, crcIt_add, crcIt_shift] at h1
        exact crcIt_zero hy _ h1
    exact leVal_inj _ _ (turnU_length _ _ _ _) (by rw [he, hy0]; simp)

/-- a number's four bytes, the lowest first; and back -/
def le4 (n : Nat) : List UInt8 := [UInt8.ofNat (n % 256), UInt8.ofNat (n / 256 % 256), UInt8.ofNat (n / 65536 % 256), UInt8.ofNat (n / 16777216 % 256)]
theorem le4_val (n : Nat) (h : n < 4294967296) : leVal (le4 n) = n := by
  simp only [le4, leVal, UInt8.toNat_ofNat']
  omega
theorem reg_append (u v : List UInt8) : crcReg (u ++ v) = crcIt (8 * v.length) (leVal v ^^^ crcReg u) := by
  unfold crcReg
  rw [List.foldl_append, reg_eq v]
theorem reg_whole (u v : List UInt8) (hv : v.length = 4) (h : leVal v = crcSum u) : crcReg (u ++ v) = crcIt 32 4294967295 := by
  rw [reg_append, hv, h, crcSum, Nat.xor_comm (crcReg u), Nat.xor_assoc, Nat.xor_self, Nat.xor_zero]
/-- what is turned within 32 bits in a row, of a text and its sum, is found -/
theorem burst_found (l : List UInt8) (a B : Int) (t : List UInt8) (ht : t = turnV (l ++ le4 (crcSum l)) a B) (hne : t ≠ l ++ le4 (crcSum l)) :
    crcSum (t.take l.length) ≠ leVal (t.drop l.length) := by
  intro he
  have hlen : t.length = l.length + 4 := by rw [ht, turnV_length]; simp [le4]
  have h1 := reg_whole (t.take l.length) (t.drop l.length) (by simp; omega) he.symm
  rw [List.take_append_drop] at h1
  have h2 := reg_whole l (le4 (crcSum l)) rfl (le4_val _ (crcSum_lt l))
  rw [ht] at h1 hne
  exact hne (burst _ a B (h1.trans h2.symm))
end Go.Proofs.Ytclnginkplhlhaa
