/- Plain words: sets of ports, as numbers. No program in sight. Condition: the numbers are below 2^32. -/
import Derived.Laws.BitsAllLaws
namespace Go.Proofs.Ytclnginkplhlhaa

/-- is it a port? -/
def isPort (p : Int) : Bool := decide (1 ≤ p) && decide (p ≤ 16)
/-- its place among the bits -/
def plc (p : Int) : Nat := (p - 1).toNat
theorem plc_toNat (p : Int) : plc p = (p - 1).toNat := rfl
/-- a port's bit; 0: it is none -/
def bitN (p : Int) : Nat := if isPort p then 2 ^ plc p else 0
/-- has a set a port? -/
def hasB (s : Nat) (p : Int) : Bool := isPort p && s.testBit (plc p)
def withP (s : Nat) (p : Int) : Nat := s ||| bitN p
def woutP (s : Nat) (p : Int) : Nat := s &&& (4294967295 - bitN p)
/-- how many of the first n ports -/
def cntN (s : Nat) : Nat → Nat
  | 0 => 0
  | n + 1 => cntN s n + (hasB s ((n : Int) + 1)).toNat
def inP (s t : Nat) : Bool := (s % 65536) &&& (4294967295 - t) == 0
theorem isPort_yes {p : Int} (h : isPort p = true) : 1 ≤ p ∧ p ≤ 16 := by simpa [isPort] using h
theorem isPort_no {p : Int} (h : isPort p = false) : p < 1 ∨ 16 < p := by
  simp [isPort] at h
  omega
theorem bitN_lt (p : Int) : bitN p < 65536 := by
  unfold bitN
  split
  · rename_i h
    have := isPort_yes h
    have : 2 ^ plc p ≤ 2 ^ 15 := Nat.pow_le_pow_right (by omega) (by rw [plc_toNat]; omega)
    omega
  · omega
theorem bitN_test (p : Int) (i : Nat) : (bitN p).testBit i = (isPort p && decide (plc p = i)) := by
  unfold bitN
  cases h : isPort p
  · simp
  · simp [Nat.testBit_two_pow]
theorem and_bitN (s : Nat) (p : Int) : (s &&& bitN p != 0) = hasB s p := by
  unfold hasB
  cases h : isPort p
  · simp [bitN, h]
  · simp only [Bool.true_and]
    cases ht : s.testBit (plc p)
    · have e : s &&& bitN p = 0 := by
        apply Nat.eq_of_testBit_eq
        intro i
        rw [Nat.testBit_and, bitN_test, h, Nat.zero_testBit]
        by_cases hi : plc p = i
        · subst hi; simp [ht]
        · simp [hi]
      simp [e]
    · have e : s &&& bitN p ≠ 0 := by
        intro e
        have := congrArg (fun n => n.testBit (plc p)) e
        simp [Nat.testBit_and, bitN_test, h, ht] at this
      simp [e]
theorem withP_lt (s : Nat) (p : Int) (h : s < 4294967296) : withP s p < 4294967296 := Nat.or_lt_two_pow (n := 32) h (by have := bitN_lt p; omega)
theorem woutP_lt (s : Nat) (p : Int) (h : s < 4294967296) : woutP s p < 4294967296 := Nat.lt_of_le_of_lt Nat.and_le_left h
theorem hasB_with (s : Nat) (p q : Int) : hasB (withP s p) q = (hasB s q || (decide (q = p) && isPort p)) := by
  unfold hasB withP
  rw [Nat.testBit_or, bitN_test]
  cases hq : isPort q
  · by_cases e : q = p
    · subst e; simp [hq]
    · simp [e]
  · cases hp : isPort p
    · simp
    · have h1 := isPort_yes hq
      have h2 := isPort_yes hp
      by_cases e : q = p
      · subst e; simp
      · have : ¬ plc p = plc q := by rw [plc_toNat, plc_toNat]; omega
        simp [e, this]
theorem hasB_wout (s : Nat) (p q : Int) (_h : s < 4294967296) : hasB (woutP s p) q = (hasB s q && decide (q ≠ p)) := by
  unfold hasB woutP
  have hb := bitN_lt p
  rw [Nat.testBit_and, show 4294967295 - bitN p = 2 ^ 32 - (bitN p + 1) by omega, Nat.testBit_two_pow_sub_succ (by omega), bitN_test]
  cases hq : isPort q
  · simp
  · have h1 := isPort_yes hq
    cases hp : isPort p
    · have : q ≠ p := fun e => by subst e; rw [hq] at hp; cases hp
      have h32 : plc q < 32 := by rw [plc_toNat]; omega
      simp [this, h32]
    · have h2 := isPort_yes hp
      by_cases e : q = p
      · subst e; simp
      · have : ¬ plc p = plc q := by rw [plc_toNat, plc_toNat]; omega
        have h32 : plc q < 32 := by rw [plc_toNat]; omega
        simp [e, this, h32]
/-- is it within: each of its ports is one of the other's -/
theorem inP_iff (s t : Nat) (ht : t < 4294967296) : inP s t = decide (∀ n : Nat, n < 16 → hasB s ((n : Int) + 1) = true → hasB t ((n : Int) + 1) = true) := by
  have hx : ∀ n : Nat, n < 16 → isPort ((n : Int) + 1) = true := fun n hn => by simp [isPort]; omega
  rw [Bool.eq_iff_iff, decide_eq_true_iff, inP, beq_iff_eq]
  constructor
  · intro h n hn hs
    unfold hasB at hs ⊢
    rw [hx n hn, Bool.true_and] at hs ⊢
    have e : plc ((n : Int) + 1) = n := by rw [plc_toNat]; omega
    rw [e] at hs ⊢
    have h1 := congrArg (fun m => m.testBit n) h
    simp only [Nat.testBit_and, Nat.zero_testBit] at h1
    rw [show (65536 : Nat) = 2 ^ 16 from rfl, Nat.testBit_mod_two_pow, show 4294967295 - t = 2 ^ 32 - (t + 1) by omega, Nat.testBit_two_pow_sub_succ ht] at h1
    simp [hn, hs, show n < 32 by omega] at h1
    exact h1
  · intro h
    apply Nat.eq_of_testBit_eq
    intro n
    rw [Nat.testBit_and, Nat.zero_testBit, show (65536 : Nat) = 2 ^ 16 from rfl, Nat.testBit_mod_two_pow, show 4294967295 - t = 2 ^ 32 - (t + 1) by omega, Nat.testBit_two_pow_sub_succ ht]
    by_cases hn : n < 16
    · have h1 := h n hn
      unfold hasB at h1
      rw [hx n hn, Bool.true_and, Bool.true_and, show plc ((n : Int) + 1) = n by rw [plc_toNat]; omega] at h1
      cases hs : s.testBit n
      · simp
      · simp [h1 hs]
    · simp [hn]
/-- how many of a number's first bits are 1 -/
def pop (n : Nat) : Nat → Nat
  | 0 => 0
  | k + 1 => pop n k + (n.testBit k).toNat
theorem pop_le_k (n k : Nat) : pop n k ≤ k := by
  induction k with
  | zero => exact Nat.le_refl _
  | succ k ih =>
    have : (n.testBit k).toNat ≤ 1 := Bool.toNat_le _
    show pop n k + _ ≤ k + 1
    omega
theorem pop_le (n : Nat) : pop n 8 ≤ 8 := pop_le_k n 8
theorem pop_tab (T : ByteArray) (hT : T.data.toList = (List.range 256).map (fun k => UInt8.ofNat (pop k 8))) (k : Nat) (_hk : k < 256) (h : k < T.size := by assumption) : T[k].toNat = pop k 8 := by
  have e : T[k] = T.data.toList[k]'(by simpa using h) := by simp [ByteArray.getElem_eq_getElem_data]
  rw [e]
  simp only [hT, List.getElem_map, List.getElem_range]
  have := pop_le k
  simp
  omega
theorem cntN_pop (s : Nat) (n : Nat) (h : n ≤ 16) : cntN s n = pop s n := by
  induction n with
  | zero => rfl
  | succ n ih =>
    have e : hasB s ((n : Int) + 1) = s.testBit n := by
      have h1 : isPort ((n : Int) + 1) = true := by simp [isPort]; omega
      have h2 : plc ((n : Int) + 1) = n := by rw [plc_toNat]; omega
      rw [hasB, h1, h2, Bool.true_and]
    rw [cntN, pop, ih (by omega), e]
theorem pop_two (a b : Nat) (hb : b < 256) (k : Nat) : pop (256 * a + b) (8 + k) = pop a k + pop b 8 := by
  induction k with
  | zero =>
    have h : ∀ j, j ≤ 8 → pop (256 * a + b) j = pop b j := by
      intro j
      induction j with
      | zero => intro _; rfl
      | succ j ih =>
        intro hj
        rw [pop, pop, ih (by omega), show (256 : Nat) = 2 ^ 8 from rfl, Nat.testBit_two_pow_mul_add (i := 8) a (b := b) (by omega) j, if_pos (by omega)]
    rw [Nat.add_zero, h 8 (by omega)]
    simp [pop]
  | succ k ih =>
    rw [show 8 + (k + 1) = 8 + k + 1 by omega, pop, ih, show pop a (k + 1) = pop a k + (a.testBit k).toNat from rfl, show (256 : Nat) = 2 ^ 8 from rfl, Nat.testBit_two_pow_mul_add (i := 8) a (b := b) (by omega) (8 + k), if_neg (by omega), show 8 + k - 8 = k by omega]
    omega
theorem cntN_two (s : Nat) : cntN s 16 = pop (s % 65536 / 256) 8 + pop (s % 256) 8 := by
  have h : ∀ n, n ≤ 16 → pop s n = pop (s % 65536) n := by
    intro n
    induction n with
    | zero => intro _; rfl
    | succ n ih =>
      intro hn
      rw [pop, pop, ih (by omega), show (65536 : Nat) = 2 ^ 16 from rfl, Nat.testBit_mod_two_pow, decide_eq_true (by omega : n < 16), Bool.true_and]
  rw [cntN_pop s 16 (by omega), h 16 (by omega), show s % 65536 = 256 * (s % 65536 / 256) + s % 256 by omega, show 16 = 8 + 8 from rfl, pop_two _ _ (by omega)]
  congr 2 <;> omega
end Go.Proofs.Ytclnginkplhlhaa
