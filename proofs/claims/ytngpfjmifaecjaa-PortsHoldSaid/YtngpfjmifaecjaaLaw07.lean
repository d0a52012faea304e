/- The walks of layer 7's statements: a set of any numbers, the document's letter, three ports. Condition: the numbers are below 2^32. -/
import Derived.Test.YtngpfjmifaecjaaPorts
import Derived.Test.YtngpfjmifaecjaaRowKt
namespace Go.Proofs.Ytngpfjmifaecjaa
open Go.RowKit

/-- the set of some numbers -/
def ofN : List Int → Nat → Nat
  | _, 0 => 0
  | zs, k + 1 => withP (ofN zs k) (zs.getD k 0)
theorem ofN_lt (zs : List Int) (k : Nat) : ofN zs k < 4294967296 := by
  induction k with
  | zero => show 0 < _; omega
  | succ k ih => exact withP_lt _ _ ih
theorem of_calls (zs : List Int) (n cap : Nat) (a : Option Addr) (w : World) (hm : n ≤ maxLen) (hc : n = 0 ∨ ∃ b off, a = some ⟨b, off, none⟩ ∧ IntsAt .i64 w b off n zs) :
    Calls Try.prog 20 #[.slice a n cap] w fun e w' => e = .returned (.int .u32 ((ofN zs n : Nat) : Int)) ∧ w = w' := by
  have hm' : n ≤ 9223372036854775807 := by unfold maxLen at hm; omega
  have HC := Lib.hid hc
  clear hm hc
  go_enter Try.func20, Try.ntmps20
  go_wp2
  go_loop [3, 8] (fun s i => ∃ k : Nat, k ≤ n ∧ i = .int .i64 k ∧ s = .int .u32 ((ofN zs k : Nat) : Int)) (fun _ i => n - (intOf i).toNat)
  case atStart => exact ⟨0, Nat.zero_le _, rfl, rfl⟩
  case round =>
    obtain ⟨k, hk, rfl, rfl⟩ := hrel
    have hlt := ofN_lt zs k
    by_cases hkn : k < n
    · obtain ⟨b, off, rfl, i0⟩ : ∃ b off, a = some ⟨b, off, none⟩ ∧ IntsAt .i64 w b off n zs := by
        rcases HC.out with h | h
        · omega
        · exact h
      have hx := i0 k hkn
      have hw := with_calls (ofN zs k) (zs.getD k 0) w hlt
      rw [show withP (ofN zs k) (zs.getD k 0) = ofN zs (k + 1) from rfl] at hw
      have HW := Lib.hid hw
      clear hw
      generalize zs.getD k 0 = x at *
      generalize ofN zs k = y at *
      go_wp2_with fail
      refine HW.out.mono ?_
      rintro e w1 ⟨rfl, rfl⟩
      go_wp2_with fail
      exact ⟨⟨k + 1, by omega, by go_num, rfl⟩, by simp [intOf]; omega⟩
    · obtain rfl : k = n := by omega
      go_wp2
      go_ret
      exact ⟨rfl, rfl⟩
theorem hasR_calls (s : Nat) (p : Int) (w : World) (hs : s < 4294967296) (hp : -9223372036854775808 ≤ p ∧ p ≤ 9223372036854775807) : Calls Try.prog 14 #[.int .u32 (s : Int), .int .i64 p] w fun e w' => e = .returned (.bool (hasB s p)) ∧ w = w' := by
  by_cases h1 : p < 1
  · have h0 : hasB s p = false := by rw [hasB, show isPort p = false by simp [isPort]; omega]; rfl
    rw [h0]
    go_enter Try.func14, Try.ntmps14
    go_wp2
    go_ret
    exact ⟨rfl, rfl⟩
  by_cases h2 : 16 < p
  · have h0 : hasB s p = false := by rw [hasB, show isPort p = false by simp [isPort]; omega]; rfl
    rw [h0]
    go_enter Try.func14, Try.ntmps14
    go_wp2
    go_ret
    exact ⟨rfl, rfl⟩
  · have h0 : hasB s p = s.testBit (p.toNat - 1) := by
      rw [hasB, show isPort p = true by simp [isPort]; omega, plc_toNat, show (p - 1).toNat = p.toNat - 1 by omega, Bool.true_and]
    have H0 := Lib.hid h0
    clear h0
    obtain ⟨m, hm⟩ : ∃ m : Nat, p = (m : Int) := ⟨p.toNat, by omega⟩
    subst hm
    go_enter Try.func14, Try.ntmps14
    go_wp2
    go_loop [0, 5] (fun x i => ∃ k : Nat, k < m ∧ i = .int .i64 ((k : Int) + 1) ∧ x = .int .u32 ((s / 2 ^ k : Nat) : Int)) (fun _ i => m - (intOf i).toNat)
    case atStart => exact ⟨0, by omega, rfl, by simp⟩
    case round =>
      obtain ⟨k, hk, rfl, rfl⟩ := hrel
      have hx : s / 2 ^ k < 4294967296 := Nat.lt_of_le_of_lt (Nat.div_le_self _ _) hs
      have hd : s / 2 ^ k / 2 = s / 2 ^ (k + 1) := by rw [Nat.div_div_eq_div_mul, ← Nat.pow_succ]
      have HD := Lib.hid hd
      clear hd
      by_cases hkm : k + 1 < m
      · generalize s / 2 ^ k = x at *
        go_wp2
        refine ⟨⟨k + 1, by omega, by go_num, ?_⟩, by simp [intOf]; omega⟩
        rw [← HD.out]
        rfl
      · have ht := H0.out
        rw [show (m : Int).toNat - 1 = k by simp; omega, Nat.testBit_eq_decide_div_mod_eq] at ht
        have HT := Lib.hid ht
        clear ht
        generalize s / 2 ^ k = x at *
        go_wp2
        go_ret
        refine ⟨?_, rfl⟩
        show Ending.returned (.bool _) = _
        rw [HT.out]
        congr 2
        rw [Bool.eq_iff_iff]
        simp
        omega
end Go.Proofs.Ytngpfjmifaecjaa
