/- The walk of ports.Of. Condition: the slice's length is one. -/
import Derived.Test.YtclnginkplhlhaaPorts
import Derived.Test.YtclnginkplhlhaaRowKt
namespace Go.Proofs.Ytclnginkplhlhaa
open Go.RowKit


/-- the set of some numbers -/
def ofN : List Int → Nat → Nat
  | _, 0 => 0
  | zs, k + 1 => withP (ofN zs k) (zs.getD k 0)
theorem ofN_lt (zs : List Int) (k : Nat) : ofN zs k < 4294967296 := by
  induction k with
  | zero => show 0 < _; omega
  | succ k ih => exact withP_lt _ _ ih
theorem of_calls (zs : List Int) (n cap : Nat) (a : Option Addr) (w : World) (hm : n ≤ maxLen) (hc : n = 0 ∨ ∃ b off, a = some ⟨b, off, none⟩ ∧ IntsAt .i64 w b off n zs) :
    Calls Try.prog 33 #[.slice a n cap] w fun e w' => e = .returned (.int .u32 ((ofN zs n : Nat) : Int)) ∧ w = w' := by
  have hm' : n ≤ 9223372036854775807 := by unfold maxLen at hm; omega
  have HC := Lib.hid hc
  clear hm hc
  go_enter Try.func33, Try.ntmps33
  go_wp2
  go_loop [3, 8] (fun s i => ∃ k : Nat, k ≤ n ∧ i = .int .i64 k ∧ s = .int .u32 ((ofN zs k : Nat) : Int)) (fun _ i => n - (intOf i).toNat)
  case atStart => exact ⟨0, Nat.zero_le _, rfl, rfl⟩
  case round =>
    obtain ⟨k, hk, rfl, rfl⟩ := hrel
    have hlt := ofN_lt zs k
    by_cases hkn : k < n
    · obtain ⟨b, off, rfl, i0⟩ : ∃ b off, a = some ⟨b, off, none⟩ ∧ IntsAt .i64 w b off n zs := by
        rcases HC.out with h | h
        · omega
        · exact h
      have hx := i0 k hkn
      have hw := pwith_calls (ofN zs k) (zs.getD k 0) w hlt
      rw [show withP (ofN zs k) (zs.getD k 0) = ofN zs (k + 1) from rfl] at hw
      have HW := Lib.hid hw
      clear hw
      generalize zs.getD k 0 = x at *
      generalize ofN zs k = y at *
      go_wp2_with fail
      refine HW.out.mono ?_
      rintro e w1 ⟨rfl, rfl⟩
      go_wp2_with fail
      exact ⟨⟨k + 1, by omega, by go_num, rfl⟩, by simp [intOf]; omega⟩
    · obtain rfl : k = n := by omega
      go_wp2
      go_ret
      exact ⟨rfl, rfl⟩
end Go.Proofs.Ytclnginkplhlhaa
