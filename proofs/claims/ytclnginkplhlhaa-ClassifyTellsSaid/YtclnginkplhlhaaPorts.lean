/- The walks of package ports (sets of ports as numbers). Condition: the numbers are below 2^32. -/
import Derived.Test.YtclnginkplhlhaaKt
import Derived.Test.YtclnginkplhlhaaPlainPorts
namespace Go.Proofs.Ytclnginkplhlhaa
open Go.RowKit

theorem int_bne (n : Nat) : ((n : Int) != 0) = (n != 0) := by
  cases n <;> simp <;> omega
theorem int_beq (n : Nat) : ((n : Int) == 0) = (n == 0) := by
  cases n <;> simp <;> omega

theorem bit_calls (p : Int) (w : World) : Calls Try.prog 35 #[.int .i64 p] w fun e w' => e = .returned (.int .u32 ((bitN p : Nat) : Int)) ∧ w = w' := by
  by_cases h1 : p < 1
  · have h0 : bitN p = 0 := by rw [bitN, if_neg (by simp [isPort]; omega)]
    rw [h0]
    clear h0
    go_enter Try.func35, Try.ntmps35
    go_wp2
    go_ret
    exact ⟨rfl, rfl⟩
  by_cases h2 : 16 < p
  · have h0 : bitN p = 0 := by rw [bitN, if_neg (by simp [isPort]; omega)]
    rw [h0]
    clear h0
    go_enter Try.func35, Try.ntmps35
    go_wp2
    go_ret
    exact ⟨rfl, rfl⟩
  · have h0 : bitN p = 2 ^ (p - 1).toNat := by rw [bitN, if_pos (by simp [isPort]; omega)]; rfl
    have hl := bitN_lt p
    have H0 := Lib.hid h0
    have HL := Lib.hid hl
    clear h0 hl
    go_enter Try.func35, Try.ntmps35
    go_wp2
    go_ret
    refine ⟨?_, rfl⟩
    show Ending.returned (.int .u32 _) = _
    have e : (2 : Int) ^ (p.toNat - 1) % 4294967296 = ((bitN p : Nat) : Int) := by
      have h0 := H0.out
      have hl := HL.out
      have e1 : (p - 1).toNat = p.toNat - 1 := by omega
      rw [h0, e1] at hl ⊢
      rw [show (2 : Int) ^ (p.toNat - 1) = ((2 ^ (p.toNat - 1) : Nat) : Int) by simp]
      generalize (2 ^ (p.toNat - 1) : Nat) = z at *
      omega
    rw [e]
theorem has_calls (s : Nat) (p : Int) (w : World) (hs : s < 4294967296) : Calls Try.prog 15 #[.int .u32 (s : Int), .int .i64 p] w fun e w' => e = .returned (.bool (hasB s p)) ∧ w = w' := by
  have hb := bitN_lt p
  have e : bits .and .u32 (s : Int) ((bitN p : Nat) : Int) = ((s &&& bitN p : Nat) : Int) := u32_and_nat _ _ hs (by omega)
  have e2 := and_bitN s p
  have E2 := Lib.hid e2
  have hb' : ((bitN p : Nat) : Int) < 65536 := by omega
  clear e2
  generalize hx : bitN p = x at *
  go_enter Try.func15, Try.ntmps15
  go_wp2_with (refine (bit_calls p _).mono ?_; rintro e w1 ⟨rfl, rfl⟩; rw [hx])
  go_wp2
  go_ret
  refine ⟨?_, rfl⟩
  show Ending.returned (.bool _) = _
  rw [int_bne, E2.out]
theorem pwith_calls (s : Nat) (p : Int) (w : World) (hs : s < 4294967296) : Calls Try.prog 53 #[.int .u32 (s : Int), .int .i64 p] w fun e w' => e = .returned (.int .u32 ((withP s p : Nat) : Int)) ∧ w = w' := by
  have hb := bitN_lt p
  have e : bits .or .u32 (s : Int) ((bitN p : Nat) : Int) = ((s ||| bitN p : Nat) : Int) := u32_or_nat _ _ hs (by omega)
  have hb' : ((bitN p : Nat) : Int) < 65536 := by omega
  unfold withP
  generalize hx : bitN p = x at *
  go_enter Try.func53, Try.ntmps53
  go_wp2_with (refine (bit_calls p _).mono ?_; rintro e w1 ⟨rfl, rfl⟩; rw [hx])
  go_wp2
  go_ret
  exact ⟨rfl, rfl⟩
theorem within_calls (s t : Nat) (w : World) (hs : s < 4294967296) (ht : t < 4294967296) : Calls Try.prog 55 #[.int .u32 (s : Int), .int .u32 (t : Int)] w fun e w' => e = .returned (.bool (inP s t)) ∧ w = w' := by
  have e : bits .and .u32 (s : Int) 65535 = ((s % 65536 : Nat) : Int) := by
    rw [show (65535 : Int) = ((65535 : Nat) : Int) from rfl, u32_and_nat _ _ hs (by omega), show 65535 = 2 ^ 16 - 1 from rfl, Nat.and_two_pow_sub_one_eq_mod]
  have e2 : bits .andNot .u32 ((s % 65536 : Nat) : Int) (t : Int) = ((s % 65536 &&& (4294967295 - t) : Nat) : Int) := u32_andNot_nat _ _ (by omega) ht
  have hl : ((s % 65536 : Nat) : Int) < 65536 := by omega
  unfold inP
  generalize s % 65536 = y at *
  go_enter Try.func55, Try.ntmps55
  go_wp2
  go_ret
  refine ⟨?_, rfl⟩
  show Ending.returned (.bool _) = _
  rw [int_beq]
end Go.Proofs.Ytclnginkplhlhaa
