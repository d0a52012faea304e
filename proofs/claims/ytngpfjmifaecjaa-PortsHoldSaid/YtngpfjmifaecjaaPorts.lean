/- The walks of package ports (sets of ports as numbers). Condition: the numbers are below 2^32. -/
import Derived.Test.YtngpfjmifaecjaaKt
import Derived.Test.YtngpfjmifaecjaaPlainPorts
namespace Go.Proofs.Ytngpfjmifaecjaa
open Go.RowKit

theorem int_bne (n : Nat) : ((n : Int) != 0) = (n != 0) := by
  cases n <;> simp <;> omega
theorem int_beq (n : Nat) : ((n : Int) == 0) = (n == 0) := by
  cases n <;> simp <;> omega

theorem bit_calls (p : Int) (w : World) : Calls Try.prog 48 #[.int .i64 p] w fun e w' => e = .returned (.int .u32 ((bitN p : Nat) : Int)) ∧ w = w' := by
  by_cases h1 : p < 1
  · have h0 : bitN p = 0 := by rw [bitN, if_neg (by simp [isPort]; omega)]
    rw [h0]
    clear h0
    go_enter Try.func48, Try.ntmps48
    go_wp2
    go_ret
    exact ⟨rfl, rfl⟩
  by_cases h2 : 16 < p
  · have h0 : bitN p = 0 := by rw [bitN, if_neg (by simp [isPort]; omega)]
    rw [h0]
    clear h0
    go_enter Try.func48, Try.ntmps48
    go_wp2
    go_ret
    exact ⟨rfl, rfl⟩
  · have h0 : bitN p = 2 ^ (p - 1).toNat := by rw [bitN, if_pos (by simp [isPort]; omega)]; rfl
    have hl := bitN_lt p
    have H0 := Lib.hid h0
    have HL := Lib.hid hl
    clear h0 hl
    go_enter Try.func48, Try.ntmps48
    go_wp2
    go_ret
    refine ⟨?_, rfl⟩
    show Ending.returned (.int .u32 _) = _
    have e : (2 : Int) ^ (p.toNat - 1) % 4294967296 = ((bitN p : Nat) : Int) := by
      have h0 := H0.out
      have hl := HL.out
      have e1 : (p - 1).toNat = p.toNat - 1 := by omega
      rw [h0, e1] at hl ⊢
      rw [show (2 : Int) ^ (p.toNat - 1) = ((2 ^ (p.toNat - 1) : Nat) : Int) by simp]
      generalize (2 ^ (p.toNat - 1) : Nat) = z at *
      omega
    rw [e]
set_option maxRecDepth 100000 in
set_option maxHeartbeats 4000000 in
theorem ones_calls (a b : Nat) (w : World) (ha : a < 256) (hb : b < 256) : Calls Try.prog 49 #[.int .u32 ((256 * a + b : Nat) : Int)] w fun e w' => e = .returned (.int .i64 ((pop a 8 + pop b 8 : Nat) : Int)) ∧ ∃ d, w' = w.drewN d := by
  obtain ⟨q, hq⟩ : ∃ q, pop a 8 + pop b 8 = q := ⟨_, rfl⟩
  rw [hq]
  obtain ⟨x, hx⟩ : ∃ x, 256 * a + b = x := ⟨_, rfl⟩
  have e0 : (x : Int) / 16777216 = 0 := by omega
  have e1 : bits .and .u32 ((x : Int) / 65536) 255 = 0 := by
    rw [show (x : Int) / 65536 = ((0 : Nat) : Int) by omega, show (255 : Int) = ((255 : Nat) : Int) from rfl, u32_and_nat _ _ (by omega) (by omega), Nat.zero_and]
    rfl
  have e2 : bits .and .u32 ((x : Int) / 256) 255 = (a : Int) := by
    rw [show (x : Int) / 256 = ((a : Nat) : Int) by omega, show (255 : Int) = ((255 : Nat) : Int) from rfl, u32_and_nat _ _ (by omega) (by omega), show 255 = 2 ^ 8 - 1 from rfl, Nat.and_two_pow_sub_one_eq_mod, Nat.mod_eq_of_lt ha]
  have e3 : bits .and .u32 (x : Int) 255 = (b : Int) := by
    rw [show (255 : Int) = ((255 : Nat) : Int) from rfl, u32_and_nat _ _ (by omega) (by omega), show 255 = 2 ^ 8 - 1 from rfl, Nat.and_two_pow_sub_one_eq_mod, show x % 2 ^ 8 = b by omega]
  rw [hx]
  clear hx
  have ha' : (a : Int) < 256 := by omega
  have hb' : (b : Int) < 256 := by omega
  go_enter Try.func49, Try.ntmps49
  go_wp2_with fail
  go_quiet (fail)
  go_wp2
  go_ret
  refine ⟨?_, nq, rfl⟩
  show Ending.returned (.int .i64 _) = _
  rw [pop_tab _ ?_ 0 (by omega) _, pop_tab _ ?_ a ha _, pop_tab _ ?_ b hb _, ← hq]
  · have h0 := pop_le a
    have h1 := pop_le b
    have h2 : pop 0 8 = 0 := by decide
    rw [h2]
    congr 2
    omega
  all_goals decide +kernel
theorem has_calls (s : Nat) (p : Int) (w : World) (hs : s < 4294967296) : Calls Try.prog 15 #[.int .u32 (s : Int), .int .i64 p] w fun e w' => e = .returned (.bool (hasB s p)) ∧ w = w' := by
  have hb := bitN_lt p
  have e : bits .and .u32 (s : Int) ((bitN p : Nat) : Int) = ((s &&& bitN p : Nat) : Int) := u32_and_nat _ _ hs (by omega)
  have e2 := and_bitN s p
  have E2 := Lib.hid e2
  have hb' : ((bitN p : Nat) : Int) < 65536 := by omega
  clear e2
  generalize hx : bitN p = x at *
  go_enter Try.func15, Try.ntmps15
  go_wp2_with (refine (bit_calls p _).mono ?_; rintro e w1 ⟨rfl, rfl⟩; rw [hx])
  go_wp2
  go_ret
  refine ⟨?_, rfl⟩
  show Ending.returned (.bool _) = _
  rw [int_bne, E2.out]
theorem with_calls (s : Nat) (p : Int) (w : World) (hs : s < 4294967296) : Calls Try.prog 16 #[.int .u32 (s : Int), .int .i64 p] w fun e w' => e = .returned (.int .u32 ((withP s p : Nat) : Int)) ∧ w = w' := by
  have hb := bitN_lt p
  have e : bits .or .u32 (s : Int) ((bitN p : Nat) : Int) = ((s ||| bitN p : Nat) : Int) := u32_or_nat _ _ hs (by omega)
  have hb' : ((bitN p : Nat) : Int) < 65536 := by omega
  unfold withP
  generalize hx : bitN p = x at *
  go_enter Try.func16, Try.ntmps16
  go_wp2_with (refine (bit_calls p _).mono ?_; rintro e w1 ⟨rfl, rfl⟩; rw [hx])
  go_wp2
  go_ret
  exact ⟨rfl, rfl⟩
theorem without_calls (s : Nat) (p : Int) (w : World) (hs : s < 4294967296) : Calls Try.prog 17 #[.int .u32 (s : Int), .int .i64 p] w fun e w' => e = .returned (.int .u32 ((woutP s p : Nat) : Int)) ∧ w = w' := by
  have hb := bitN_lt p
  have e : bits .andNot .u32 (s : Int) ((bitN p : Nat) : Int) = ((s &&& (4294967295 - bitN p) : Nat) : Int) := u32_andNot_nat _ _ hs (by omega)
  have hb' : ((bitN p : Nat) : Int) < 65536 := by omega
  unfold woutP
  generalize hx : bitN p = x at *
  go_enter Try.func17, Try.ntmps17
  go_wp2_with (refine (bit_calls p _).mono ?_; rintro e w1 ⟨rfl, rfl⟩; rw [hx])
  go_wp2
  go_ret
  exact ⟨rfl, rfl⟩
theorem within_calls (s t : Nat) (w : World) (hs : s < 4294967296) (ht : t < 4294967296) : Calls Try.prog 19 #[.int .u32 (s : Int), .int .u32 (t : Int)] w fun e w' => e = .returned (.bool (inP s t)) ∧ w = w' := by
  have e : bits .and .u32 (s : Int) 65535 = ((s % 65536 : Nat) : Int) := by
    rw [show (65535 : Int) = ((65535 : Nat) : Int) from rfl, u32_and_nat _ _ hs (by omega), show 65535 = 2 ^ 16 - 1 from rfl, Nat.and_two_pow_sub_one_eq_mod]
  have e2 : bits .andNot .u32 ((s % 65536 : Nat) : Int) (t : Int) = ((s % 65536 &&& (4294967295 - t) : Nat) : Int) := u32_andNot_nat _ _ (by omega) ht
  have hl : ((s % 65536 : Nat) : Int) < 65536 := by omega
  unfold inP
  generalize s % 65536 = y at *
  go_enter Try.func19, Try.ntmps19
  go_wp2
  go_ret
  refine ⟨?_, rfl⟩
  show Ending.returned (.bool _) = _
  rw [int_beq]
theorem count_calls (s : Nat) (w : World) (hs : s < 4294967296) : Calls Try.prog 18 #[.int .u32 (s : Int)] w fun e w' => e = .returned (.int .i64 ((cntN s 16 : Nat) : Int)) ∧ ∃ d, w' = w.drewN d := by
  have e : bits .and .u32 (s : Int) 65535 = ((256 * (s % 65536 / 256) + s % 256 : Nat) : Int) := by
    rw [show (65535 : Int) = ((65535 : Nat) : Int) from rfl, u32_and_nat _ _ hs (by omega), show 65535 = 2 ^ 16 - 1 from rfl, Nat.and_two_pow_sub_one_eq_mod]
    congr 1
    omega
  rw [cntN_two]
  have ha : s % 65536 / 256 < 256 := by omega
  have hb : s % 256 < 256 := by omega
  generalize s % 65536 / 256 = a at *
  generalize s % 256 = b at *
  generalize hx : 256 * a + b = x at *
  go_enter Try.func18, Try.ntmps18
  go_wp2_with (rw [← hx]; refine (ones_calls a b _ ha hb).mono ?_; rintro e w1 ⟨rfl, d, rfl⟩)
  go_wp2
  go_ret
  exact ⟨rfl, d, rfl⟩
end Go.Proofs.Ytngpfjmifaecjaa
