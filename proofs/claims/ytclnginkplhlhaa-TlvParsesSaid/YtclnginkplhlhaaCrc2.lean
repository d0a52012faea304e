/- The walks of Turn (bits of a text that are turned) and of its reference. Conditions: the lengths that each says. -/
import Derived.Test.YtclnginkplhlhaaCrc
import Derived.Test.YtclnginkplhlhaaByB
import Derived.BigRegion
namespace Go.Proofs.Ytclnginkplhlhaa
open Go.RowKit

theorem bit_walk (B i : Nat) (h : B < 4294967296) : bits .and .u32 ((B : Int) / 2 ^ i) 1 = (((B.testBit i).toNat : Nat) : Int) := by
  have hd : B / 2 ^ i ≤ B := Nat.div_le_self _ _
  rw [show ((B : Int) / 2 ^ i) = ((B / 2 ^ i : Nat) : Int) by simp, show (1 : Int) = ((1 : Nat) : Int) from rfl, u32_and_nat _ _ (by omega) (by omega), Nat.and_one_is_mod, Nat.toNat_testBit]
theorem flip_walk (lk : List UInt8) (p : Nat) (h : p / 8 < lk.length) : bits .xor .u8 ((lk[p / 8].toNat : Nat) : Int) (2 ^ (p % 8) % 256) = (((lk.getD (p / 8) 0 ^^^ UInt8.ofNat (2 ^ (p % 8))).toNat : Nat) : Int) := by
  have hb := lk[p / 8].toNat_lt
  have hp : 2 ^ (p % 8) < 256 := by
    have : 2 ^ (p % 8) ≤ 2 ^ 7 := Nat.pow_le_pow_right (by omega) (by omega)
    omega
  have e : ((2 : Int) ^ (p % 8) % 256) = ((2 ^ (p % 8) : Nat) : Int) := by
    rw [show ((2 : Int) ^ (p % 8)) = ((2 ^ (p % 8) : Nat) : Int) by simp]
    exact Int.emod_eq_of_lt (Int.natCast_nonneg _) (Int.ofNat_lt.2 hp)
  rw [e, u8_xor_nat _ _ (by omega) hp, UInt8.toNat_xor, UInt8.toNat_ofNat', Nat.mod_eq_of_lt hp]
  simp [h]
set_option maxRecDepth 100000 in
set_option maxHeartbeats 2000000 in
theorem turn_in (l : List UInt8) (a B : Nat) (w : World) (ha : a ≤ 1073741824) (hB : B < 4294967296) (hl : l.length ≤ 1000000000000000) :
    Calls Try.prog 32 #[.string (bs l), .int .i64 a, .int .u32 B] w fun e w' => e = .returned (.string (bs (turnU l a B 32))) ∧ Kept noB w w' := by
  have hz : (bs l).size = l.length := bs_size l
  obtain ⟨c, w1, hcv, hb, hk⟩ := run_bytes_of l w
  rw [hz] at hcv
  have HZ := Lib.hid hz
  have HB := Lib.hid hB
  clear hz hB
  go_enter Try.func32, Try.ntmps32
  go_wp2
  clear hcv
  go_loopw [19] (fun i wr => ∃ k : Nat, k ≤ 32 ∧ i = .int .i64 k ∧ ByB wr w.heap.size (turnU l a B k) ∧ Kept noB w wr) (fun i _ => 32 - (intOf i).toNat)
  case atStart => exact ⟨0, by omega, rfl, hb, hk⟩
  case round =>
    clear hb hk
    obtain ⟨k, hk, rfl, hb, hkp⟩ := hrel
    by_cases hlt : k < 32
    · have hbit := bit_walk B k HB.out
      have HT := Lib.hid (show turnU l a B (k + 1) = if B.testBit k then turn1 (turnU l a B k) (a + k) else turnU l a B k from rfl)
      have hln := turnU_length l a B k
      generalize turnU l a B k = lk at *
      cases ht : B.testBit k
      · rw [ht] at hbit HT
        clear ht
        have hbit' : bits .and .u32 ((B : Int) / 2 ^ k) 1 = 0 := hbit
        clear hbit
        go_wp2_with fail
        refine ⟨⟨k + 1, by omega, by go_num, by rw [HT.out]; exact hb, hkp⟩, by simp [intOf]; omega⟩
      · rw [ht] at hbit HT
        clear ht
        have hbit' : bits .and .u32 ((B : Int) / 2 ^ k) 1 = 1 := hbit
        clear hbit
        by_cases ho : (a + k) / 8 < l.length
        · have hc := hb.cell ((a + k) / 8) (by omega)
          have hf := hb.frozen ((a + k) / 8) (by omega)
          have ho' : ((a : Int) + (k : Int)) / 8 < (l.length : Int) := by omega
          go_wp2_with fail
          obtain ⟨p, hp⟩ : ∃ p, a + k = p := ⟨_, rfl⟩
          rw [show ((a : Int) + (k : Int)) = (p : Int) by omega]
          rw [hp] at hc hf ho HT
          have hp1 : p ≤ 1073741824 + 32 := by omega
          clear hp
          have hq : IntKind.i64.wrap ((p : Int).tdiv 8) = ((p / 8 : Nat) : Int) := by rw [Int.tdiv_eq_ediv_of_nonneg (by omega), IntKind.wrap_i64]; omega
          have hr : IntKind.i64.wrap ((p : Int).tmod 8) = ((p % 8 : Nat) : Int) := by rw [Int.tmod_eq_emod_of_nonneg (by omega), IntKind.wrap_i64]; omega
          have hq0 : ((p / 8 : Nat) : Int) < (l.length : Int) := by omega
          go_region
          go_wp2_with fail
          refine ⟨⟨k + 1, by omega, by go_num, ?_, (hkp.setCell (fun h => by simp at h) _).drew⟩, by simp [intOf]; omega⟩
          rw [HT.out, if_pos (by trivial)]
          have e := flip_walk lk p (by omega)
          have := hb.set (p / 8) (by omega) (lk.getD (p / 8) 0 ^^^ UInt8.ofNat (2 ^ (p % 8)))
          rw [← e] at this
          exact this
        · have ho' : ((l.length : Nat) : Int) ≤ ((a : Int) + (k : Int)) / 8 := by omega
          go_wp2_with fail
          refine ⟨⟨k + 1, by omega, by go_num, ?_, hkp⟩, by simp [intOf]; omega⟩
          rw [HT.out, if_pos (by trivial), turn1_out _ _ (by omega)]
          exact hb
    · obtain rfl : k = 32 := by omega
      have hst := hb.str l.length c (turnU_length l a B 32).symm
      go_wp2
      go_ret
      exact ⟨rfl, hkp⟩
theorem turn_out (s : ByteArray) (a B : Int) (w : World) (ha : a < 0 ∨ 1073741824 < a) :
    Calls Try.prog 32 #[.string s, .int .i64 a, .int .u32 B] w fun e w' => e = .returned (.string s) ∧ w = w' := by
  rcases ha with ha | ha
  all_goals
    go_enter Try.func32, Try.ntmps32
    go_wp2
    go_ret
    exact ⟨rfl, rfl⟩
theorem rbit_walk (B k : Nat) (b : Bool) (h : B.testBit k = b) : ((B / 2 ^ k : Nat) : Int) % 2 = (b.toNat : Int) := by
  rw [← h, Nat.toNat_testBit]
  omega
theorem rflip_walk (lk : List UInt8) (p : Nat) (h : p / 8 < lk.length) : bits .xor .u8 ((lk[p / 8].toNat : Nat) : Int) (((2 ^ (p % 8) : Nat)) : Int) = (((lk.getD (p / 8) 0 ^^^ UInt8.ofNat (2 ^ (p % 8))).toNat : Nat) : Int) := by
  have hp : 2 ^ (p % 8) < 256 := by
    have : 2 ^ (p % 8) ≤ 2 ^ 7 := Nat.pow_le_pow_right (by omega) (by omega)
    omega
  have := flip_walk lk p h
  rwa [show ((2 : Int) ^ (p % 8) % 256) = ((2 ^ (p % 8) : Nat) : Int) by
    rw [show ((2 : Int) ^ (p % 8)) = ((2 ^ (p % 8) : Nat) : Int) by simp]
    exact Int.emod_eq_of_lt (Int.natCast_nonneg _) (Int.ofNat_lt.2 hp)] at this
theorem turn_calls (l : List UInt8) (a B : Int) (w : World) (hB0 : 0 ≤ B) (hB : B ≤ 4294967295) (hl : l.length ≤ 1000000000000000) :
    Calls Try.prog 32 #[.string (bs l), .int .i64 a, .int .u32 B] w fun e w' => e = .returned (.string (bs (turnV l a B))) ∧ Kept noB w w' := by
  unfold turnV
  by_cases h : a < 0 ∨ 1073741824 < a
  · rw [if_pos h]
    refine (turn_out (bs l) a B w h).mono ?_
    rintro e w' ⟨rfl, rfl⟩
    exact ⟨rfl, Kept.refl _ _⟩
  · rw [if_neg h]
    obtain ⟨a, rfl⟩ := Int.eq_ofNat_of_zero_le (show 0 ≤ a by omega)
    obtain ⟨B, rfl⟩ := Int.eq_ofNat_of_zero_le hB0
    exact turn_in l a B w (by omega) (by omega) hl
end Go.Proofs.Ytclnginkplhlhaa
