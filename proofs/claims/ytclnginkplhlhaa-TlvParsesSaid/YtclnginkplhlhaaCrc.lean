/- The walks of package crc (a sum by a table; bits that are turned) and of its reference. Conditions: the lengths that each says. -/
import Derived.Test.YtclnginkplhlhaaKt
import Derived.Test.YtclnginkplhlhaaWire
import Derived.Test.YtclnginkplhlhaaPlainCrc
import Derived.Deep.WholeRow
namespace Go.Proofs.Ytclnginkplhlhaa
open Go.RowKit

/-- a table that lies whole in a block -/
def Tab (w : World) (g : Nat) : Prop := Blk w g 75 (vw (tabN 256))
/-- the zero table's cells -/
def zeroTab : Array Value := (vw (tabN 0)).toArray
theorem zero_run (w : World) : (zeroValue 75).run Try.prog w = .ok (.agg zeroTab) w := by kernel_rfl
theorem zero_ne : zeroTab ≠ #[] := by
  intro h
  have := congrArg Array.size h
  simp [zeroTab, vw_length, tabN_length] at this
attribute [local go_sem high] zero_run
attribute [local simp] zero_ne
theorem zero_tab : zeroTab = (vw (tabN 0)).toArray := by kernel_rfl
theorem size_tab : (Try.prog.info? 75).map (·.size) = some 256 := by kernel_rfl
theorem one_tab (k : Nat) : ((vw (tabN k)).toArray).all (·.oneCell') = true := by
  rw [List.all_toArray, List.all_eq_true]
  intro v hv
  simp [vw] at hv
  obtain ⟨n, _, rfl⟩ := hv
  rfl
theorem step_walk (r : Nat) (h : r < 4294967296) :
    bits .xor .u32 ((r : Int) / 2) (IntKind.u32.wrap (3988292384 * bits .and .u32 (r : Int) 1)) = ((crcStep r : Nat) : Int) := by
  have e1 : bits .and .u32 (r : Int) 1 = ((r % 2 : Nat) : Int) := by
    rw [show (1 : Int) = ((1 : Nat) : Int) from rfl, u32_and_nat r 1 h (by omega), Nat.and_one_is_mod]
  have e2 : ((r : Int) / 2) = ((r / 2 : Nat) : Int) := by simp
  rw [e1, e2, IntKind.wrap_u32]
  unfold crcStep
  by_cases hr : r % 2 = 1
  · rw [if_pos hr, hr]
    rw [show ((3988292384 : Int) * ((1 : Nat) : Int)) % 4294967296 = ((3988292384 : Nat) : Int) by decide, u32_xor_nat _ _ (by omega) (by omega)]
  · have hr0 : r % 2 = 0 := by omega
    rw [if_neg hr, hr0]
    rw [show ((3988292384 : Int) * ((0 : Nat) : Int)) % 4294967296 = ((0 : Nat) : Int) by decide, u32_xor_nat _ _ (by omega) (by omega), Nat.xor_zero]
set_option maxRecDepth 100000 in
set_option maxHeartbeats 2000000 in
theorem make_calls (w : World) : Calls Try.prog 29 #[] w fun e w' => e = .returned (.agg (vw (tabN 256)).toArray) ∧ Kept noB w w' := by
  go_enter Try.func29, Try.ntmps29
  go_wp2
  rw [zero_tab]
  have b0 := (Blk.new w 75 (vw (tabN 0))).alloc (.cells (vw (tabN 0)).toArray 75)
  have b1 := Blk.new (w.alloc (.cells (vw (tabN 0)).toArray 75)) 75 (vw (tabN 0))
  rw [World.size_alloc] at b1
  have hk := ((Kept.refl noB w).alloc (.cells (vw (tabN 0)).toArray 75)).alloc (.cells (vw (tabN 0)).toArray 75)
  generalize (w.alloc (.cells (vw (tabN 0)).toArray 75)).alloc (.cells (vw (tabN 0)).toArray 75) = w1 at *
  go_loopw [4] (fun i wr => ∃ k : Nat, k ≤ 256 ∧ i = .int .i64 k ∧ Blk wr w.heap.size 75 (vw (tabN 0)) ∧ Blk wr (w.heap.size + 1) 75 (vw (tabN k)) ∧ Kept noB w wr) (fun i _ => 256 - (intOf i).toNat)
  case atStart => exact ⟨0, by omega, rfl, b0, b1, hk⟩
  case round =>
    clear b0 b1 hk
    obtain ⟨k, hk, rfl, b0, b1, hkp⟩ := hrel
    by_cases hlt : k < 256
    · go_wp2
      go_loop [3, 9] (fun r j => ∃ c : Nat, c ≤ 8 ∧ j = .int .i64 c ∧ r = .int .u32 ((crcIt c k : Nat) : Int)) (fun _ j => 8 - (intOf j).toNat)
      case atStart =>
        refine ⟨0, by omega, rfl, ?_⟩
        show Value.int IntKind.u32 _ = Value.int IntKind.u32 (k : Int)
        first | rfl | (rw [IntKind.wrap_u32]; congr 1; omega)
      case round =>
        obtain ⟨c, hc, rfl, rfl⟩ := hrel
        by_cases hc8 : c < 8
        · have hl := crcIt_lt (show k < 4294967296 by omega) c
          go_wp2
          refine ⟨⟨c + 1, by omega, by go_num, ?_⟩, by simp [intOf]; omega⟩
          rw [crcIt, ← step_walk _ hl, IntKind.wrap_u32]
        · obtain rfl : c = 8 := by omega
          have hcell : ∃ v, wr.cell? ⟨w.heap.size + 1, k, none⟩ = some v := by
            rw [b1.cell]
            exact ⟨_, List.getElem?_eq_getElem (by rw [vw_length, tabN_length]; exact hlt)⟩
          obtain ⟨v, hcell⟩ := hcell
          have hf := b1.frozen k
          go_wp2
          refine ⟨⟨k + 1, by omega, by go_num, b0.far (by simp) _, ?_, hkp.setCell (fun h => by simp at h; omega) _⟩, by simp [intOf]; omega⟩
          have := b1.set k (.int .u32 ((crcT k : Nat) : Int))
          rw [vw_set, tabN_set k hlt] at this
          exact this
    · obtain rfl : k = 256 := by omega
      have hs : (Try.prog.info? 75).map (·.size) = some (vw (tabN 256)).toArray.size := by rw [size_tab, List.size_toArray, vw_length, tabN_length]
      have hold : (vw (tabN 0)).toArray.size = (vw (tabN 256)).toArray.size := by simp [vw_length, tabN_length]
      have h1 := one_tab 256
      go_wp2_with (first | (refine wpList_load_row rfl _ _ rfl _ rfl _ _ _ _ b1 Try.underlying75 rfl hs ?_) | (refine wpList_store_row rfl _ _ _ rfl _ _ rfl rfl _ _ b0 hs hold h1 ?_))
      refine bodyPost_ret (v := .agg (vw (tabN 256)).toArray) (results_cell_row rfl _ _ _ _ _ _ _ rfl (b0.row (vw (tabN 256))) Try.underlying75 rfl hs) rfl ?_
      exact ⟨rfl, hkp.setRow (fun h => by omega) _⟩

/-! ### the sum -/
theorem idx_walk (r : Nat) (b : UInt8) (_h : r < 4294967296) : bits .xor .u8 ((r : Int) % 256) ((b.toNat : Nat) : Int) = (((r % 256) ^^^ b.toNat : Nat) : Int) := by
  have hb := b.toNat_lt
  rw [show ((r : Int) % 256) = ((r % 256 : Nat) : Int) by simp, u8_xor_nat _ _ (by omega) (by omega)]
theorem ridx_walk (r : Nat) (b : UInt8) (_h : r < 4294967296) : bits .xor .u32 ((r : Int) % 256) (((b.toNat : Nat) : Int) % 4294967296) = (((r % 256) ^^^ b.toNat : Nat) : Int) := by
  have hb := b.toNat_lt
  rw [show ((r : Int) % 256) = ((r % 256 : Nat) : Int) by simp, show ((b.toNat : Nat) : Int) % 4294967296 = ((b.toNat : Nat) : Int) by omega, u32_xor_nat _ _ (by omega) (by omega)]
theorem upd_walk (r x : Nat) (h : r < 4294967296) (hx : x < 4294967296) : bits .xor .u32 ((r : Int) / 256) ((x : Nat) : Int) = ((r / 256 ^^^ x : Nat) : Int) := by
  rw [show ((r : Int) / 256) = ((r / 256 : Nat) : Int) by simp, u32_xor_nat _ _ (by omega) (by omega)]
theorem fin_walk (r : Nat) (h : r < 4294967296) : bits .xor .u32 (r : Int) 4294967295 = ((r ^^^ 4294967295 : Nat) : Int) := u32_xor_nat r 4294967295 h (by omega)
theorem sum_nil (s : ByteArray) (w : World) : Calls Try.prog 30 #[.pointer none, .string s] w fun e w' => e = .returned (.int .u32 0) ∧ w = w' := by
  go_enter Try.func30, Try.ntmps30
  go_wp2
  go_ret
  exact ⟨rfl, rfl⟩
set_option maxRecDepth 100000 in
set_option maxHeartbeats 2000000 in
theorem sum_calls (g : Nat) (l : List UInt8) (w : World) (ht : Tab w g) (hl : l.length ≤ 1000000000000000) :
    Calls Try.prog 30 #[.pointer (some ⟨g, 0, none⟩), .string (bs l)] w fun e w' => e = .returned (.int .u32 ((crcSum l : Nat) : Int)) ∧ ∃ d, w' = w.drewN d := by
  have hz : (bs l).size ≤ 1000000000000000 := by rw [bs_size]; exact hl
  go_enter Try.func30, Try.ntmps30
  go_wp2
  go_loopw [5, 11] (fun r i wr => ∃ k : Nat, k ≤ l.length ∧ i = .int .i64 k ∧ r = .int .u32 ((crcReg (l.take k) : Nat) : Int) ∧ ∃ d, wr = w.drewN d) (fun _ i _ => l.length - (intOf i).toNat)
  case atStart => exact ⟨0, Nat.zero_le _, rfl, rfl, 0, rfl⟩
  case round =>
    obtain ⟨k, hk, rfl, rfl, d, rfl⟩ := hrel
    have hr := crcReg_lt (l.take k)
    by_cases hlt : k < l.length
    · have hlt' : k < (bs l).size := by rw [bs_size]; exact hlt
      have hx := idx_walk (crcReg (l.take k)) l[k] hr
      have hxl := xor_lt8 (show crcReg (l.take k) % 256 < 256 by omega) l[k].toNat_lt
      have hs : crcReg (l.take (k + 1)) = crcReg (l.take k) / 256 ^^^ crcT (crcReg (l.take k) % 256 ^^^ l[k].toNat) := crcReg_take_succ l k hlt
      have hu := upd_walk (crcReg (l.take k)) (crcT (crcReg (l.take k) % 256 ^^^ l[k].toNat)) hr (crcIt_lt (by omega) 8)
      rw [← hs] at hu
      clear hs
      have hc : w.cell? ⟨g, crcReg (l.take k) % 256 ^^^ l[k].toNat, none⟩ = some (.int .u32 ((crcT (crcReg (l.take k) % 256 ^^^ l[k].toNat) : Nat) : Int)) := by rw [ht.cell, vw_tab_get _ hxl]
      have hbk : ((bs l)[k]'hlt').toNat = l[k].toNat := rfl
      generalize crcReg (l.take k) % 256 ^^^ l[k].toNat = x at *
      generalize hr2 : crcReg (l.take (k + 1)) = r2 at *
      have HR2 := Lib.hid hr2
      generalize crcReg (l.take k) = r1 at *
      clear hr2
      go_wp2_with fail
      go_quiet (fail)
      go_wp2_with fail
      exact ⟨⟨k + 1, by omega, by go_num, by rw [HR2.out], d + nq, rfl⟩, by simp [intOf]; omega⟩
    · obtain rfl : k = l.length := by omega
      have hge' : (bs l).size ≤ l.length := by rw [bs_size]; exact Nat.le_refl _
      have hf := fin_walk _ hr
      go_wp2
      go_ret
      rw [List.take_length] at hf
      exact ⟨by rw [crcSum, ← hf, List.take_length]; rfl, d, rfl⟩

/-! ### the reference's table and sum -/
theorem rstep_odd (r : Nat) (h : r < 4294967296) (ho : r % 2 = 1) : bits .xor .u32 ((r : Int) / 2) 3988292384 = ((crcStep r : Nat) : Int) := by
  rw [crcStep, if_pos ho, show ((r : Int) / 2) = ((r / 2 : Nat) : Int) by simp, show (3988292384 : Int) = ((3988292384 : Nat) : Int) from rfl, u32_xor_nat _ _ (by omega) (by omega)]
set_option maxRecDepth 100000 in
set_option maxHeartbeats 1000000 in
theorem at_calls (n : Int) (w : World) (h0 : 0 ≤ n) (h1 : n < 256) : Calls Try.prog 60 #[.int .i64 n] w fun e w' => e = .returned (.int .u32 ((crcT n.toNat : Nat) : Int)) ∧ w = w' := by
  obtain ⟨m, rfl⟩ := Int.eq_ofNat_of_zero_le h0
  go_enter Try.func60, Try.ntmps60
  go_wp2
  go_loop [3, 4] (fun r j => ∃ c : Nat, c ≤ 8 ∧ j = .int .i64 c ∧ r = .int .u32 ((crcIt c m : Nat) : Int)) (fun _ j => 8 - (intOf j).toNat)
  case atStart => exact ⟨0, by omega, rfl, rfl⟩
  case round =>
    obtain ⟨c, hc, rfl, rfl⟩ := hrel
    by_cases hc8 : c < 8
    · have hl := crcIt_lt (show m < 4294967296 by omega) c
      have hs : crcIt (c + 1) m = crcStep (crcIt c m) := rfl
      generalize hr1 : crcIt c m = r1 at *
      have HR2 := Lib.hid (show crcIt (c + 1) m = crcStep r1 by rw [hs])
      clear hs hr1
      by_cases ho : r1 % 2 = 1
      · have hx := rstep_odd _ hl ho
        have hm : (r1 : Int) % 2 = 1 := by omega
        clear ho
        go_wp2
        refine ⟨⟨c + 1, by omega, by go_num, by rw [HR2.out]⟩, by simp [intOf]; omega⟩
      · have hm : ((r1 : Int) % 2 == 1) = false := by rw [beq_eq_false_iff_ne]; omega
        have hx : crcStep r1 = r1 / 2 := by rw [crcStep, if_neg ho]
        have HX := Lib.hid hx
        clear ho hx
        go_wp2
        refine ⟨⟨c + 1, by omega, by go_num, by rw [HR2.out, HX.out]; simp⟩, by simp [intOf]; omega⟩
    · obtain rfl : c = 8 := by omega
      go_wp2
      go_ret
      exact ⟨rfl, rfl⟩
set_option maxRecDepth 100000 in
set_option maxHeartbeats 2000000 in
theorem rsum_calls (l : List UInt8) (w : World) (hl : l.length ≤ 1000000000000000) :
    Calls Try.prog 58 #[.string (bs l)] w fun e w' => e = .returned (.int .u32 ((crcSum l : Nat) : Int)) ∧ w = w' := by
  have hz : (bs l).size ≤ 1000000000000000 := by rw [bs_size]; exact hl
  go_enter Try.func58, Try.ntmps58
  go_wp2
  go_loop [3, 4] (fun r i => ∃ k : Nat, k ≤ l.length ∧ i = .int .i64 k ∧ r = .int .u32 ((crcReg (l.take k) : Nat) : Int)) (fun _ i => l.length - (intOf i).toNat)
  case atStart => exact ⟨0, Nat.zero_le _, rfl, rfl⟩
  case round =>
    obtain ⟨k, hk, rfl, rfl⟩ := hrel
    have hr := crcReg_lt (l.take k)
    by_cases hlt : k < l.length
    · have hlt' : k < (bs l).size := by rw [bs_size]; exact hlt
      have hx := ridx_walk (crcReg (l.take k)) l[k] hr
      have hxl := xor_lt8 (show crcReg (l.take k) % 256 < 256 by omega) l[k].toNat_lt
      have hs : crcReg (l.take (k + 1)) = crcReg (l.take k) / 256 ^^^ crcT (crcReg (l.take k) % 256 ^^^ l[k].toNat) := crcReg_take_succ l k hlt
      have hu := upd_walk (crcReg (l.take k)) (crcT (crcReg (l.take k) % 256 ^^^ l[k].toNat)) hr (crcIt_lt (by omega) 8)
      rw [← hs] at hu
      clear hs
      have hbk : ((bs l)[k]'hlt').toNat = l[k].toNat := rfl
      generalize crcReg (l.take k) % 256 ^^^ l[k].toNat = x at *
      generalize hr2 : crcReg (l.take (k + 1)) = r2 at *
      have HR2 := Lib.hid hr2
      generalize crcReg (l.take k) = r1 at *
      have HU := Lib.hid hu
      clear hr2 hu
      have hxi : (x : Int) < 256 := by omega
      go_wp2_with fail
      refine (at_calls _ _ (by omega) (by omega)).mono ?_
      rintro e w' ⟨rfl, rfl⟩
      rw [Int.toNat_natCast]
      go_wp2_with fail
      exact ⟨⟨k + 1, by omega, by go_num, by rw [HR2.out, HU.out]⟩, by simp [intOf]; omega⟩
    · obtain rfl : k = l.length := by omega
      have hge' : (bs l).size ≤ l.length := by rw [bs_size]; exact Nat.le_refl _
      have hf := fin_walk _ hr
      go_wp2
      go_ret
      rw [List.take_length] at hf
      exact ⟨by rw [crcSum, ← hf]; rfl, rfl⟩
end Go.Proofs.Ytclnginkplhlhaa
