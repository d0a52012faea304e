/- The walk of frame.Decode, whatever the bytes. Condition: the text's length. -/
import Derived.Test.YtclnginkplhlhaaFrame8
namespace Go.Proofs.Ytclnginkplhlhaa
open Go.RowKit
theorem twelve_of (l : List UInt8) (h : 14 ≤ l.length) : ∃ a0 a1 a2 a3 a4 a5 b0 b1 b2 b3 b4 b5 rs, l = [a0, a1, a2, a3, a4, a5] ++ ([b0, b1, b2, b3, b4, b5] ++ rs) ∧ 2 ≤ rs.length := by
  match l, h with
  | a0 :: a1 :: a2 :: a3 :: a4 :: a5 :: b0 :: b1 :: b2 :: b3 :: b4 :: b5 :: rs, h => exact ⟨a0, a1, a2, a3, a4, a5, b0, b1, b2, b3, b4, b5, rs, rfl, by simp at h; omega⟩
set_option maxRecDepth 100000 in
theorem decode_long (l : List UInt8) (w : World) (hl : 1518 < l.length) : Calls Try.prog 21 #[.string (bs l)] w fun e w' => e = .returned (.tuple #[frV Fr.zero, .int .i64 3]) ∧ Kept noB w w' := by
  have hz : (1518 : Int) < (bs l).size := by rw [bs_size]; omega
  have k0 : Kept noB w (w.alloc (.cells (frC Fr.zero).toArray 46)) := (Kept.refl _ _).alloc _
  have r0 : Blk (w.alloc (.cells (frC Fr.zero).toArray 46)) w.heap.size 46 (frC Fr.zero) := Blk.new _ _ _
  have hs0 : (Try.prog.info? 46).map (·.size) = some (frC Fr.zero).toArray.size := frSize
  have h1z : (frC Fr.zero).toArray.all (·.oneCell') = true := by rw [List.all_toArray]; rfl
  have hz6 := r0.row (frC Fr.zero)
  have HZ6 := Lib.hid hz6
  have HK := Lib.hid k0
  have R0 := Lib.hid r0
  have HS := Lib.hid hs0
  have H1 := Lib.hid h1z
  clear hz6 k0 r0 hs0 h1z
  go_enter Try.func21, Try.ntmps21
  go_upto_region 2 with (fail)
  refine wp_region_lit (wpList_build_zero rfl rfl (wpList_store_row rfl _ _ _ rfl w.heap.size (frC Fr.zero).toArray rfl rfl _ _ R0.out HS.out rfl H1.out ?_))
  go_wp2_with fail
  refine bodyPost_ret (v := .tuple #[.agg (frC Fr.zero).toArray, .int .i64 3]) (results_cell_tmp rfl _ _ w.heap.size _ (frC Fr.zero).toArray _ _ _ rfl rfl HZ6.out Try.underlying46 rfl HS.out) rfl ⟨rfl, ?_⟩
  exact HK.out.setRow (fun h => by omega) _
set_option maxRecDepth 100000 in
theorem decode_short (l : List UInt8) (w : World) (hl : l.length < 14) : Calls Try.prog 21 #[.string (bs l)] w fun e w' => e = .returned (.tuple #[frV Fr.zero, .int .i64 2]) ∧ Kept noB w w' := by
  have hz : ((bs l).size : Int) < 14 := by rw [bs_size]; omega
  have hz1 : ((bs l).size : Int) ≤ 1518 := by rw [bs_size]; omega
  have k0 : Kept noB w (w.alloc (.cells (frC Fr.zero).toArray 46)) := (Kept.refl _ _).alloc _
  have r0 : Blk (w.alloc (.cells (frC Fr.zero).toArray 46)) w.heap.size 46 (frC Fr.zero) := Blk.new _ _ _
  have hs0 : (Try.prog.info? 46).map (·.size) = some (frC Fr.zero).toArray.size := frSize
  have h1z : (frC Fr.zero).toArray.all (·.oneCell') = true := by rw [List.all_toArray]; rfl
  have hz6 := r0.row (frC Fr.zero)
  have HZ6 := Lib.hid hz6
  have HK := Lib.hid k0
  have R0 := Lib.hid r0
  have HS := Lib.hid hs0
  have H1 := Lib.hid h1z
  clear hz6 k0 r0 hs0 h1z
  go_enter Try.func21, Try.ntmps21
  go_upto_region 4 with (fail)
  refine wp_region_lit (wpList_build_zero rfl rfl (wpList_store_row rfl _ _ _ rfl w.heap.size (frC Fr.zero).toArray rfl rfl _ _ R0.out HS.out rfl H1.out ?_))
  go_wp2_with fail
  refine bodyPost_ret (v := .tuple #[.agg (frC Fr.zero).toArray, .int .i64 2]) (results_cell_tmp rfl _ _ w.heap.size _ (frC Fr.zero).toArray _ _ _ rfl rfl HZ6.out Try.underlying46 rfl HS.out) rfl ⟨rfl, ?_⟩
  exact HK.out.setRow (fun h => by omega) _
theorem decode_calls (l : List UInt8) (w : World) : Calls Try.prog 21 #[.string (bs l)] w fun e w' => e = .returned (.tuple #[frV (decF l), .int .i64 (decE l : Nat)]) ∧ Kept noB w w' := by
  by_cases h1 : 1518 < l.length
  · have e1 : decE l = 3 := by rw [decE, if_pos h1]
    have e2 : decF l = Fr.zero := by rw [decF, e1]; rfl
    rw [e1, e2]
    exact decode_long l w h1
  by_cases h2 : l.length < 14
  · have e1 : decE l = 2 := by rw [decE, if_neg h1, if_pos h2]
    have e2 : decF l = Fr.zero := by rw [decF, e1]; rfl
    rw [e1, e2]
    exact decode_short l w h2
  · obtain ⟨a0, a1, a2, a3, a4, a5, b0, b1, b2, b3, b4, b5, rs, rfl, hr⟩ := twelve_of l (by omega)
    exact decode_on a0 a1 a2 a3 a4 a5 b0 b1 b2 b3 b4 b5 rs w hr (by simp at h1; omega)
end Go.Proofs.Ytclnginkplhlhaa
