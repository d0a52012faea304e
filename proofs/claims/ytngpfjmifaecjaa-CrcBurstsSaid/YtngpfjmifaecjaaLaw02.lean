/- The walk of CrcSums; a known sum. Conditions: the text's length, the bits are of their kind. -/
import Derived.Test.YtngpfjmifaecjaaCrc2
namespace Go.Proofs.Ytngpfjmifaecjaa
open Go.RowKit

theorem known_sum : ((crcSum [49, 50, 51, 52, 53, 54, 55, 56, 57] : Nat) : Int) = 3421780262 := by decide +kernel
theorem known_one : ((crcT 1 : Nat) : Int) = 1996959894 := by decide +kernel
/-- 't := crc.Make()': the table in a block of its own -/
theorem tab_new (w : World) : Tab (w.alloc (.cells (vw (tabN 256)).toArray 37)) w.heap.size := Blk.new w _ _
theorem tab_sizes : (Try.prog.info? 37).map (·.size) = some (vw (tabN 256)).toArray.size ∧ (vw (tabN 0)).toArray.size = (vw (tabN 256)).toArray.size := by
  constructor
  · rw [size_tab, List.size_toArray, vw_length, tabN_length]
  · simp [vw_length, tabN_length]
theorem store_tab (w : World) : (storeCells ⟨w.heap.size, 0, none⟩ (vw (tabN 256)) 0).run Try.prog (w.alloc (.cells Try.zeroCells37 37)) = .ok () (w.alloc (.cells (vw (tabN 256)).toArray 37)) := by
  rw [zero_tab]
  exact run_storeCells_new (P := Try.prog) w 37 (vw (tabN 0)).toArray (vw (tabN 256)).toArray tab_sizes.1 tab_sizes.2 (one_tab 256)
theorem vw_tab_len : (vw (tabN 256)).length = 256 := by rw [vw_length, tabN_length]
set_option maxRecDepth 100000 in
set_option maxHeartbeats 2000000 in
theorem speaks02 (w : World) : Calls Try.prog 21 #[] w fun e w' => e = .returned (.bool true) ∧ Kept noB w w' := by
  have hst := store_tab
  have hvl := vw_tab_len
  go_enter Try.func21, Try.ntmps21
  go_wp2_with fail
  refine (make_calls _).mono ?_
  rintro e w1 ⟨rfl, hk1⟩
  go_wp2_with fail
  clear hst hvl
  have ht := tab_new w1
  have hk := hk1.alloc (.cells (vw (tabN 256)).toArray 37)
  generalize w1.alloc (.cells (vw (tabN 256)).toArray 37) = w2 at *
  have hc : ∀ d, (w2.drewN d).cell? ⟨w1.heap.size, 1, none⟩ = some (.int .u32 1996959894) := fun d => by
    show w2.cell? _ = _
    rw [← known_one, ht.cell, vw_tab_get 1 (by omega)]
  refine (sum_calls w1.heap.size [49, 50, 51, 52, 53, 54, 55, 56, 57] w2 ht (by decide)).mono ?_
  rintro e w' ⟨rfl, d, rfl⟩
  rw [known_sum]
  have hc' := hc d
  go_wp2
  go_ret
  exact ⟨rfl, hk.drewN d⟩
set_option maxRecDepth 100000 in
set_option maxHeartbeats 4000000 in
theorem crcSums_walk (l0 : List UInt8) (a B : Int) (w : World) (hl0 : (l0.length : Int) ≤ 140737488351232) (hB0 : 0 ≤ B) (hB : B ≤ 4294967295) :
    Calls Try.prog 5 #[.string (bs l0), .int .i64 a, .int .u32 B] w fun e w' => e = .returned (.bool true) ∧ Kept noB w w' := by
  have hsz : ((bs l0).size : Int) ≤ 140737488351232 := by rw [bs_size]; exact hl0
  have hst := store_tab
  have hvl := vw_tab_len
  have HB := Lib.hid hB
  clear hB
  go_enter Try.func5, Try.ntmps5
  go_wp2_with fail
  refine (speaks02 _).mono ?_
  rintro e w1 ⟨rfl, hk1⟩
  go_wp2_with fail
  all_goals
    first
    | (rw [bs_take]
       have hlt : (l0.take 100).length ≤ 100 := by simp; omega
       generalize l0.take 100 = lt at *)
    | (have hlt : l0.length ≤ 100 := by have h : (bs l0).size ≤ 100 := by omega
                                        rwa [bs_size] at h
       generalize l0 = lt at *)
    refine (make_calls _).mono ?_
    rintro e w2 ⟨rfl, hk2⟩
    go_wp2_with fail
    clear hst hvl
    have ht := tab_new w2
    have hk := (hk1.no hk2).alloc (.cells (vw (tabN 256)).toArray 37)
    generalize w2.alloc (.cells (vw (tabN 256)).toArray 37) = w3 at *
    obtain ⟨x, hx⟩ : ∃ x, (B % 256).toNat = x := ⟨_, rfl⟩
    have hx1 : B.tmod 256 = (x : Int) := by rw [Int.tmod_eq_emod_of_nonneg hB0]; omega
    have hxl : x < 256 := by omega
    have c1 := Calls.qkept (w := w3) (fun w1 hk' => (sum_calls w2.heap.size lt w1 (ht.kept hk' (fun e => e)) (by omega)).mono fun e w' ⟨h1, d, h2⟩ => ⟨h1, h2 ▸ (Kept.refl noB w1).drewN d⟩)
    have c2 := Calls.qkept (w := w3) (fun w1 _ => (rsum_calls lt w1 (by omega)).mono fun e w' ⟨h1, h2⟩ => ⟨h1, h2 ▸ Kept.refl noB w1⟩)
    have c3 := Calls.qkept (w := w3) (fun w1 _ => (at_calls (x : Int) w1 (by omega) (by omega)).mono fun e w' ⟨h1, h2⟩ => ⟨h1, h2 ▸ Kept.refl noB w1⟩)
    have c4 := Calls.qkept (w := w3) (fun w1 _ => turn_calls lt a B w1 hB0 HB.out (by omega))
    have c5 := Calls.qkept (w := w3) (fun w1 _ => rturn_calls lt a B w1 hB0 HB.out (by omega))
    have c6 := Calls.qkept (w := w3) (fun w1 _ => (sum_nil (bs lt) w1).mono fun e w' ⟨h1, h2⟩ => ⟨h1, h2 ▸ Kept.refl noB w1⟩)
    have hc := cell_regrown (w := w3) (a := ⟨w2.heap.size, x, none⟩) (v := .int .u32 ((crcT x : Nat) : Int)) (by rw [ht.cell, vw_tab_get x hxl])
    rw [Int.toNat_natCast] at c3
    have hxi : (x : Int) < 256 := by omega
    have hx0 : (0 : Int) ≤ (x : Int) := by omega
    have hxw : IntKind.i64.wrap (x : Int) = (x : Int) := by rw [IntKind.wrap_i64]; omega
    clear hx
    refine wp_region_quiet_below (by kernel_rfl) (by kernel_rfl) ?_
    repeat (quiet_step (first | with_reducible exact c1 _ _ | with_reducible exact c2 _ _ | with_reducible exact c3 _ _ | with_reducible exact c4 _ _ | with_reducible exact c5 _ _ | with_reducible exact c6 _ _))
    refine wpQuiet_nil ?_
    intro _ hw'
    obtain ⟨⟨dq, osq⟩, hw''⟩ := hw'
    subst hw''
    go_wp2
    go_ret
    exact ⟨rfl, hk.no (Kept.regrown w3 dq osq)⟩
end Go.Proofs.Ytngpfjmifaecjaa
