/- The walk of WireNumbers. Conditions: the numbers are of their kinds. -/
import Derived.Test.YtngpfjmifaecjaaLaw01
import Derived.Test.YtngpfjmifaecjaaPlainBits
namespace Go.Proofs.Ytngpfjmifaecjaa
open Go.RowKit

set_option maxHeartbeats 2000000 in
theorem wireNumbers_walk (n v x0 x1 x2 : Int) (w : World) (hn0 : 0 ≤ n) (hn1 : n ≤ 18446744073709551615) (hv0 : 0 ≤ v) (hv1 : v ≤ 18446744073709551615) :
    Calls Try.prog 11 #[.int .u64 n, .int .u64 v, .agg #[.int .i64 x0, .int .i64 x1, .int .i64 x2]] w fun e w' => e = .returned (.bool true) ∧ Kept noB w w' := by
  have HN1 := Lib.hid hn1
  have HV1 := Lib.hid hv1
  clear hn1 hv1
  go_enter Try.func11, Try.ntmps11
  go_wp2_with fail
  refine (speaks01 _).mono ?_
  rintro e w1 ⟨rfl, hk1⟩
  have hb : Blk w1 w.heap.size 99 [.int .i64 x0, .int .i64 x1, .int .i64 x2] := (Blk.new w _ _).kept hk1 (fun e => e)
  have hc0 : w1.cell? ⟨w.heap.size, 0, none⟩ = some (.int .i64 x0) := hb.cell 0
  have hc1 : w1.cell? ⟨w.heap.size, 1, none⟩ = some (.int .i64 x1) := hb.cell 1
  have hc2 : w1.cell? ⟨w.heap.size, 2, none⟩ = some (.int .i64 x2) := hb.cell 2
  have HK1 := Lib.hid (((Kept.refl noB w).alloc _).no hk1)
  clear hk1 hb
  go_wp2
  go_quiet (fail)
  have HK2 := Lib.hid (HK1.out.drewN nq)
  clear HK1 hc0 hc1 hc2
  generalize w1.drewN nq = w2 at *
  go_wp2_with fail
  refine (bytes_calls _ _ _ (by omega)).mono ?_
  rintro e w3 ⟨rfl, hk3⟩
  have HK3 := Lib.hid (HK2.out.no hk3)
  clear hk3 HK2
  go_wp2_with fail
  refine (rbytes_calls _ _ _ (by omega) HN1.out).mono ?_
  rintro e w4 ⟨rfl, hk4⟩
  have HK4 := Lib.hid (HK3.out.no hk4)
  clear hk4 HK3
  go_wp2_with fail
  refine (field_calls _ _ _ _ (by omega) HN1.out).mono ?_
  rintro e w' ⟨rfl, rfl⟩
  go_wp2_with fail
  refine (rfield_calls _ _ _ _ (by omega) HN1.out).mono ?_
  rintro e w' ⟨rfl, rfl⟩
  go_wp2_with fail
  refine (with_calls _ _ _ _ _ (by omega) HN1.out (by omega) HV1.out).mono ?_
  rintro e w' ⟨rfl, d, rfl⟩
  have HK5 := Lib.hid (HK4.out.drewN d)
  clear HK4
  generalize w4.drewN d = w5 at *
  cases h : isField x1 x2
  · rw [show withV n x1 x2 v = n by simp [withV, h]]
    rcases isField_no h with h1 | h1 | h1 | ⟨h1, h2, h3⟩
    all_goals
      clear h
      go_wp2_with fail
      all_goals
        go_ret
        exact ⟨by simp, HK5.out⟩
  · obtain ⟨h1, h2, h3, h4⟩ := isField_yes h
    have HM0 := withV_ge n x1 x2 v hn0
    have HM1 := Lib.hid (withV_le n x1 x2 v hn0 HN1.out)
    have HW := Lib.hid (fun i => with_one n x1 x2 v i h)
    clear h
    go_wp2_with fail
    go_loop [11] (fun i => ∃ k : Nat, k ≤ 64 ∧ i = .int .i64 k) (fun i => 64 - (intOf i).toNat)
    case atStart => exact ⟨0, by omega, rfl⟩
    case round =>
      obtain ⟨k, hk, rfl⟩ := hrel
      by_cases hlt : k < 64
      · by_cases ha : x1 ≤ (k : Int)
        · by_cases hb : (k : Int) < x1 + x2
          · have e := HW.out k (by omega) (by omega)
            rw [if_pos ⟨ha, hb⟩] at e
            have HE := Lib.hid e
            clear e
            go_wp2_with fail
            refine (rfield_calls _ _ _ _ hn0 HN1.out).mono ?_
            rintro e w' ⟨rfl, rfl⟩
            go_wp2_with fail
            refine (rfield_calls _ _ _ _ hv0 HV1.out).mono ?_
            rintro e w' ⟨rfl, rfl⟩
            go_wp2_with fail
            refine (rfield_calls _ _ _ _ HM0 HM1.out).mono ?_
            rintro e w' ⟨rfl, rfl⟩
            rw [HE.out]
            go_wp2_with fail
            exact ⟨⟨k + 1, by omega, by go_num⟩, by simp [intOf]; omega⟩
          · have e := HW.out k (by omega) (by omega)
            rw [if_neg (by omega)] at e
            have HE := Lib.hid e
            clear e
            go_wp2_with fail
            refine (rfield_calls _ _ _ _ hn0 HN1.out).mono ?_
            rintro e w' ⟨rfl, rfl⟩
            go_wp2_with fail
            refine (rfield_calls _ _ _ _ HM0 HM1.out).mono ?_
            rintro e w' ⟨rfl, rfl⟩
            rw [HE.out]
            go_wp2_with fail
            exact ⟨⟨k + 1, by omega, by go_num⟩, by simp [intOf]; omega⟩
        · have e := HW.out k (by omega) (by omega)
          rw [if_neg (by omega)] at e
          have HE := Lib.hid e
          clear e
          go_wp2_with fail
          refine (rfield_calls _ _ _ _ hn0 HN1.out).mono ?_
          rintro e w' ⟨rfl, rfl⟩
          go_wp2_with fail
          refine (rfield_calls _ _ _ _ HM0 HM1.out).mono ?_
          rintro e w' ⟨rfl, rfl⟩
          rw [HE.out]
          go_wp2_with fail
          exact ⟨⟨k + 1, by omega, by go_num⟩, by simp [intOf]; omega⟩
      · obtain rfl : k = 64 := by omega
        go_wp2_with fail
        go_ret
        exact ⟨rfl, HK5.out⟩
end Go.Proofs.Ytngpfjmifaecjaa
