/- The walk of WireReads. Conditions: the slice lies in memory, its numbers are ints. -/
import Derived.Test.YtngpfjmifaecjaaLaw01
import Derived.Test.YtngpfjmifaecjaaPlainReads
import Derived.Test.YtngpfjmifaecjaaRowKt
namespace Go.Proofs.Ytngpfjmifaecjaa
open Go.RowKit
set_option maxRecDepth 100000 in
set_option maxHeartbeats 4000000 in
theorem wireReads_walk (l0 : List UInt8) (a0 : Option Addr) (n0 c0 : Nat) (zs : List Int) (w : World) (hm : n0 ≤ maxLen) (hl0 : (l0.length : Int) ≤ 140737488351232)
    (hz : ∀ i, -9223372036854775808 ≤ zs.getD i 0 ∧ zs.getD i 0 ≤ 9223372036854775807) (hc : n0 = 0 ∨ (∃ b0 o0, a0 = some ⟨b0, o0, none⟩ ∧ IntsAt .i64 w b0 o0 n0 zs)) :
    Calls Try.prog 9 #[.string (bs l0), .slice a0 n0 c0] w fun e w' => e = .returned (.bool true) ∧ Kept noB w w' := by
  have hsz : ((bs l0).size : Int) ≤ 140737488351232 := by rw [bs_size]; exact hl0
  unfold maxLen at hm
  have HC := Lib.hid hc
  have HZ := Lib.hid hz
  clear hc hz
  go_enter Try.func9, Try.ntmps9
  go_wp2_with fail
  refine (speaks01 _).mono ?_
  rintro e w1 ⟨rfl, hk1⟩
  go_wp2_with fail
  all_goals
    first
    | (rw [bs_take]
       have hlt : (l0.take 60).length ≤ 60 := by simp; omega
       generalize l0.take 60 = lt at *)
    | (have hlt : l0.length ≤ 60 := by have h : (bs l0).size ≤ 60 := by omega
                                       rwa [bs_size] at h
       generalize l0 = lt at *)
    refine (read_s hk1 _ (by omega)).mono ?_
    rintro e w2 ⟨g, rfl, h2⟩
    obtain ⟨N, hN⟩ : ∃ N, N = min n0 20 := ⟨_, rfl⟩
    go_wp2_with fail
    go_loopw [6, 7, 8] (fun s b i wr => ∃ (l : List UInt8) (sh : Bool) (k : Nat), k ≤ N ∧ l.length ≤ 60 ∧ s = .string (bs l) ∧ b = .bool sh ∧ i = .int .i64 k ∧ RdS w wr g l sh) (fun _ _ i _ => N - (intOf i).toNat)
    case atStart => exact ⟨lt, false, 0, Nat.zero_le _, hlt, rfl, rfl, rfl, h2⟩
    case round =>
      obtain ⟨l, sh, k, hkN, hl, rfl, rfl, rfl, h3⟩ := hrel
      have hls : (bs l).size ≤ 60 := by rw [bs_size]; exact hl
      by_cases hkn : k < N
      · obtain ⟨b0, o0, rfl, i0⟩ : ∃ b0 o0, a0 = some ⟨b0, o0, none⟩ ∧ IntsAt .i64 w b0 o0 n0 zs := by
          rcases HC.out with h | h
          · omega
          · exact h
        have hx := (i0.kept h3.2.1) k (by omega)
        have hz := HZ.out k
        generalize zs.getD k 0 = x at *
        obtain ⟨hz1, hz2⟩ := hz
        have hN1 : k < n0 := by omega
        have hN2 : k < 20 := by omega
        clear hN
        by_cases hx0 : 0 ≤ x
        · by_cases hbad : x < 1 ∨ 8 < x ∨ (l.length : Int) < x ∨ sh = true
          · have hnum : Hid (Calls Try.prog 38 #[.pointer (some ⟨g, 0, none⟩), .int .i64 x] wr fun e w' => e = .returned (.int .u64 0) ∧ RdS w w' g l true) := by
              have hno := num_no l sh x hbad
              refine (num_s h3 x).mono ?_
              rw [hno.1, hno.2.1, hno.2.2]
              exact fun _ _ h => h
            have hbad' : x < 1 ∨ 8 < x ∨ ((bs l).size : Int) < x ∨ sh = true := by rw [bs_size]; exact hbad
            clear hbad
            rcases hbad' with hb | hb | hb | rfl
            all_goals
              go_wp2_with fail
              all_goals
                refine hnum.out.mono ?_
                rintro e w3 ⟨rfl, h4⟩
                go_wp2_with fail
                all_goals
                  refine (left_b h4).mono ?_
                  rintro e w' ⟨rfl, rfl⟩
                  go_wp2_with fail
                  refine (end_s h4).mono ?_
                  rintro e w' ⟨rfl, rfl⟩
                  rw [show endV l true = 2 from rfl]
                  go_wp2_with fail
                  exact ⟨⟨l, true, k + 1, by omega, hl, rfl, rfl, by go_num, h4⟩, by simp [intOf]; omega⟩
          · have h1 : 1 ≤ x := by omega
            have h8 : x ≤ 8 := by omega
            have hlx : x ≤ (l.length : Int) := by omega
            have hlx' : x ≤ ((bs l).size : Int) := by rw [bs_size]; exact hlx
            obtain rfl : sh = false := by cases sh; rfl; exact absurd (.inr (.inr (.inr rfl))) hbad
            have hnm : ∀ w, Calls Try.prog 37 #[.string ((bs l).extract 0 x.toNat)] w fun e w' => e = .returned (.int .u64 ((numU (l.take x.toNat) : Nat) : Int)) ∧ w' = w := fun w => by
              rw [bs_take]
              refine (number_calls (l.take x.toNat) w (by rw [List.length_take]; omega)).mono ?_
              rintro e w' ⟨rfl, rfl⟩
              exact ⟨rfl, rfl⟩
            clear hbad
            go_wp2_with fail
            go_quiet ((go_at_call 37; exact Calls.quiet_of_same (hnm _)))
            have h3d := h3.drewN nq
            clear h3 hnm
            generalize wr.drewN nq = wq at *
            have hnum : Hid (Calls Try.prog 38 #[.pointer (some ⟨g, 0, none⟩), .int .i64 x] wq fun e w' => e = .returned (.int .u64 ((numU (l.take x.toNat) : Nat) : Int)) ∧ RdS w w' g (l.drop x.toNat) false) := by
              have hyes := num_yes l x h1 h8 hlx
              refine (num_s h3d x).mono ?_
              rw [hyes.1, hyes.2.1, hyes.2.2]
              exact fun _ _ h => h
            clear h3d
            rw [bs_drop]
            have hld : (l.drop x.toNat).length ≤ 60 := by rw [List.length_drop]; omega
            generalize l.drop x.toNat = l2 at *
            go_wp2_with fail
            refine hnum.out.mono ?_
            rintro e w3 ⟨rfl, h4⟩
            cases l2 with
            | nil =>
              have hz2 : (bs []).size = 0 := rfl
              go_wp2_with fail
              refine (left_b h4).mono ?_
              rintro e w' ⟨rfl, rfl⟩
              go_wp2_with fail
              refine (end_s h4).mono ?_
              rintro e w' ⟨rfl, rfl⟩
              rw [show endV [] false = 0 from rfl]
              go_wp2_with fail
              exact ⟨⟨[], false, k + 1, by omega, hld, rfl, rfl, by go_num, h4⟩, by simp [intOf]; omega⟩
            | cons y l2 =>
              have hz2 : 0 < (bs (y :: l2)).size := by rw [bs_size]; simp
              go_wp2_with fail
              refine (left_b h4).mono ?_
              rintro e w' ⟨rfl, rfl⟩
              go_wp2_with fail
              refine (end_s h4).mono ?_
              rintro e w' ⟨rfl, rfl⟩
              rw [show endV (y :: l2) false = 3 from rfl]
              go_wp2_with fail
              exact ⟨⟨y :: l2, false, k + 1, by omega, hld, rfl, rfl, by go_num, h4⟩, by simp [intOf]; omega⟩
        · by_cases hbad : (l.length : Int) < -1 - x ∨ sh = true
          · have hraw : Hid (Calls Try.prog 39 #[.pointer (some ⟨g, 0, none⟩), .int .i64 (-1 - x)] wr fun e w' => e = .returned (.string ⟨#[]⟩) ∧ RdS w w' g l true) := by
              have hno := raw_no l sh (-1 - x) hbad
              refine (raw_s h3 (-1 - x)).mono ?_
              rw [hno.1, hno.2.1, hno.2.2]
              exact fun _ _ h => h
            have hbad' : ((bs l).size : Int) < -1 - x ∨ sh = true := by rw [bs_size]; exact hbad
            clear hbad
            rcases hbad' with hb | rfl
            all_goals
              go_wp2_with fail
              all_goals
                refine hraw.out.mono ?_
                rintro e w3 ⟨rfl, h4⟩
                go_wp2_with fail
                all_goals
                  refine (left_b h4).mono ?_
                  rintro e w' ⟨rfl, rfl⟩
                  go_wp2_with fail
                  refine (end_s h4).mono ?_
                  rintro e w' ⟨rfl, rfl⟩
                  rw [show endV l true = 2 from rfl]
                  go_wp2_with fail
                  exact ⟨⟨l, true, k + 1, by omega, hl, rfl, rfl, by go_num, h4⟩, by simp [intOf]; omega⟩
          · have hlx : -1 - x ≤ (l.length : Int) := by omega
            have hlx' : -1 - x ≤ ((bs l).size : Int) := by rw [bs_size]; exact hlx
            have hx1 : 0 ≤ -1 - x := by omega
            obtain rfl : sh = false := by cases sh; rfl; exact absurd (.inr rfl) hbad
            clear hbad
            go_wp2_with fail
            go_quiet (fail)
            have h3d := h3.drewN nq
            clear h3
            generalize wr.drewN nq = wq at *
            have hraw : Hid (Calls Try.prog 39 #[.pointer (some ⟨g, 0, none⟩), .int .i64 (-1 - x)] wq fun e w' => e = .returned (.string (bs (l.take (-1 - x).toNat))) ∧ RdS w w' g (l.drop (-1 - x).toNat) false) := by
              have hyes := raw_yes l (-1 - x) hx1 hlx
              refine (raw_s h3d (-1 - x)).mono ?_
              rw [hyes.1, hyes.2.1, hyes.2.2]
              exact fun _ _ h => h
            clear h3d
            rw [bs_drop, bs_take]
            have hld : (l.drop (-1 - x).toNat).length ≤ 60 := by rw [List.length_drop]; omega
            generalize l.drop (-1 - x).toNat = l2 at *
            generalize l.take (-1 - x).toNat = l3 at *
            go_wp2_with fail
            refine hraw.out.mono ?_
            rintro e w3 ⟨rfl, h4⟩
            cases l2 with
            | nil =>
              have hz2 : (bs []).size = 0 := rfl
              go_wp2_with fail
              refine (left_b h4).mono ?_
              rintro e w' ⟨rfl, rfl⟩
              go_wp2_with fail
              refine (end_s h4).mono ?_
              rintro e w' ⟨rfl, rfl⟩
              rw [show endV [] false = 0 from rfl]
              go_wp2_with fail
              exact ⟨⟨[], false, k + 1, by omega, hld, rfl, rfl, by go_num, h4⟩, by simp [intOf]; omega⟩
            | cons y l2 =>
              have hz2 : 0 < (bs (y :: l2)).size := by rw [bs_size]; simp
              go_wp2_with fail
              refine (left_b h4).mono ?_
              rintro e w' ⟨rfl, rfl⟩
              go_wp2_with fail
              refine (end_s h4).mono ?_
              rintro e w' ⟨rfl, rfl⟩
              rw [show endV (y :: l2) false = 3 from rfl]
              go_wp2_with fail
              exact ⟨⟨y :: l2, false, k + 1, by omega, hld, rfl, rfl, by go_num, h4⟩, by simp [intOf]; omega⟩
      · obtain rfl : k = N := by omega
        have hk3 := h3.2.1
        clear h3 h2
        by_cases hkn0 : k < n0
        all_goals
          go_wp2_with fail
          refine (read_s hk3 _ (by omega)).mono ?_
          rintro e w3 ⟨g3, rfl, h4⟩
          go_wp2_with fail
          refine (raw_s h4 _).mono ?_
          rintro e w5 ⟨rfl, h5⟩
          rw [show rawOut lt false (-1) = [] by simp [rawOut, rawBad], show bs [] = (⟨#[]⟩ : ByteArray) from rfl]
          rw [show rawBad lt false (-1) = true by simp [rawBad]] at h5
          go_wp2_with fail
          refine (end_s h5).mono ?_
          rintro e w' ⟨rfl, rfl⟩
          rw [show endV (rawRest lt false (-1)) true = 2 from rfl]
          go_wp2_with fail
          refine (num_nil _ _).mono ?_
          rintro e w' ⟨rfl, rfl⟩
          go_wp2_with fail
          refine (raw_nil _ _).mono ?_
          rintro e w' ⟨rfl, rfl⟩
          go_wp2_with fail
          refine (left_nil _).mono ?_
          rintro e w' ⟨rfl, rfl⟩
          go_wp2_with fail
          refine (end_nil _).mono ?_
          rintro e w' ⟨rfl, rfl⟩
          go_wp2
          go_ret
          exact ⟨rfl, h5.2.1⟩
end Go.Proofs.Ytngpfjmifaecjaa
