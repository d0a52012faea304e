/- The walk of WireBack. Conditions: the slices lie in memory, their numbers are of their kinds. -/
import Derived.Test.YtngpfjmifaecjaaLaw01
import Derived.Test.YtngpfjmifaecjaaPlainBack
import Derived.Test.YtngpfjmifaecjaaRowKt
namespace Go.Proofs.Ytngpfjmifaecjaa
open Go.RowKit

/-- the size of a number, by a byte -/
def szOf (z : Int) : Int := 1 + z % 8
def backF (ls zs : List Int) (i : Nat) : List UInt8 := beU (ls.getD i 0).toNat (szOf (zs.getD i 0)).toNat
theorem szOf_in (z : Int) : 1 ≤ szOf z ∧ szOf z ≤ 8 := by unfold szOf; omega
theorem backF_le (ls zs : List Int) (i : Nat) : (backF ls zs i).length ≤ 8 := by
  have := szOf_in (zs.getD i 0)
  rw [backF, beU_length]
  omega

set_option maxHeartbeats 2000000 in
theorem wireBack_none (a0 a1 : Option Addr) (n0 c0 n1 c1 : Nat) (w : World) (h : n0 = 0 ∨ n1 = 0) (hm : n0 ≤ maxLen) (hm1 : n1 ≤ maxLen) :
    Calls Try.prog 10 #[.slice a0 n0 c0, .slice a1 n1 c1] w fun e w' => e = .returned (.bool true) ∧ Kept noB w w' := by
  unfold maxLen at hm hm1
  rcases h with rfl | rfl
  all_goals
    go_enter Try.func10, Try.ntmps10
    go_wp2_with fail
    refine (speaks01 _).mono ?_
    rintro e w1 ⟨rfl, hk1⟩
    go_wp2_with fail
    go_loopw [5, 6] (fun s i wr => s = .string (bs []) ∧ i = .int .i64 0 ∧ Kept noB w wr) (fun _ _ _ => 0)
    case atStart => exact ⟨rfl, rfl, hk1⟩
    case round =>
      obtain ⟨rfl, rfl, hk⟩ := hrel
      have fin : ∀ g w2, RdS w w2 g [] false → endV [] false = 0 := fun _ _ _ => rfl
      go_wp2_with fail
      all_goals
        refine (read_s hk [] (by decide)).mono ?_
        rintro e w2 ⟨g, rfl, h2⟩
        go_wp2_with fail
        go_loop [8] (fun i => i = .int .i64 0) (fun _ => 0)
        case atStart => rfl
        case round =>
          subst hrel
          go_wp2_with fail
          refine (end_s h2).mono ?_
          rintro e w' ⟨rfl, rfl⟩
          rw [show endV [] false = 0 from rfl]
          go_wp2
          go_ret
          exact ⟨rfl, h2.2.1⟩

theorem szOf_walk (z : Int) (h : 0 ≤ z) (_h2 : z ≤ 255) : IntKind.i64.wrap (1 + IntKind.i64.wrap (z.tmod 8)) = szOf z := by
  rw [Int.tmod_eq_emod_of_nonneg h, IntKind.wrap_i64, IntKind.wrap_i64, szOf]
  omega
set_option maxHeartbeats 2000000 in
theorem wireBack_some (b0 o0 b1 o1 n0 c0 n1 c1 : Nat) (ls zs : List Int) (w : World) (hm : n0 ≤ maxLen) (hm1 : n1 ≤ maxLen)
    (h0 : IntsAt .u64 w b0 o0 n0 ls) (h1 : IntsAt .u8 w b1 o1 n1 zs) (hl : ∀ i, 0 ≤ ls.getD i 0 ∧ ls.getD i 0 ≤ 18446744073709551615) (hz : ∀ i, 0 ≤ zs.getD i 0 ∧ zs.getD i 0 ≤ 255) :
    Calls Try.prog 10 #[.slice (some ⟨b0, o0, none⟩) n0 c0, .slice (some ⟨b1, o1, none⟩) n1 c1] w fun e w' => e = .returned (.bool true) ∧ Kept noB w w' := by
  unfold maxLen at hm hm1
  obtain ⟨N, hN⟩ : ∃ N, N = min (min n0 n1) 20 := ⟨_, rfl⟩
  have HN := Lib.hid hN
  have hN1 : N ≤ n0 := by omega
  have hN2 : N ≤ n1 := by omega
  have hN3 : N ≤ 20 := by omega
  clear hN
  have HL := Lib.hid hl
  have HZ := Lib.hid hz
  clear hl hz
  go_enter Try.func10, Try.ntmps10
  go_wp2_with fail
  refine (speaks01 _).mono ?_
  rintro e w1 ⟨rfl, hk1⟩
  go_wp2_with fail
  go_loopw [5, 6] (fun s i wr => ∃ k : Nat, k ≤ N ∧ s = .string (bs (catF (backF ls zs) k)) ∧ i = .int .i64 k ∧ Kept noB w wr) (fun _ i _ => N - (intOf i).toNat)
  case atStart => exact ⟨0, Nat.zero_le _, rfl, rfl, hk1⟩
  case round =>
    obtain ⟨k, hkN, rfl, rfl, hk⟩ := hrel
    by_cases hlt : k < N
    · have hx := (h0.kept hk) k (by omega)
      have hy := (h1.kept hk) k (by omega)
      have hx1 := (HL.out k).1
      have hy1 := (HZ.out k).1
      have hy2 := (HZ.out k).2
      have hlen := catF_le (backF ls zs) (backF_le ls zs) k
      have hF : Hid (catF (backF ls zs) (k + 1) = catF (backF ls zs) k ++ beU (ls.getD k 0).toNat (szOf (zs.getD k 0)).toNat) := rfl
      generalize ls.getD k 0 = x at *
      generalize zs.getD k 0 = y at *
      generalize catF (backF ls zs) k = cs at *
      have hsz : ¬ 9223372036854775807 < (bs cs).size + (bs (bytesV x (szOf y))).size := by
        rw [bs_size, bs_size, bytesV]
        split <;> simp [beU_length] <;> omega
      have ka := cell_regrown hx
      have kb := cell_regrown hy
      have cb := Calls.qkept (w := wr) (fun w1 _ => bytes_calls x (szOf y) w1 hx1)
      have hw := szOf_walk y hy1 hy2
      have HX := Lib.hid hx
      have HY := Lib.hid hy
      clear hx hy
      go_wp2_with fail
      refine wp_region_quiet_below (by kernel_rfl) (by kernel_rfl) ?_
      repeat (quiet_step (with_reducible exact cb _ _))
      refine wpQuiet_nil ?_
      intro _ hw'
      obtain ⟨⟨dq, osq⟩, hw''⟩ := hw'
      subst hw''
      have HK := Lib.hid (hk.no (Kept.regrown wr dq osq))
      clear ka kb cb hk hw hsz
      generalize Sort.grow (redrawn wr dq) osq = w2 at *
      go_wp2_with fail
      refine ⟨⟨k + 1, by omega, ?_, by go_num, HK.out⟩, by simp [intOf]; omega⟩
      rw [hF.out, bs_append]
      have e := szOf_in y
      rw [bytesV, if_pos e]
    · obtain rfl : k = N := by omega
      have hge : ¬ ((k : Int) < (n0 : Int) ∧ (k : Int) < (n1 : Int) ∧ (k : Int) < 20) := by have := HN.out; omega
      have hlen := catF_le (backF ls zs) (backF_le ls zs) k
      go_wp2_with fail
      all_goals
        refine (read_s hk _ (by omega)).mono ?_
        rintro e w2 ⟨g, rfl, h2⟩
        rw [catF_catT] at h2
        go_wp2_with fail
        go_loopw [8] (fun i wr => ∃ c : Nat, c ≤ k ∧ i = .int .i64 c ∧ RdS w wr g (catT (backF ls zs) c (k - c)) false) (fun i _ => k - (intOf i).toNat)
        case atStart => exact ⟨0, Nat.zero_le _, rfl, h2⟩
        case round =>
          clear h2 hk
          obtain ⟨c, hck, rfl, h3⟩ := hrel
          by_cases hlt : c < k
          · have HXK : Hid (∀ w', Kept noB w w' → w'.cell? ⟨b0, o0 + c, none⟩ = some (.int .u64 (ls.getD c 0))) := fun w' hk' => (h0.kept hk') c (by omega)
            have hx := (h0.kept h3.2.1) c (by omega)
            have hy := (h1.kept h3.2.1) c (by omega)
            have hx1 := (HL.out c).1
            have HX2 := Lib.hid (HL.out c).2
            have hy1 := (HZ.out c).1
            have hy2 := (HZ.out c).2
            have hF : backF ls zs c = beU (ls.getD c 0).toNat (szOf (zs.getD c 0)).toNat := rfl
            rw [show k - c = (k - (c + 1)) + 1 by omega, catT, hF] at h3
            clear hF
            generalize ls.getD c 0 = x at *
            generalize zs.getD c 0 = y at *
            have hs := szOf_in y
            have hfw := beU_field x (szOf y).toNat (by omega) (by omega)
            rw [show (((szOf y).toNat : Nat) : Int) = szOf y by omega] at hfw
            have hraw := raw_pre (beU x.toNat (szOf y).toNat) (catT (backF ls zs) (c + 1) (k - (c + 1))) (szOf y) (by rw [beU_length]; omega)
            go_wp2_with fail
            obtain ⟨q, hq⟩ : ∃ q, 1 + y % 8 = q := ⟨_, rfl⟩
            rw [hq]
            have hq' : szOf y = q := hq
            rw [hq'] at hs hfw hraw h3
            clear hq hq' hy hy1 hy2
            have hq8 : IntKind.i64.wrap (8 * q) = 8 * q := by rw [IntKind.wrap_i64]; omega
            have hnum : Hid (Calls Try.prog 38 #[.pointer (some ⟨g, 0, none⟩), .int .i64 q] wr.drew fun e w' => e = .returned (.int .u64 (fieldV x 0 (8 * q))) ∧ RdS w w' g (catT (backF ls zs) (c + 1) (k - (c + 1))) false) := by
              refine (num_s h3.drew q).mono ?_
              rw [numSize_in q (by omega), hraw.1, hraw.2.1, hraw.2.2, hfw]
              exact fun _ _ h => h
            clear hfw hraw h3
            go_region_held3 (fun w' => w'.cell? ⟨b0, o0 + c, none⟩ = some (.int .u64 x)) (first | go_keep | exact HXK.out _ h4.2.1)
              (first | (go_at_call 38; (with_reducible refine hnum.out.mono ?_); rintro e w4 ⟨rfl, h4⟩) | (go_at_call 43; (with_reducible refine (field_calls x 0 (8 * q) _ hx1 HX2.out).mono ?_); rintro e w' ⟨rfl, rfl⟩))
            all_goals go_wp2_with fail
            all_goals exact ⟨⟨c + 1, by omega, by go_num, h4⟩, by simp [intOf]; omega⟩
          · obtain rfl : c = k := by omega
            go_wp2_with fail
            all_goals
              refine (end_s h3).mono ?_
              rintro e w' ⟨rfl, rfl⟩
              rw [show endV (catT (backF ls zs) c (c - c)) false = 0 by simp [catT, endV]]
              go_wp2
              go_ret
              exact ⟨rfl, h3.2.1⟩
end Go.Proofs.Ytngpfjmifaecjaa
