/- The walk of CrcBursts. Conditions: the text's length, the bits are of their kind. -/
import Derived.Test.YtngpfjmifaecjaaLaw02
import Derived.Test.YtngpfjmifaecjaaPlainBurst
namespace Go.Proofs.Ytngpfjmifaecjaa
open Go.RowKit

theorem run_string_four (W : World) (v0 v1 v2 v3 : Int) : (convert 45 9 (.slice (some ⟨W.heap.size, 0, none⟩) 4 4)).run Try.prog (W.alloc (.cells #[.int .u8 v0, .int .u8 v1, .int .u8 v2, .int .u8 v3] 5)) = .ok (.string (strOfNums [v0, v1, v2, v3])) (W.alloc (.cells #[.int .u8 v0, .int .u8 v1, .int .u8 v2, .int .u8 v3] 5)) :=
  run_convert_bytes_arg (P := Try.prog) _ 45 5 Try.underlying45 Try.underlying5 W.heap.size 0 4 4 [v0, v1, v2, v3] (by simp) (fun i hi => by
    have hc : i = 0 ∨ i = 1 ∨ i = 2 ∨ i = 3 := by omega
    rcases hc with rfl | rfl | rfl | rfl <;> simp) 9 Try.underlying9
theorem le4_walk (n : Nat) (h : n < 4294967296) : strOfNums [(n : Int) % 256, (n : Int) / 256 % 256, (n : Int) / 65536 % 256, (n : Int) / 16777216] = bs (le4 n) := by
  have h1 : ((n : Int) % 256).toNat = n % 256 := by omega
  have h2 : ((n : Int) / 256 % 256).toNat = n / 256 % 256 := by omega
  have h3 : ((n : Int) / 65536 % 256).toNat = n / 65536 % 256 := by omega
  have h4 : ((n : Int) / 16777216).toNat = n / 16777216 % 256 := by omega
  simp only [strOfNums, List.map_cons, List.map_nil, h1, h2, h3, h4]
  rfl
theorem or4_walk (b0 b1 b2 b3 : UInt8) :
    bits .or .u32 (bits .or .u32 (bits .or .u32 (((((bs [b0, b1, b2, b3])[0]'(by simp [bs_size])).toNat : Nat) : Int) % 4294967296)
      (((((bs [b0, b1, b2, b3])[1]'(by simp [bs_size])).toNat : Nat) : Int) % 4294967296 * 256 % 4294967296))
      (((((bs [b0, b1, b2, b3])[2]'(by simp [bs_size])).toNat : Nat) : Int) % 4294967296 * 65536 % 4294967296))
      (((((bs [b0, b1, b2, b3])[3]'(by simp [bs_size])).toNat : Nat) : Int) % 4294967296 * 16777216 % 4294967296) = ((leVal [b0, b1, b2, b3] : Nat) : Int) := by
  have h0 := b0.toNat_lt
  have h1 := b1.toNat_lt
  have h2 := b2.toNat_lt
  have h3 := b3.toNat_lt
  show bits .or .u32 (bits .or .u32 (bits .or .u32 (((b0.toNat : Nat) : Int) % 4294967296) (((b1.toNat : Nat) : Int) % 4294967296 * 256 % 4294967296)) (((b2.toNat : Nat) : Int) % 4294967296 * 65536 % 4294967296)) (((b3.toNat : Nat) : Int) % 4294967296 * 16777216 % 4294967296) = _
  rw [show ((b0.toNat : Nat) : Int) % 4294967296 = ((b0.toNat : Nat) : Int) by omega, show ((b1.toNat : Nat) : Int) % 4294967296 * 256 % 4294967296 = ((2 ^ 8 * b1.toNat : Nat) : Int) by omega,
    show ((b2.toNat : Nat) : Int) % 4294967296 * 65536 % 4294967296 = ((2 ^ 16 * b2.toNat : Nat) : Int) by omega, show ((b3.toNat : Nat) : Int) % 4294967296 * 16777216 % 4294967296 = ((2 ^ 24 * b3.toNat : Nat) : Int) by omega]
  rw [u32_or_nat _ _ (by omega) (by omega), Nat.or_comm, ← Nat.two_pow_add_eq_or_of_lt (i := 8) (by omega), u32_or_nat _ _ (by omega) (by omega), Nat.or_comm, ← Nat.two_pow_add_eq_or_of_lt (i := 16) (by omega),
    u32_or_nat _ _ (by omega) (by omega), Nat.or_comm, ← Nat.two_pow_add_eq_or_of_lt (i := 24) (by omega)]
  simp only [leVal]
  congr 1
  omega
set_option maxRecDepth 100000 in
set_option maxHeartbeats 4000000 in
theorem crcBursts_walk (l0 : List UInt8) (a B : Int) (w : World) (hl0 : (l0.length : Int) ≤ 140737488351232) (hB0 : 0 ≤ B) (hB : B ≤ 4294967295) :
    Calls Try.prog 6 #[.string (bs l0), .int .i64 a, .int .u32 B] w fun e w' => e = .returned (.bool true) ∧ Kept noB w w' := by
  have hsz : ((bs l0).size : Int) ≤ 140737488351232 := by rw [bs_size]; exact hl0
  have hst := store_tab
  have hvl := vw_tab_len
  have HB := Lib.hid hB
  clear hB
  go_enter Try.func6, Try.ntmps6
  go_wp2_with fail
  refine (speaks02 _).mono ?_
  rintro e w1 ⟨rfl, hk1⟩
  go_wp2_with fail
  all_goals
    first
    | (rw [bs_take]
       have hlt : (l0.take 200).length ≤ 200 := by simp; omega
       generalize l0.take 200 = lt at *)
    | (have hlt : l0.length ≤ 200 := by have h : (bs l0).size ≤ 200 := by omega
                                        rwa [bs_size] at h
       generalize l0 = lt at *)
    refine (make_calls _).mono ?_
    rintro e w2 ⟨rfl, hk2⟩
    go_wp2_with fail
    clear hst hvl
    have ht := tab_new w2
    have hk := (hk1.no hk2).alloc (.cells (vw (tabN 256)).toArray 37)
    generalize w2.alloc (.cells (vw (tabN 256)).toArray 37) = w3 at *
    refine (sum_calls _ _ _ ht (by omega)).mono ?_
    rintro e w' ⟨rfl, d, rfl⟩
    have ht4 : Tab (w3.drewN d) w2.heap.size := ht
    have hk4 := hk.drewN d
    clear ht hk
    generalize w3.drewN d = w4 at *
    have hn := crcSum_lt lt
    have hcv := run_string_four
    have hw4 := le4_walk (crcSum lt) hn
    have hsum : (bs lt).size + (strOfNums [(crcSum lt : Int) % 256, (crcSum lt : Int) / 256 % 256, (crcSum lt : Int) / 65536 % 256, (crcSum lt : Int) / 16777216]).size ≤ 1000 := by
      rw [hw4, bs_size, bs_size]
      simp [le4]
      omega
    have HW4 := Lib.hid hw4
    clear hw4
    go_wp2_with fail
    rw [HW4.out, bs_append]
    clear hcv hsum
    generalize hw5 : w4.alloc _ = w5
    have hk5 : Kept noB w w5 := by rw [← hw5]; exact hk4.alloc _
    have ht5 : Tab w5 w2.heap.size := by rw [← hw5]; exact ht4.alloc _
    clear hw5 ht4 hk4 HW4
    refine (turn_calls _ a B _ hB0 HB.out (by simp [le4]; omega)).mono ?_
    rintro e w6 ⟨rfl, hk6⟩
    have ht6 : Tab w6 w2.heap.size := ht5.kept hk6 (fun e => e)
    have HK6 := Lib.hid (hk5.no hk6)
    clear ht5 hk5 hk6
    have hfound := fun h => burst_found lt a B _ rfl h
    have hlen := turnV_length (lt ++ le4 (crcSum lt)) a B
    generalize turnV (lt ++ le4 (crcSum lt)) a B = t at *
    by_cases he : t = lt ++ le4 (crcSum lt)
    · subst he
      go_wp2_with fail
      go_ret
      exact ⟨rfl, HK6.out⟩
    · have hf := hfound he
      have hq : ((bs t).toList == (bs (lt ++ le4 (crcSum lt))).toList) = false := by rw [bs_toListE, bs_toListE, beq_eq_false_iff_ne]; exact he
      have hlt4 : t.length = lt.length + 4 := by rw [hlen]; simp [le4]
      have hle : (bs lt).size ≤ (bs t).size := by rw [bs_size, bs_size]; omega
      have hle' : ((bs lt).size : Int) ≤ ((bs t).size : Int) := by omega
      have hbig : (bs t).size ≤ 1000 := by rw [bs_size]; omega
      clear hfound he hlen
      go_wp2_with fail
      go_quiet (fail)
      rw [bs_size lt, bs_take, bs_drop]
      have hl4 : (t.drop lt.length).length = 4 := by rw [List.length_drop]; omega
      have hlu : (t.take lt.length).length ≤ 200 := by rw [List.length_take]; omega
      generalize t.take lt.length = u at *
      generalize t.drop lt.length = v at *
      have ht7 : Tab (w6.drewN nq) w2.heap.size := ht6
      have HK7 := Lib.hid (HK6.out.drewN nq)
      clear hq hle hle' hbig hlt4 ht6 HK6
      generalize w6.drewN nq = w7 at *
      match v, hl4 with
      | [b0, b1, b2, b3], _ =>
        have hz4 : (bs [b0, b1, b2, b3]).size = 4 := rfl
        go_wp2_with fail
        go_quiet (fail)
        rw [or4_walk b0 b1 b2 b3]
        have ht8 : Tab (w7.drewN nq) w2.heap.size := ht7
        have HK8 := Lib.hid (HK7.out.drewN nq)
        generalize w7.drewN nq = w8 at *
        generalize leVal [b0, b1, b2, b3] = m at *
        go_wp2_with fail
        refine (sum_calls _ _ _ ht8 (by omega)).mono ?_
        rintro e w' ⟨rfl, d2, rfl⟩
        have hne : (((crcSum u : Nat) : Int) != ((m : Nat) : Int)) = true := by rw [bne_iff_ne]; omega
        go_wp2
        go_ret
        exact ⟨rfl, HK8.out.drewN d2⟩
end Go.Proofs.Ytngpfjmifaecjaa
