/- The walks of package wire (numbers in bytes and in bits; a reader) and of its reference. Conditions: the lengths that each says. -/
import Derived.Test.YtngpfjmifaecjaaKt
import Derived.Test.YtngpfjmifaecjaaPlainWire
namespace Go.Proofs.Ytngpfjmifaecjaa
open Go.RowKit

theorem info_u8 : (Try.prog.info? 5).map (fun i => (i.zero, i.size, i.bytes)) = some (some (.int .u8 0), 1, 1) := by kernel_rfl
theorem run_make_bytes (sz : Nat) (h : sz ≤ 1000000) : ∀ w, (Instr.makeSlice 45 (.int .i64 (sz : Int)) (.int .i64 (sz : Int))).run Try.prog w = .ok (.slice (some ⟨w.heap.size, 0, none⟩) sz sz) (w.alloc (.cells (madeCells #[.int .u8 0] sz) 5)) := fun w => by
  obtain ⟨i0, hi, hz0, hz1, hz2⟩ := info_parts info_u8
  have := run_make (P := Try.prog) w 45 5 i0 (.int .u8 0) Try.underlying45 hi hz0 .i64 .i64 sz sz (by omega) (by omega) (by rw [hz2]; omega) (by omega)
  rw [this, hz1]
  simp [Value.cells]
/-- string(b), b a slice that owns its whole block -/
theorem run_string_of (w : World) (g : Nat) (l : List UInt8) (cs : List Value) (n c : Nat) (h : Blk w g 5 cs) (hp : ∀ i, i < l.length → cs[i]? = (vb l)[i]?) (hn : n = l.length) :
    (convert 45 9 (.slice (some ⟨g, 0, none⟩) n c)).run Try.prog w = .ok (.string (bs l)) w := by
  subst hn
  have := run_convert_bytes_arg (P := Try.prog) w 45 5 Try.underlying45 Try.underlying5 g 0 l.length c (l.map fun b => (b.toNat : Int)) (by simp) (fun i hi => by
    rw [Nat.zero_add, h.cell, hp i hi, vb_get _ _ hi]
    simp [hi]) 9 Try.underlying9
  rw [this, strOf_vb]

theorem byte_conv (n : Int) (i : Nat) (h0 : 0 ≤ n) : n / 2 ^ (8 * i) % 256 = ((byteU n.toNat i).toNat : Int) := by
  obtain ⟨m, rfl⟩ := Int.eq_ofNat_of_zero_le h0
  rw [byteU_toNat, Int.pow_mul]
  simp
theorem run_string_one (W : World) (v : Int) : (convert 45 9 (.slice (some ⟨W.heap.size, 0, none⟩) 1 1)).run Try.prog (W.alloc (.cells #[.int .u8 v] 5)) = .ok (.string (strOfNums [v])) (W.alloc (.cells #[.int .u8 v] 5)) :=
  run_convert_bytes_arg (P := Try.prog) _ 45 5 Try.underlying45 Try.underlying5 W.heap.size 0 1 1 [v] (by simp) (fun i hi => by
    obtain rfl : i = 0 := by omega
    simp) 9 Try.underlying9
set_option maxHeartbeats 400000 in
theorem bytes_in (n : Int) (sz : Nat) (w : World) (h0 : 0 ≤ n) (h1 : 1 ≤ sz) (h2 : sz ≤ 8) : Calls Try.prog 42 #[.int .u64 n, .int .i64 sz] w fun e w' => e = .returned (.string (bs (beU n.toNat sz))) ∧ Kept noB w w' := by
  have hmk := run_make_bytes sz (by omega)
  go_enter Try.func42, Try.ntmps42
  go_wp2
  clear hmk
  go_loopw [17] (fun i wr => ∃ k : Nat, k ≤ sz ∧ i = .int .i64 k ∧ Blk wr w.heap.size 5 (vb (List.replicate (sz - k) 0 ++ beU n.toNat k)) ∧ Kept noB w wr) (fun i _ => sz - (intOf i).toNat)
  case atStart =>
    refine ⟨0, Nat.zero_le _, rfl, ?_, (Kept.refl _ _).alloc _⟩
    have := madeBlk w 5 (.int .u8 0) sz
    rw [← vb_replicate] at this
    simpa [beU] using this
  case round =>
    obtain ⟨k, hk, rfl, hb, hkp⟩ := hrel
    by_cases hlt : k < sz
    · have HB := Lib.hid hb
      have HK := Lib.hid hkp
      clear hb hkp
      have hc : ∃ v, wr.cell? ⟨w.heap.size, sz - 1 - k, none⟩ = some v := by
        rw [HB.out.cell]
        exact ⟨_, List.getElem?_eq_getElem (by rw [vb_length]; simp [beU_length]; omega)⟩
      obtain ⟨v, hc⟩ := hc
      have hf := HB.out.frozen (sz - 1 - k)
      have ei : ((sz : Int) - 1 - (k : Int)).toNat = sz - 1 - k := by omega
      have HE := Lib.hid ei
      clear ei
      go_wp2
      refine ⟨⟨k + 1, by omega, by go_num, ?_, HK.out.setCell (fun h => by simp at h) _⟩, by simp [intOf]; omega⟩
      rw [byte_conv _ _ h0]
      have := HB.out.set (sz - 1 - k) (.int .u8 ((byteU n.toNat k).toNat : Int))
      rw [vb_set, fill_step _ _ _ hlt] at this
      exact this
    · obtain rfl : k = sz := by omega
      have hcv := run_string_of wr w.heap.size (beU n.toNat k) _ k k hb (fun i _ => by simp) (beU_length _ _).symm
      go_wp2
      go_ret
      exact ⟨rfl, hkp⟩
theorem bytes_out (n size : Int) (w : World) (h : size < 1 ∨ 8 < size) : Calls Try.prog 42 #[.int .u64 n, .int .i64 size] w fun e w' => e = .returned (.string (bs [])) ∧ w = w' := by
  rcases h with h | h
  · go_enter Try.func42, Try.ntmps42
    go_wp2
    go_ret
    exact ⟨rfl, rfl⟩
  · go_enter Try.func42, Try.ntmps42
    go_wp2
    go_ret
    exact ⟨rfl, rfl⟩

/-! ### the reference's Bytes -/
theorem rbytes_out (n size : Int) (w : World) (h : size < 1 ∨ 8 < size) : Calls Try.prog 44 #[.int .u64 n, .int .i64 size] w fun e w' => e = .returned (.string (bs [])) ∧ w = w' := by
  rcases h with h | h
  · go_enter Try.func44, Try.ntmps44
    go_wp2
    go_ret
    exact ⟨rfl, rfl⟩
  · go_enter Try.func44, Try.ntmps44
    go_wp2
    go_ret
    exact ⟨rfl, rfl⟩
set_option maxHeartbeats 400000 in
theorem rbytes_in (n : Int) (sz : Nat) (w : World) (h0 : 0 ≤ n) (hn : n ≤ 18446744073709551615) (h1 : 1 ≤ sz) (h2 : sz ≤ 8) : Calls Try.prog 44 #[.int .u64 n, .int .i64 sz] w fun e w' => e = .returned (.string (bs (beU n.toNat sz))) ∧ Kept noB w w' := by
  have hcv := run_string_one
  go_enter Try.func44, Try.ntmps44
  go_wp2
  go_loopw [0, 5, 6] (fun x s i wr => ∃ k : Nat, k ≤ sz ∧ i = .int .i64 k ∧ x = .int .u64 (n / 256 ^ k) ∧ s = .string (bs (beU n.toNat k)) ∧ Kept noB w wr) (fun _ _ i _ => sz - (intOf i).toNat)
  case atStart => exact ⟨0, Nat.zero_le _, rfl, by simp, rfl, Kept.refl _ _⟩
  case round =>
    obtain ⟨k, hk, rfl, rfl, rfl, hkp⟩ := hrel
    have HK := Lib.hid hkp
    clear hkp
    have hx0 : 0 ≤ n / 256 ^ k := Int.ediv_nonneg h0 (Int.pow_nonneg (by omega))
    have hx1 : n / 256 ^ k ≤ 18446744073709551615 := Int.le_trans (Int.ediv_le_self _ h0) hn
    have hxs : n / 256 ^ (k + 1) = n / 256 ^ k / 256 := by rw [Int.pow_succ, Int.ediv_ediv_of_nonneg (Int.pow_nonneg (by omega))]
    have hxb : n / 256 ^ k % 256 = ((byteU n.toNat k).toNat : Int) := by
      obtain ⟨m, rfl⟩ := Int.eq_ofNat_of_zero_le h0
      rw [byteU_toNat]
      simp
    generalize n / 256 ^ k = x at *
    have HS := Lib.hid hxs
    have HX := Lib.hid hxb
    clear hxs hxb
    have hl : (strOfNums [x % 256]).size + (bs (beU n.toNat k)).size ≤ 1000 := by simp [strOfNums_size, bs_size, beU_length]; omega
    by_cases hlt : k < sz
    · go_wp2
      refine ⟨⟨k + 1, by omega, by go_num, ?_, ?_, HK.out.alloc _⟩, by simp [intOf]; omega⟩
      · rw [HS.out]
      · rw [HX.out]
        show Value.string (strOfNums ([byteU n.toNat k].map fun b => (b.toNat : Int)) ++ _) = _
        rw [strOf_vb]
        simp [beU, bs]
        rfl
    · obtain rfl : k = sz := by omega
      go_wp2
      go_ret
      exact ⟨rfl, HK.out⟩

/-! ### bits -/
def maskV (k : Int) : Int := 18446744073709551615 / 2 ^ (64 - k).toNat
theorem maskV_eq (k : Int) (h0 : 1 ≤ k) (h1 : k ≤ 64) : maskV k = ((2 ^ k.toNat - 1 : Nat) : Int) := by
  obtain ⟨m, rfl⟩ := Int.eq_ofNat_of_zero_le (show 0 ≤ k by omega)
  unfold maskV
  rw [show (64 - (m : Int)).toNat = 64 - m by omega, Int.toNat_natCast, ← mask_eq m (by omega)]
  simp
theorem mask_in (a k : Int) (w : World) (h0 : 0 ≤ a) (h1 : a < 64) (h2 : 1 ≤ k) (h3 : k ≤ 64 - a) : Calls Try.prog 60 #[.int .i64 a, .int .i64 k] w fun e w' => e = .returned (.tuple #[.int .u64 (maskV k), .bool true]) ∧ w = w' := by
  go_enter Try.func60, Try.ntmps60
  go_wp2
  go_ret2
  exact ⟨rfl, rfl⟩
theorem mask_out (a k : Int) (w : World) (h : a < 0 ∨ 64 ≤ a ∨ k < 1 ∨ (0 ≤ a ∧ a < 64 ∧ 64 - a < k)) : Calls Try.prog 60 #[.int .i64 a, .int .i64 k] w fun e w' => e = .returned (.tuple #[.int .u64 0, .bool false]) ∧ w = w' := by
  by_cases h1 : a < 0
  · go_enter Try.func60, Try.ntmps60
    go_wp2
    go_ret2
    exact ⟨rfl, rfl⟩
  by_cases h2 : 64 ≤ a
  · go_enter Try.func60, Try.ntmps60
    go_wp2
    go_ret2
    exact ⟨rfl, rfl⟩
  by_cases h3 : k < 1
  · go_enter Try.func60, Try.ntmps60
    go_wp2
    go_ret2
    exact ⟨rfl, rfl⟩
  · have h4 : 64 - a < k := by omega
    clear h
    go_enter Try.func60, Try.ntmps60
    go_wp2
    go_ret2
    exact ⟨rfl, rfl⟩
theorem field_bits (n a k : Int) (h0 : 0 ≤ n) (hn : n ≤ 18446744073709551615) (_h1 : 0 ≤ a) (h2 : 1 ≤ k) (h3 : k ≤ 64) :
    bits BinOp.and IntKind.u64 (n / 2 ^ a.toNat) (maskV k) = ((fieldN n.toNat a.toNat k.toNat : Nat) : Int) := by
  obtain ⟨m, rfl⟩ := Int.eq_ofNat_of_zero_le h0
  rw [maskV_eq k h2 h3]
  have hp : 2 ^ k.toNat ≤ 2 ^ 64 := Nat.pow_le_pow_right (by omega) (by omega)
  have hq : 1 ≤ 2 ^ k.toNat := Nat.one_le_two_pow
  have hd : m / 2 ^ a.toNat ≤ m := Nat.div_le_self _ _
  have e : ((m : Int) / 2 ^ a.toNat) = ((m / 2 ^ a.toNat : Nat) : Int) := by simp
  rw [e, u64_and_nat _ _ (by omega) (by omega), Nat.and_two_pow_sub_one_eq_mod]
  rfl
theorem field_in (n a k : Int) (w : World) (h0 : 0 ≤ n) (hn : n ≤ 18446744073709551615) (_h1 : 0 ≤ a) (h2 : 1 ≤ k) (h3 : k ≤ 64 - a) : Calls Try.prog 43 #[.int .u64 n, .int .i64 a, .int .i64 k] w fun e w' => e = .returned (.int .u64 ((fieldN n.toNat a.toNat k.toNat : Nat) : Int)) ∧ w = w' := by
  have hb := Lib.hid (field_bits n a k h0 hn _h1 h2 (by omega))
  clear hn
  go_enter Try.func43, Try.ntmps43
  go_wp2_with (go_at_call 60; refine (mask_in _ _ _ (by omega) (by omega) (by omega) (by omega)).mono ?_; rintro e w' ⟨rfl, rfl⟩)
  go_ret
  exact ⟨by rw [← hb.out]; rfl, rfl⟩
theorem field_out (n a k : Int) (w : World) (h : a < 0 ∨ 64 ≤ a ∨ k < 1 ∨ (0 ≤ a ∧ a < 64 ∧ 64 - a < k)) : Calls Try.prog 43 #[.int .u64 n, .int .i64 a, .int .i64 k] w fun e w' => e = .returned (.int .u64 0) ∧ w = w' := by
  have H := Lib.hid h
  clear h
  go_enter Try.func43, Try.ntmps43
  go_wp2_with (go_at_call 60; refine (mask_out _ _ _ H.out).mono ?_; rintro e w' ⟨rfl, rfl⟩)
  go_ret
  exact ⟨rfl, rfl⟩
theorem u64_wrap_nat (n : Nat) (h : n < 18446744073709551616) : IntKind.u64.wrap (n : Int) = (n : Int) := by
  rw [IntKind.wrap_u64]
  omega
theorem with_bits (n a k v : Int) (h0 : 0 ≤ n) (hn : n ≤ 18446744073709551615) (hv0 : 0 ≤ v) (hv : v ≤ 18446744073709551615) (h1 : 0 ≤ a) (h2 : 1 ≤ k) (h3 : k ≤ 64 - a) :
    bits BinOp.or IntKind.u64 (bits BinOp.andNot IntKind.u64 n (IntKind.u64.wrap (maskV k * 2 ^ a.toNat))) (IntKind.u64.wrap (bits BinOp.and IntKind.u64 v (maskV k) * 2 ^ a.toNat)) = ((withN n.toNat a.toNat k.toNat v.toNat : Nat) : Int) := by
  obtain ⟨n, rfl⟩ := Int.eq_ofNat_of_zero_le h0
  obtain ⟨v, rfl⟩ := Int.eq_ofNat_of_zero_le hv0
  obtain ⟨a, rfl⟩ := Int.eq_ofNat_of_zero_le h1
  rw [maskV_eq k h2 (by omega)]
  obtain ⟨k, rfl⟩ := Int.eq_ofNat_of_zero_le (show 0 ≤ k by omega)
  simp only [Int.toNat_natCast]
  have hka : 2 ^ k * 2 ^ a ≤ 2 ^ 64 := by rw [← Nat.pow_add]; exact Nat.pow_le_pow_right (by omega) (by omega)
  have ha : 1 ≤ 2 ^ a := Nat.one_le_two_pow
  have hk : 1 ≤ 2 ^ k := Nat.one_le_two_pow
  have hkk : 2 ^ k ≤ 2 ^ k * 2 ^ a := Nat.le_mul_of_pos_right _ (by omega)
  have hm1 : (2 ^ k - 1) * 2 ^ a + 2 ^ a = 2 ^ k * 2 ^ a := by rw [← Nat.succ_mul, Nat.succ_eq_add_one, Nat.sub_add_cancel hk]
  have hmv : v % 2 ^ k * 2 ^ a ≤ (2 ^ k - 1) * 2 ^ a := Nat.mul_le_mul_right _ (by have := Nat.mod_lt v (show 0 < 2 ^ k by omega); omega)
  have e1 : ((2 ^ k - 1 : Nat) : Int) * 2 ^ a = (((2 ^ k - 1) * 2 ^ a : Nat) : Int) := by simp
  rw [e1, u64_wrap_nat _ (by omega), u64_and_nat _ _ (by omega) (by omega), Nat.and_two_pow_sub_one_eq_mod]
  have e2 : ((v % 2 ^ k : Nat) : Int) * 2 ^ a = ((v % 2 ^ k * 2 ^ a : Nat) : Int) := by simp
  rw [e2, u64_wrap_nat _ (by omega), u64_andNot_nat _ _ (by omega) (by omega), u64_or_nat _ _ (by have : n &&& (18446744073709551615 - (2 ^ k - 1) * 2 ^ a) ≤ n := Nat.and_le_left; omega) (by omega)]
  rfl
set_option maxHeartbeats 400000 in
theorem with_in (n a k v : Int) (w : World) (h0 : 0 ≤ n) (hn : n ≤ 18446744073709551615) (hv0 : 0 ≤ v) (hv : v ≤ 18446744073709551615) (h1 : 0 ≤ a) (h2 : 1 ≤ k) (h3 : k ≤ 64 - a) : Calls Try.prog 46 #[.int .u64 n, .int .i64 a, .int .i64 k, .int .u64 v] w fun e w' => e = .returned (.int .u64 ((withN n.toNat a.toNat k.toNat v.toNat : Nat) : Int)) ∧ ∃ d, w' = w.drewN d := by
  have hb := Lib.hid (with_bits n a k v h0 hn hv0 hv h1 h2 h3)
  clear hn hv
  go_enter Try.func46, Try.ntmps46
  go_wp2_with (go_at_call 60; refine (mask_in _ _ _ (by omega) (by omega) (by omega) (by omega)).mono ?_; rintro e w' ⟨rfl, rfl⟩)
  go_quiet (fail)
  go_wp2
  go_ret
  exact ⟨by rw [← hb.out]; rfl, _, rfl⟩
theorem with_out (n a k v : Int) (w : World) (h : a < 0 ∨ 64 ≤ a ∨ k < 1 ∨ (0 ≤ a ∧ a < 64 ∧ 64 - a < k)) : Calls Try.prog 46 #[.int .u64 n, .int .i64 a, .int .i64 k, .int .u64 v] w fun e w' => e = .returned (.int .u64 n) ∧ w = w' := by
  have H := Lib.hid h
  clear h
  go_enter Try.func46, Try.ntmps46
  go_wp2_with (go_at_call 60; refine (mask_out _ _ _ H.out).mono ?_; rintro e w' ⟨rfl, rfl⟩)
  go_ret
  exact ⟨rfl, rfl⟩

/-! ### a reader -/
def Rd (w : World) (g : Nat) (l : List UInt8) (b : Bool) : Prop := Blk w g 120 [.string (bs l), .bool b]
theorem read_calls (l : List UInt8) (w : World) : Calls Try.prog 36 #[.string (bs l)] w fun e w' => e = .returned (.pointer (some ⟨w.heap.size, 0, none⟩)) ∧ Rd w' w.heap.size l false ∧ Kept noB w w' := by
  go_enter Try.func36, Try.ntmps36
  go_wp2
  go_ret
  exact ⟨rfl, Blk.new _ _ _, (Kept.refl _ _).alloc _⟩
theorem raw_nil (n : Int) (w : World) : Calls Try.prog 39 #[.pointer none, .int .i64 n] w fun e w' => e = .returned (.string ⟨#[]⟩) ∧ w = w' := by
  go_enter Try.func39, Try.ntmps39
  go_wp2
  go_ret
  exact ⟨rfl, rfl⟩
set_option maxHeartbeats 400000 in
theorem raw_calls (g : Nat) (l : List UInt8) (b : Bool) (n : Int) (w : World) (hr : Rd w g l b) (hl : l.length ≤ 140737488351232) :
    Calls Try.prog 39 #[.pointer (some ⟨g, 0, none⟩), .int .i64 n] w fun e w' => e = .returned (.string (bs (rawOut l b n))) ∧ Rd w' g (rawRest l b n) (rawBad l b n) ∧ Kept (oneB g) w w' := by
  have hc0 : w.cell? ⟨g, 0, none⟩ = some (.string (bs l)) := hr.cell 0
  have hc1 : w.cell? ⟨g, 1, none⟩ = some (.bool b) := hr.cell 1
  have hf0 := hr.frozen 0
  have hf1 := hr.frozen 1
  have HR := Lib.hid hr
  clear hr
  have hz : (bs l).size ≤ 140737488351232 := by rw [bs_size]; exact hl
  by_cases h1 : n < 0
  · go_enter Try.func39, Try.ntmps39
    go_wp2
    go_ret
    have e : rawBad l b n = true := by simp [rawBad, h1]
    refine ⟨by simp [rawOut, e]; rfl, ?_, Kept.setOne _ _ _ _⟩
    rw [rawRest, e, if_pos rfl]
    exact HR.out.set 1 (.bool true)
  by_cases h2 : (l.length : Int) < n
  · have h2' : ((bs l).size : Int) < n := by rw [bs_size]; exact h2
    go_enter Try.func39, Try.ntmps39
    go_wp2
    go_ret
    have e : rawBad l b n = true := by simp [rawBad, h2]
    refine ⟨by simp [rawOut, e]; rfl, ?_, Kept.setOne _ _ _ _⟩
    rw [rawRest, e, if_pos rfl]
    exact HR.out.set 1 (.bool true)
  have h2' : n ≤ ((bs l).size : Int) := by rw [bs_size]; omega
  cases b
  · have h1' : 0 ≤ n := by omega
    have hq := HR.out
    go_enter Try.func39, Try.ntmps39
    go_wp2
    go_ret
    have e : rawBad l false n = false := by simp [rawBad]; omega
    refine ⟨?_, ?_, Kept.setOne _ _ _ _⟩
    · rw [rawOut, e, if_neg (by simp), ← bs_take]
      rfl
    · rw [rawRest, e, if_neg (by simp), bs_drop]
      exact HR.out.set 0 _
  · go_enter Try.func39, Try.ntmps39
    go_wp2
    go_ret
    have e : rawBad l true n = true := by simp [rawBad]
    refine ⟨by simp [rawOut, e]; rfl, ?_, Kept.setOne _ _ _ _⟩
    rw [rawRest, e, if_pos rfl]
    exact HR.out.set 1 (.bool true)
theorem left_nil (w : World) : Calls Try.prog 40 #[.pointer none] w fun e w' => e = .returned (.int .i64 0) ∧ w = w' := by
  go_enter Try.func40, Try.ntmps40
  go_wp2
  go_ret
  exact ⟨rfl, rfl⟩
theorem left_calls (g : Nat) (l : List UInt8) (b : Bool) (w : World) (hr : Rd w g l b) : Calls Try.prog 40 #[.pointer (some ⟨g, 0, none⟩)] w fun e w' => e = .returned (.int .i64 (l.length : Int)) ∧ w = w' := by
  have hc0 : w.cell? ⟨g, 0, none⟩ = some (.string (bs l)) := hr.cell 0
  clear hr
  go_enter Try.func40, Try.ntmps40
  go_wp2
  go_ret
  exact ⟨by rw [← bs_size]; rfl, rfl⟩
/-- how a reader ends -/
def endV (l : List UInt8) (b : Bool) : Int := if b then 2 else if l = [] then 0 else 3
theorem end_nil (w : World) : Calls Try.prog 41 #[.pointer none] w fun e w' => e = .returned (.int .i64 2) ∧ w = w' := by
  go_enter Try.func41, Try.ntmps41
  go_wp2
  go_ret
  exact ⟨rfl, rfl⟩
theorem end_calls (g : Nat) (l : List UInt8) (b : Bool) (w : World) (hr : Rd w g l b) : Calls Try.prog 41 #[.pointer (some ⟨g, 0, none⟩)] w fun e w' => e = .returned (.int .i64 (endV l b)) ∧ w = w' := by
  have hc0 : w.cell? ⟨g, 0, none⟩ = some (.string (bs l)) := hr.cell 0
  have hc1 : w.cell? ⟨g, 1, none⟩ = some (.bool b) := hr.cell 1
  clear hr
  cases b
  · cases l with
    | nil =>
      have hz : (bs []).toList.isEmpty = true := by rw [bs_toListE]; rfl
      go_enter Try.func41, Try.ntmps41
      go_wp2
      go_ret
      exact ⟨rfl, rfl⟩
    | cons x l =>
      have hz : (bs (x :: l)).toList.isEmpty = false := by rw [bs_toListE]; rfl
      go_enter Try.func41, Try.ntmps41
      go_wp2
      go_ret
      exact ⟨rfl, rfl⟩
  · go_enter Try.func41, Try.ntmps41
    go_wp2
    go_ret
    exact ⟨rfl, rfl⟩

/-! ### numbers out of bytes -/
theorem num_step (l : List UInt8) (k : Nat) (h : l.length ≤ 8) (hk : k < l.length) :
    IntKind.u64.wrap (IntKind.u64.wrap (256 * ((numU (l.take k) : Nat) : Int)) + IntKind.u64.wrap ((l[k].toNat : Nat) : Int)) = ((numU (l.take (k + 1)) : Nat) : Int) := by
  have h1 := numU_small l k h hk
  have h2 := l[k].toNat_lt
  rw [numU_take_succ l k hk, IntKind.wrap_u64, IntKind.wrap_u64, IntKind.wrap_u64]
  omega
theorem num_step' (l : List UInt8) (k : Nat) (h : l.length ≤ 8) (hk : k < l.length) :
    bits .or .u64 (IntKind.u64.wrap (((numU (l.take k) : Nat) : Int) * 256)) (IntKind.u64.wrap ((l[k].toNat : Nat) : Int)) = ((numU (l.take (k + 1)) : Nat) : Int) := by
  have h1 := numU_small l k h hk
  have h2 : l[k].toNat < 2 ^ 8 := l[k].toNat_lt
  have e : (((numU (l.take k) : Nat) : Int) * 256) = ((2 ^ 8 * numU (l.take k) : Nat) : Int) := by simp; omega
  rw [numU_take_succ l k hk, e, u64_wrap_nat _ (by omega), u64_wrap_nat _ (by omega), u64_or_nat _ _ (by omega) (by omega), ← Nat.two_pow_add_eq_or_of_lt h2]
set_option maxHeartbeats 400000 in
theorem number_calls (l : List UInt8) (w : World) (hl : l.length ≤ 8) : Calls Try.prog 37 #[.string (bs l)] w fun e w' => e = .returned (.int .u64 ((numU l : Nat) : Int)) ∧ w = w' := by
  have hz : (bs l).size ≤ 8 := by rw [bs_size]; exact hl
  go_enter Try.func37, Try.ntmps37
  go_wp2
  go_loop [3, 4] (fun x i => ∃ k : Nat, k ≤ l.length ∧ i = .int .i64 k ∧ x = .int .u64 ((numU (l.take k) : Nat) : Int)) (fun _ i => l.length - (intOf i).toNat)
  case atStart => exact ⟨0, Nat.zero_le _, rfl, rfl⟩
  case round =>
    obtain ⟨k, hk, rfl, rfl⟩ := hrel
    by_cases hlt : k < l.length
    · have hlt' : k < (bs l).size := by rw [bs_size]; exact hlt
      go_wp2
      refine ⟨⟨k + 1, by omega, by go_num, by rw [← num_step l k hl hlt]; rfl⟩, by simp [intOf]; omega⟩
    · have hge' : (bs l).size ≤ k := by rw [bs_size]; omega
      go_wp2
      go_ret
      exact ⟨by rw [List.take_of_length_le (by omega)]; rfl, rfl⟩
set_option maxHeartbeats 400000 in
theorem num_calls (g : Nat) (l : List UInt8) (b : Bool) (n : Int) (w : World) (hr : Rd w g l b) (hl : l.length ≤ 140737488351232) :
    Calls Try.prog 38 #[.pointer (some ⟨g, 0, none⟩), .int .i64 n] w fun e w' => e = .returned (.int .u64 ((numU (rawOut l b (numSize n)) : Nat) : Int)) ∧ Rd w' g (rawRest l b (numSize n)) (rawBad l b (numSize n)) ∧ Kept (oneB g) w w' := by
  obtain ⟨m, hm⟩ : ∃ m, numSize n = m := ⟨_, rfl⟩
  have hs : (rawOut l b m).length ≤ 8 := by
    rw [← hm]
    unfold numSize
    split
    · have := rawOut_le_n l b n (by omega); omega
    · simp [rawOut, rawBad]
  have hz : (bs (rawOut l b m)).size ≤ 8 := by rw [bs_size]; exact hs
  rw [hm]
  have HC := Lib.hid (raw_calls g l b m w hr hl)
  clear hr
  generalize hxs : rawOut l b m = xs at *
  generalize rawRest l b m = rs at *
  generalize rawBad l b m = rb at *
  clear hxs
  have hcase : (1 ≤ n ∧ n ≤ 8 ∧ m = n) ∨ (n < 1 ∧ m = -1) ∨ (8 < n ∧ m = -1) := by
    unfold numSize at hm
    split at hm <;> omega
  clear hm
  rcases hcase with ⟨hi1, hi2, rfl⟩ | ⟨hi1, rfl⟩ | ⟨hi1, rfl⟩
  all_goals
    go_enter Try.func38, Try.ntmps38
    go_wp2_with fail
    refine HC.out.mono ?_
    rintro e w1 ⟨rfl, hrd, hkp⟩
    have HRD := Lib.hid hrd
    have HKP := Lib.hid hkp
    clear HC hrd hkp
    go_wp2
    go_loop [6, 19] (fun x i => ∃ k : Nat, k ≤ xs.length ∧ i = .int .i64 k ∧ x = .int .u64 ((numU (xs.take k) : Nat) : Int)) (fun _ i => xs.length - (intOf i).toNat)
    case atStart => exact ⟨0, Nat.zero_le _, rfl, rfl⟩
    case round =>
      obtain ⟨k, hk, rfl, rfl⟩ := hrel
      by_cases hlt : k < xs.length
      · have hlt' : k < (bs xs).size := by rw [bs_size]; exact hlt
        go_wp2
        refine ⟨⟨k + 1, by omega, by go_num, by rw [← num_step' xs k hs hlt]; rfl⟩, by simp [intOf]; omega⟩
      · have hge' : (bs xs).size ≤ k := by rw [bs_size]; omega
        go_wp2
        go_ret
        exact ⟨by rw [List.take_of_length_le (by omega)]; rfl, HRD.out, HKP.out⟩
theorem num_nil (n : Int) (w : World) : Calls Try.prog 38 #[.pointer none, .int .i64 n] w fun e w' => e = .returned (.int .u64 0) ∧ w = w' := by
  by_cases h1 : n < 1
  · go_enter Try.func38, Try.ntmps38
    go_wp2_with (go_at_call 39; refine (raw_nil _ _).mono ?_; rintro e w' ⟨rfl, rfl⟩)
    go_loop [6, 19] (fun x i => x = .int .u64 0 ∧ i = .int .i64 0) (fun _ _ => 0)
    case atStart => exact ⟨rfl, rfl⟩
    case round =>
      obtain ⟨rfl, rfl⟩ := hrel
      go_wp2
      go_ret
      exact ⟨rfl, rfl⟩
  by_cases h2 : 8 < n
  · go_enter Try.func38, Try.ntmps38
    go_wp2_with (go_at_call 39; refine (raw_nil _ _).mono ?_; rintro e w' ⟨rfl, rfl⟩)
    go_loop [6, 19] (fun x i => x = .int .u64 0 ∧ i = .int .i64 0) (fun _ _ => 0)
    case atStart => exact ⟨rfl, rfl⟩
    case round =>
      obtain ⟨rfl, rfl⟩ := hrel
      go_wp2
      go_ret
      exact ⟨rfl, rfl⟩
  · go_enter Try.func38, Try.ntmps38
    go_wp2_with (go_at_call 39; refine (raw_nil _ _).mono ?_; rintro e w' ⟨rfl, rfl⟩)
    go_loop [6, 19] (fun x i => x = .int .u64 0 ∧ i = .int .i64 0) (fun _ _ => 0)
    case atStart => exact ⟨rfl, rfl⟩
    case round =>
      obtain ⟨rfl, rfl⟩ := hrel
      go_wp2
      go_ret
      exact ⟨rfl, rfl⟩

/-! ### the reference's Power, Field -/
def pow2 (n : Int) : Int := ((2 ^ n.toNat : Nat) : Int)
theorem pow2_pos (n : Int) : 0 < pow2 n := by have := Nat.two_pow_pos n.toNat; unfold pow2; omega
set_option maxHeartbeats 400000 in
theorem power_calls (n : Int) (w : World) (h0 : 0 ≤ n) (h1 : n ≤ 63) : Calls Try.prog 61 #[.int .i64 n] w fun e w' => e = .returned (.int .u64 (pow2 n)) ∧ w = w' := by
  obtain ⟨m, rfl⟩ := Int.eq_ofNat_of_zero_le h0
  go_enter Try.func61, Try.ntmps61
  go_wp2
  go_loop [3, 4] (fun x i => ∃ k : Nat, k ≤ m ∧ i = .int .i64 k ∧ x = .int .u64 ((2 ^ k : Nat) : Int)) (fun _ i => m - (intOf i).toNat)
  case atStart => exact ⟨0, Nat.zero_le _, rfl, rfl⟩
  case round =>
    obtain ⟨k, hk, rfl, rfl⟩ := hrel
    by_cases hlt : k < m
    · go_wp2
      refine ⟨⟨k + 1, by omega, by go_num, ?_⟩, by simp [intOf]; omega⟩
      have : 2 ^ (k + 1) ≤ 2 ^ 63 := Nat.pow_le_pow_right (by omega) (by omega)
      have e : (((2 ^ k : Nat) : Int) * 2) = ((2 ^ (k + 1) : Nat) : Int) := by rw [Nat.pow_succ]; simp
      show Value.int IntKind.u64 (IntKind.u64.wrap (((2 ^ k : Nat) : Int) * 2)) = _
      rw [e, u64_wrap_nat _ (by omega)]
    · obtain rfl : k = m := by omega
      go_wp2
      go_ret
      exact ⟨rfl, rfl⟩
theorem u64_div_nat (n p : Nat) (h : (n : Int) ≤ 18446744073709551615) : IntKind.u64.wrap ((n : Int) / (p : Int)) = ((n / p : Nat) : Int) := by
  have hd : n / p ≤ n := Nat.div_le_self _ _
  rw [show ((n : Int) / (p : Int)) = ((n / p : Nat) : Int) by simp, u64_wrap_nat _ (by omega)]
theorem u64_mod2 (n : Nat) : ((n : Int).tmod 2) = ((n % 2 : Nat) : Int) := by
  rw [Int.tmod_eq_emod_of_nonneg (by omega)]
  simp
set_option maxHeartbeats 400000 in
theorem rfield_in (n a k : Int) (w : World) (h0 : 0 ≤ n) (hn : n ≤ 18446744073709551615) (h1 : 0 ≤ a) (h2 : 1 ≤ k) (h3 : k ≤ 64 - a) : Calls Try.prog 45 #[.int .u64 n, .int .i64 a, .int .i64 k] w fun e w' => e = .returned (.int .u64 ((fieldN n.toNat a.toNat k.toNat : Nat) : Int)) ∧ w = w' := by
  obtain ⟨n, rfl⟩ := Int.eq_ofNat_of_zero_le h0
  obtain ⟨a, rfl⟩ := Int.eq_ofNat_of_zero_le h1
  obtain ⟨k, rfl⟩ := Int.eq_ofNat_of_zero_le (show 0 ≤ k by omega)
  have HN := Lib.hid hn
  clear hn h0
  go_enter Try.func45, Try.ntmps45
  go_wp2
  go_loop [7, 8] (fun x i => ∃ c : Nat, c ≤ k ∧ i = .int .i64 ((c : Int) - 1) ∧ x = .int .u64 ((n / 2 ^ (a + c) % 2 ^ (k - c) : Nat) : Int)) (fun _ i => (intOf i + 1).toNat)
  case atStart => exact ⟨k, Nat.le_refl _, rfl, by simp [Nat.mod_one]⟩
  case round =>
    obtain ⟨c, hc, rfl, rfl⟩ := hrel
    cases c with
    | succ c =>
      obtain ⟨x, hx⟩ : ∃ x, n / 2 ^ (a + (c + 1)) % 2 ^ (k - (c + 1)) = x := ⟨_, rfl⟩
      have hxl : x < 2 ^ (k - (c + 1)) := by rw [← hx]; exact Nat.mod_lt _ (Nat.two_pow_pos _)
      have hx63 : 2 ^ (k - (c + 1)) ≤ 2 ^ 63 := Nat.pow_le_pow_right (by omega) (by omega)
      have hx' : x < 2 ^ 63 := by omega
      rw [hx]
      have HX := Lib.hid hx
      have hp := pow2_pos ((a : Int) + (c : Int))
      clear hx hxl hx63
      go_wp2_with (go_at_call 61; refine (power_calls _ _ (by omega) (by omega)).mono ?_; rintro e w' ⟨rfl, rfl⟩)
      refine ⟨⟨c, by omega, by go_num, ?_⟩, by simp [intOf]⟩
      have hn := HN.out
      have hd : n / 2 ^ (a + c) ≤ n := Nat.div_le_self _ _
      have e1 : pow2 ((a : Int) + (c : Int)) = ((2 ^ (a + c) : Nat) : Int) := by rw [pow2, show ((a : Int) + (c : Int)).toNat = a + c by omega]
      have e2 := field_step n a c (k - (c + 1))
      rw [show a + c + 1 = a + (c + 1) by omega, HX.out, show k - (c + 1) + 1 = k - c by omega] at e2
      rw [← e2, e1]
      rw [u64_div_nat _ _ hn, u64_mod2]
      have hm2 : n / 2 ^ (a + c) % 2 < 2 := Nat.mod_lt _ (by omega)
      rw [IntKind.wrap_u64]
      congr 1
      omega
    | zero =>
      go_wp2
      go_ret
      exact ⟨rfl, rfl⟩
theorem rfield_out (n a k : Int) (w : World) (h : a < 0 ∨ 64 ≤ a ∨ k < 1 ∨ (0 ≤ a ∧ a < 64 ∧ 64 - a < k)) : Calls Try.prog 45 #[.int .u64 n, .int .i64 a, .int .i64 k] w fun e w' => e = .returned (.int .u64 0) ∧ w = w' := by
  by_cases h1 : a < 0
  · clear h
    go_enter Try.func45, Try.ntmps45
    go_wp2
    go_ret
    exact ⟨rfl, rfl⟩
  by_cases h2 : 63 < a
  · clear h
    go_enter Try.func45, Try.ntmps45
    go_wp2
    go_ret
    exact ⟨rfl, rfl⟩
  by_cases h3 : k < 1
  · clear h
    go_enter Try.func45, Try.ntmps45
    go_wp2
    go_ret
    exact ⟨rfl, rfl⟩
  · have h4 : 64 - a < k := by omega
    clear h
    go_enter Try.func45, Try.ntmps45
    go_wp2
    go_ret
    exact ⟨rfl, rfl⟩
end Go.Proofs.Ytngpfjmifaecjaa
