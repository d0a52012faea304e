/- slices.Equal and slices.Clone at the rows of a state. Condition: lengths. -/
import Derived.Test.YtngpfjmifaecjaaRowsW
import Derived.Test.YtngpfjmifaecjaaQuietRow
namespace Go.Proofs.Ytngpfjmifaecjaa
open Go.RowKit
theorem flat_append1 (l : List (List Value)) (r : List Value) : (l ++ [r]).flatten = l.flatten ++ r := by simp
/-! ### record.Port -/
def ksP : List Leaf := [.i .u16, .i .i64, .b, .i .u32, .i .i64, .b, .b, .b, .b, .b, .i .i64, .i .i64, .i .i64, .i .u64, .i .u32, .i .u64, .i .u16, .i .i64, .i .i64, .i .i64, .i .i64]
theorem leavesP : leavesOf Try.prog 4 72 = some ksP := by kernel_rfl
theorem aggP : aggT Try.prog 72 = true := by kernel_rfl
theorem guardP : Try.prog.eqGuardType Try.prog.depth 72 = false := by kernel_rfl
theorem sizeP : (Try.prog.info? 72).map (·.size) = some 21 := by kernel_rfl
theorem infoP : (Try.prog.info? 72).map (fun i => (i.zero, i.size, i.bytes)) = some (some (.agg #[.int .u16 0, .int .i64 0, .bool false, .int .u32 0, .int .i64 0, .bool false, .bool false, .bool false, .bool false, .bool false, .int .i64 0, .int .i64 0, .int .i64 0, .int .u64 0, .int .u32 0, .int .u64 0, .int .u16 0, .int .i64 0, .int .i64 0, .int .i64 0, .int .i64 0]), 21, 136) := by kernel_rfl
set_option maxRecDepth 100000 in
theorem equalP_calls (xs ys : List (List Value)) (A B : Option Addr) (c d : Nat) (w : World) (hx : RowsAt w 21 A xs) (hy : RowsAt w 21 B ys) (fx : fitsAll ksP xs) (fy : fitsAll ksP ys) (lx : xs.length ≤ maxLen) (ly : ys.length ≤ maxLen) :
    Calls Try.prog 52 #[.slice A xs.length c, .slice B ys.length d] w fun e w' => e = .returned (.bool (eqRows xs ys)) ∧ ∃ n, w' = w.drewN n := by
  unfold maxLen at lx ly
  by_cases hl : xs.length = ys.length
  · have HL := Lib.hid hl
    have l2 : ((xs.length : Int) != (ys.length : Int)) = false := by rw [hl]; simp
    clear hl
    have HX := Lib.hid hx
    have HY := Lib.hid hy
    have FX := Lib.hid fx
    have FY := Lib.hid fy
    clear hx hy fx fy
    go_enter Try.func52, Try.ntmps52
    go_wp2_with fail
    go_loopw [13] (fun i wr => ∃ k : Nat, k ≤ xs.length ∧ i = .int .i64 k ∧ eqRows (xs.drop k) (ys.drop k) = eqRows xs ys ∧ ∃ n, wr = w.drewN n) (fun i _ => xs.length - (intOf i).toNat)
    case atStart => exact ⟨0, Nat.zero_le _, rfl, rfl, 0, rfl⟩
    case round =>
      obtain ⟨k, hk, rfl, heq, n, rfl⟩ := hrel
      have HQ := Lib.hid heq
      clear heq
      by_cases hlt : k < xs.length
      · obtain ⟨r, hr⟩ : ∃ r, xs[k]? = some r := ⟨_, List.getElem?_eq_getElem hlt⟩
        obtain ⟨s, hs⟩ : ∃ s, ys[k]? = some s := ⟨_, List.getElem?_eq_getElem (by have := HL.out; omega)⟩
        obtain ⟨g, off, rfl, hA⟩ := HX.out.get hr
        obtain ⟨g2, off2, rfl, hB⟩ := HY.out.get hs
        have hq := HQ.out
        rw [eqRows_drop hr hs] at hq
        have f1 := fitsAll_get FX.out hr
        have f2 := fitsAll_get FY.out hs
        have s1 : (Try.prog.info? 72).map (·.size) = some r.length := by rw [fits_length f1]; exact sizeP
        have s2 : (Try.prog.info? 72).map (·.size) = some s.length := by rw [fits_length f2]; exact sizeP
        have hgA : ∀ w1, (∃ m, w1 = (w.drewN n).drewN m) → w1.rangeAt g (off + k * 21) r := by
          rintro _ ⟨m, rfl⟩
          exact hA
        have hgB : ∀ w1, (∃ m, w1 = (w.drewN n).drewN m) → w1.rangeAt g2 (off2 + k * 21) s := by
          rintro _ ⟨m, rfl⟩
          exact hB
        have hlt2 : k < ys.length := by have := HL.out; omega
        have H1 := Lib.hid hgA
        have H2 := Lib.hid hgB
        have H3 := Lib.hid s1
        have H4 := Lib.hid s2
        have H5 := Lib.hid f1
        have H6 := Lib.hid f2
        have H7 := Lib.hid hq
        clear hgA hgB s1 s2 f1 f2 hq hA hB hr hs
        cases hc : eqCells r s with
        | true =>
          rw [hc, Bool.true_and] at H7
          have HC := Lib.hid hc
          clear hc
          go_wp2_with fail
          refine wp_region_quiet_lit (by kernel_rfl) (by kernel_rfl) ?_
          repeat (first | (first | refine wpQuiet_load_mid rfl _ _ rfl g _ rfl r _ H1.out Try.underlying72 rfl H3.out ?_ | refine wpQuiet_load_mid rfl _ _ rfl g2 _ rfl s _ H2.out Try.underlying72 rfl H4.out ?_ | (refine wpQuiet_neq_cells rfl _ _ _ _ rfl r s rfl rfl leavesP (by decide) aggP guardP H5.out H6.out ?_; rw [HC.out])) | quiet_step (fail))
          refine wpQuiet_nil ?_
          intro _ hw'
          obtain ⟨nq, hw''⟩ := hw'
          subst hw''
          go_wp2_with fail
          go_roundw
          case rel => exact ⟨k + 1, by omega, by go_num, H7.out, n + nq, rfl⟩
          case measure => simp [intOf]; omega
        | false =>
          rw [hc, Bool.false_and] at H7
          have HC := Lib.hid hc
          clear hc
          go_wp2_with fail
          refine wp_region_quiet_lit (by kernel_rfl) (by kernel_rfl) ?_
          repeat (first | (first | refine wpQuiet_load_mid rfl _ _ rfl g _ rfl r _ H1.out Try.underlying72 rfl H3.out ?_ | refine wpQuiet_load_mid rfl _ _ rfl g2 _ rfl s _ H2.out Try.underlying72 rfl H4.out ?_ | (refine wpQuiet_neq_cells rfl _ _ _ _ rfl r s rfl rfl leavesP (by decide) aggP guardP H5.out H6.out ?_; rw [HC.out])) | quiet_step (fail))
          refine wpQuiet_nil ?_
          intro _ hw'
          obtain ⟨nq, hw''⟩ := hw'
          subst hw''
          go_wp2_with fail
          go_ret
          exact ⟨by rw [← H7.out]; rfl, n + nq, rfl⟩
      · have e : eqRows xs ys = true := by
          rw [← HQ.out, List.drop_of_length_le (by omega), List.drop_of_length_le (by have := HL.out; omega)]
          rfl
        have E := Lib.hid e
        clear e
        go_wp2_with fail
        go_ret
        exact ⟨by rw [E.out]; rfl, n, rfl⟩
  · have e : eqRows xs ys = false := by
      cases h : eqRows xs ys with
      | false => rfl
      | true => exact absurd (eqRows_len h) hl
    have l2 : ((xs.length : Int) != (ys.length : Int)) = true := by simp; omega
    have E := Lib.hid e
    clear e hl
    go_enter Try.func52, Try.ntmps52
    go_wp2_with fail
    go_ret
    exact ⟨by rw [E.out]; rfl, 0, rfl⟩
set_option maxRecDepth 100000 in
theorem cloneP_calls (xs : List (List Value)) (A : Option Addr) (c : Nat) (w : World) (hx : RowsAt w 21 A xs) (fx : fitsAll ksP xs) (lx : xs.length ≤ 1000) :
    Calls Try.prog 56 #[.slice A xs.length c] w fun e w' => ∃ v, e = .returned v ∧ w'.ownsRow w.heap.size 72 21 v xs.length xs.flatten ∧ Kept noB w w' := by
  obtain ⟨i0, hi, hz0, hz1, hz2⟩ := info_parts infoP
  have HI := Lib.hid hi
  have HZ0 := Lib.hid hz0
  have HZ1 := Lib.hid hz1
  have HZ2 := Lib.hid hz2
  clear hi hz0 hz1 hz2
  have hnil := fun (w : World) (a : Option Addr) (n c n' c' : Nat) => Lib.run_eql_slice_nil (P := Try.prog) w 57 72 a n c n' c' Try.underlying57
  have hfl := flat_len hx.1
  have h1 : ∀ u ∈ xs.flatten, u.oneCell' = true := fun u hu => by
    obtain ⟨r, hr, hu⟩ := List.mem_flatten.1 hu
    exact one_fits (fx r hr) u hu
  have HFL := Lib.hid hfl
  have H1 := Lib.hid h1
  have HX := Lib.hid hx
  clear hfl h1 hx fx
  cases A with
  | none =>
    have e : xs = [] := by
      rcases HX.out.2 with h | ⟨g, off, hA, _⟩
      · exact h
      · cases hA
    subst e
    go_enter Try.func56, Try.ntmps56
    go_wp2_with fail
    go_ret
    exact ⟨_, rfl, World.ownsRow_nil _ _ _ _, Kept.refl _ _⟩
  | some a =>
    have hn : ∀ (w1 : World), Kept noB w w1 → ∀ j u, xs.flatten[j]? = some u → w1.cell? (a.add j) = some u := by
      intro w1 hk j u hj
      have hkx := HX.out.kept hk
      have hjl : j < xs.flatten.length := (List.getElem?_eq_some_iff.1 hj).1
      rcases hkx.2 with h | ⟨g, off, hA, _⟩
      · rw [h] at hj
        cases hj
      · cases hA
        rw [Addr.add_mid]
        have hfl := HFL.out
        have hi : j / 21 < xs.length := by omega
        obtain ⟨r, hr⟩ : ∃ r, xs[j / 21]? = some r := ⟨_, List.getElem?_eq_getElem hi⟩
        have hrl : r.length = 21 := hkx.1 r (List.mem_of_getElem? hr)
        obtain ⟨v, hv⟩ : ∃ v, r[j % 21]? = some v := ⟨_, List.getElem?_eq_getElem (by omega)⟩
        have h2 := flat_at hkx.1 hr hv
        rw [show j / 21 * 21 + j % 21 = j by omega, hj] at h2
        cases h2
        have := hkx.at hr _ _ hv
        rwa [show off + j / 21 * 21 + j % 21 = off + j by omega] at this
    have HN := Lib.hid hn
    clear hn
    have hmade := World.ownsRow_made w #[] 0 (base := w.heap.size) (e := 72) (size := 21) (Nat.le_refl _) (by unfold maxLen; omega) (by simp)
    have HM := Lib.hid hmade
    clear hmade
    go_enter Try.func56, Try.ntmps56
    go_wp2_with (at_builtin; refine wpList_append_own _ rfl (.tmp 5) (.tmp 6) 57 rfl w.heap.size 72 i0 (.agg #[.int .u16 0, .int .i64 0, .bool false, .int .u32 0, .int .i64 0, .bool false, .bool false, .bool false, .bool false, .bool false, .int .i64 0, .int .i64 0, .int .i64 0, .int .u64 0, .int .u32 0, .int .u64 0, .int .u16 0, .int .i64 0, .int .i64 0, .int .i64 0, .int .i64 0]) 21 136 Try.underlying57 HI.out HZ0.out HZ1.out HZ2.out rfl (by decide) _ 0 [] rfl HM.out a xs.length c xs.flatten rfl (by rw [HFL.out]) (HN.out _ ((Kept.refl _ _).alloc _)) H1.out (by unfold maxLen; omega) (by omega) (by simp) ?_; intro v6 w6 own6 grow6 _)
    have K6 := ((Kept.refl noB w).alloc (.cells #[] 72)).grown grow6 (fun k e hk => by cases e; exact absurd hk (Nat.lt_irrefl _))
    rw [Nat.zero_add, List.nil_append] at own6
    have HO := Lib.hid own6
    clear own6 grow6
    go_wp2_with fail
    go_ret
    exact ⟨_, rfl, HO.out, K6⟩

/-! ### vlan.Vlan -/
def ksV : List Leaf := [.i .u16, .i .u32, .i .u32]
theorem leavesV : leavesOf Try.prog 4 75 = some ksV := by kernel_rfl
theorem aggV : aggT Try.prog 75 = true := by kernel_rfl
theorem guardV : Try.prog.eqGuardType Try.prog.depth 75 = false := by kernel_rfl
theorem sizeV : (Try.prog.info? 75).map (·.size) = some 3 := by kernel_rfl
theorem infoV : (Try.prog.info? 75).map (fun i => (i.zero, i.size, i.bytes)) = some (some (.agg #[.int .u16 0, .int .u32 0, .int .u32 0]), 3, 12) := by kernel_rfl
set_option maxRecDepth 100000 in
theorem equalV_calls (xs ys : List (List Value)) (A B : Option Addr) (c d : Nat) (w : World) (hx : RowsAt w 3 A xs) (hy : RowsAt w 3 B ys) (fx : fitsAll ksV xs) (fy : fitsAll ksV ys) (lx : xs.length ≤ maxLen) (ly : ys.length ≤ maxLen) :
    Calls Try.prog 53 #[.slice A xs.length c, .slice B ys.length d] w fun e w' => e = .returned (.bool (eqRows xs ys)) ∧ ∃ n, w' = w.drewN n := by
  unfold maxLen at lx ly
  by_cases hl : xs.length = ys.length
  · have HL := Lib.hid hl
    have l2 : ((xs.length : Int) != (ys.length : Int)) = false := by rw [hl]; simp
    clear hl
    have HX := Lib.hid hx
    have HY := Lib.hid hy
    have FX := Lib.hid fx
    have FY := Lib.hid fy
    clear hx hy fx fy
    go_enter Try.func53, Try.ntmps53
    go_wp2_with fail
    go_loopw [13] (fun i wr => ∃ k : Nat, k ≤ xs.length ∧ i = .int .i64 k ∧ eqRows (xs.drop k) (ys.drop k) = eqRows xs ys ∧ ∃ n, wr = w.drewN n) (fun i _ => xs.length - (intOf i).toNat)
    case atStart => exact ⟨0, Nat.zero_le _, rfl, rfl, 0, rfl⟩
    case round =>
      obtain ⟨k, hk, rfl, heq, n, rfl⟩ := hrel
      have HQ := Lib.hid heq
      clear heq
      by_cases hlt : k < xs.length
      · obtain ⟨r, hr⟩ : ∃ r, xs[k]? = some r := ⟨_, List.getElem?_eq_getElem hlt⟩
        obtain ⟨s, hs⟩ : ∃ s, ys[k]? = some s := ⟨_, List.getElem?_eq_getElem (by have := HL.out; omega)⟩
        obtain ⟨g, off, rfl, hA⟩ := HX.out.get hr
        obtain ⟨g2, off2, rfl, hB⟩ := HY.out.get hs
        have hq := HQ.out
        rw [eqRows_drop hr hs] at hq
        have f1 := fitsAll_get FX.out hr
        have f2 := fitsAll_get FY.out hs
        have s1 : (Try.prog.info? 75).map (·.size) = some r.length := by rw [fits_length f1]; exact sizeV
        have s2 : (Try.prog.info? 75).map (·.size) = some s.length := by rw [fits_length f2]; exact sizeV
        have hgA : ∀ w1, (∃ m, w1 = (w.drewN n).drewN m) → w1.rangeAt g (off + k * 3) r := by
          rintro _ ⟨m, rfl⟩
          exact hA
        have hgB : ∀ w1, (∃ m, w1 = (w.drewN n).drewN m) → w1.rangeAt g2 (off2 + k * 3) s := by
          rintro _ ⟨m, rfl⟩
          exact hB
        have hlt2 : k < ys.length := by have := HL.out; omega
        have H1 := Lib.hid hgA
        have H2 := Lib.hid hgB
        have H3 := Lib.hid s1
        have H4 := Lib.hid s2
        have H5 := Lib.hid f1
        have H6 := Lib.hid f2
        have H7 := Lib.hid hq
        clear hgA hgB s1 s2 f1 f2 hq hA hB hr hs
        cases hc : eqCells r s with
        | true =>
          rw [hc, Bool.true_and] at H7
          have HC := Lib.hid hc
          clear hc
          go_wp2_with fail
          refine wp_region_quiet_lit (by kernel_rfl) (by kernel_rfl) ?_
          repeat (first | (first | refine wpQuiet_load_mid rfl _ _ rfl g _ rfl r _ H1.out Try.underlying75 rfl H3.out ?_ | refine wpQuiet_load_mid rfl _ _ rfl g2 _ rfl s _ H2.out Try.underlying75 rfl H4.out ?_ | (refine wpQuiet_neq_cells rfl _ _ _ _ rfl r s rfl rfl leavesV (by decide) aggV guardV H5.out H6.out ?_; rw [HC.out])) | quiet_step (fail))
          refine wpQuiet_nil ?_
          intro _ hw'
          obtain ⟨nq, hw''⟩ := hw'
          subst hw''
          go_wp2_with fail
          go_roundw
          case rel => exact ⟨k + 1, by omega, by go_num, H7.out, n + nq, rfl⟩
          case measure => simp [intOf]; omega
        | false =>
          rw [hc, Bool.false_and] at H7
          have HC := Lib.hid hc
          clear hc
          go_wp2_with fail
          refine wp_region_quiet_lit (by kernel_rfl) (by kernel_rfl) ?_
          repeat (first | (first | refine wpQuiet_load_mid rfl _ _ rfl g _ rfl r _ H1.out Try.underlying75 rfl H3.out ?_ | refine wpQuiet_load_mid rfl _ _ rfl g2 _ rfl s _ H2.out Try.underlying75 rfl H4.out ?_ | (refine wpQuiet_neq_cells rfl _ _ _ _ rfl r s rfl rfl leavesV (by decide) aggV guardV H5.out H6.out ?_; rw [HC.out])) | quiet_step (fail))
          refine wpQuiet_nil ?_
          intro _ hw'
          obtain ⟨nq, hw''⟩ := hw'
          subst hw''
          go_wp2_with fail
          go_ret
          exact ⟨by rw [← H7.out]; rfl, n + nq, rfl⟩
      · have e : eqRows xs ys = true := by
          rw [← HQ.out, List.drop_of_length_le (by omega), List.drop_of_length_le (by have := HL.out; omega)]
          rfl
        have E := Lib.hid e
        clear e
        go_wp2_with fail
        go_ret
        exact ⟨by rw [E.out]; rfl, n, rfl⟩
  · have e : eqRows xs ys = false := by
      cases h : eqRows xs ys with
      | false => rfl
      | true => exact absurd (eqRows_len h) hl
    have l2 : ((xs.length : Int) != (ys.length : Int)) = true := by simp; omega
    have E := Lib.hid e
    clear e hl
    go_enter Try.func53, Try.ntmps53
    go_wp2_with fail
    go_ret
    exact ⟨by rw [E.out]; rfl, 0, rfl⟩
set_option maxRecDepth 100000 in
theorem cloneV_calls (xs : List (List Value)) (A : Option Addr) (c : Nat) (w : World) (hx : RowsAt w 3 A xs) (fx : fitsAll ksV xs) (lx : xs.length ≤ 1000) :
    Calls Try.prog 57 #[.slice A xs.length c] w fun e w' => ∃ v, e = .returned v ∧ w'.ownsRow w.heap.size 75 3 v xs.length xs.flatten ∧ Kept noB w w' := by
  obtain ⟨i0, hi, hz0, hz1, hz2⟩ := info_parts infoV
  have HI := Lib.hid hi
  have HZ0 := Lib.hid hz0
  have HZ1 := Lib.hid hz1
  have HZ2 := Lib.hid hz2
  clear hi hz0 hz1 hz2
  have hnil := fun (w : World) (a : Option Addr) (n c n' c' : Nat) => Lib.run_eql_slice_nil (P := Try.prog) w 58 75 a n c n' c' Try.underlying58
  have hfl := flat_len hx.1
  have h1 : ∀ u ∈ xs.flatten, u.oneCell' = true := fun u hu => by
    obtain ⟨r, hr, hu⟩ := List.mem_flatten.1 hu
    exact one_fits (fx r hr) u hu
  have HFL := Lib.hid hfl
  have H1 := Lib.hid h1
  have HX := Lib.hid hx
  clear hfl h1 hx fx
  cases A with
  | none =>
    have e : xs = [] := by
      rcases HX.out.2 with h | ⟨g, off, hA, _⟩
      · exact h
      · cases hA
    subst e
    go_enter Try.func57, Try.ntmps57
    go_wp2_with fail
    go_ret
    exact ⟨_, rfl, World.ownsRow_nil _ _ _ _, Kept.refl _ _⟩
  | some a =>
    have hn : ∀ (w1 : World), Kept noB w w1 → ∀ j u, xs.flatten[j]? = some u → w1.cell? (a.add j) = some u := by
      intro w1 hk j u hj
      have hkx := HX.out.kept hk
      have hjl : j < xs.flatten.length := (List.getElem?_eq_some_iff.1 hj).1
      rcases hkx.2 with h | ⟨g, off, hA, _⟩
      · rw [h] at hj
        cases hj
      · cases hA
        rw [Addr.add_mid]
        have hfl := HFL.out
        have hi : j / 3 < xs.length := by omega
        obtain ⟨r, hr⟩ : ∃ r, xs[j / 3]? = some r := ⟨_, List.getElem?_eq_getElem hi⟩
        have hrl : r.length = 3 := hkx.1 r (List.mem_of_getElem? hr)
        obtain ⟨v, hv⟩ : ∃ v, r[j % 3]? = some v := ⟨_, List.getElem?_eq_getElem (by omega)⟩
        have h2 := flat_at hkx.1 hr hv
        rw [show j / 3 * 3 + j % 3 = j by omega, hj] at h2
        cases h2
        have := hkx.at hr _ _ hv
        rwa [show off + j / 3 * 3 + j % 3 = off + j by omega] at this
    have HN := Lib.hid hn
    clear hn
    have hmade := World.ownsRow_made w #[] 0 (base := w.heap.size) (e := 75) (size := 3) (Nat.le_refl _) (by unfold maxLen; omega) (by simp)
    have HM := Lib.hid hmade
    clear hmade
    go_enter Try.func57, Try.ntmps57
    go_wp2_with (at_builtin; refine wpList_append_own _ rfl (.tmp 5) (.tmp 6) 58 rfl w.heap.size 75 i0 (.agg #[.int .u16 0, .int .u32 0, .int .u32 0]) 3 12 Try.underlying58 HI.out HZ0.out HZ1.out HZ2.out rfl (by decide) _ 0 [] rfl HM.out a xs.length c xs.flatten rfl (by rw [HFL.out]) (HN.out _ ((Kept.refl _ _).alloc _)) H1.out (by unfold maxLen; omega) (by omega) (by simp) ?_; intro v6 w6 own6 grow6 _)
    have K6 := ((Kept.refl noB w).alloc (.cells #[] 75)).grown grow6 (fun k e hk => by cases e; exact absurd hk (Nat.lt_irrefl _))
    rw [Nat.zero_add, List.nil_append] at own6
    have HO := Lib.hid own6
    clear own6 grow6
    go_wp2_with fail
    go_ret
    exact ⟨_, rfl, HO.out, K6⟩

/-! ### static.Entry -/
def ksS : List Leaf := [.i .u16, .i .u8, .i .u8, .i .u8, .i .u8, .i .u8, .i .u8, .i .u32]
theorem leavesS : leavesOf Try.prog 4 81 = some ksS := by kernel_rfl
theorem aggS : aggT Try.prog 81 = true := by kernel_rfl
theorem guardS : Try.prog.eqGuardType Try.prog.depth 81 = false := by kernel_rfl
theorem sizeS : (Try.prog.info? 81).map (·.size) = some 8 := by kernel_rfl
theorem infoS : (Try.prog.info? 81).map (fun i => (i.zero, i.size, i.bytes)) = some (some (.agg #[.int .u16 0, .int .u8 0, .int .u8 0, .int .u8 0, .int .u8 0, .int .u8 0, .int .u8 0, .int .u32 0]), 8, 12) := by kernel_rfl
set_option maxRecDepth 100000 in
theorem equalS_calls (xs ys : List (List Value)) (A B : Option Addr) (c d : Nat) (w : World) (hx : RowsAt w 8 A xs) (hy : RowsAt w 8 B ys) (fx : fitsAll ksS xs) (fy : fitsAll ksS ys) (lx : xs.length ≤ maxLen) (ly : ys.length ≤ maxLen) :
    Calls Try.prog 54 #[.slice A xs.length c, .slice B ys.length d] w fun e w' => e = .returned (.bool (eqRows xs ys)) ∧ ∃ n, w' = w.drewN n := by
  unfold maxLen at lx ly
  by_cases hl : xs.length = ys.length
  · have HL := Lib.hid hl
    have l2 : ((xs.length : Int) != (ys.length : Int)) = false := by rw [hl]; simp
    clear hl
    have HX := Lib.hid hx
    have HY := Lib.hid hy
    have FX := Lib.hid fx
    have FY := Lib.hid fy
    clear hx hy fx fy
    go_enter Try.func54, Try.ntmps54
    go_wp2_with fail
    go_loopw [13] (fun i wr => ∃ k : Nat, k ≤ xs.length ∧ i = .int .i64 k ∧ eqRows (xs.drop k) (ys.drop k) = eqRows xs ys ∧ ∃ n, wr = w.drewN n) (fun i _ => xs.length - (intOf i).toNat)
    case atStart => exact ⟨0, Nat.zero_le _, rfl, rfl, 0, rfl⟩
    case round =>
      obtain ⟨k, hk, rfl, heq, n, rfl⟩ := hrel
      have HQ := Lib.hid heq
      clear heq
      by_cases hlt : k < xs.length
      · obtain ⟨r, hr⟩ : ∃ r, xs[k]? = some r := ⟨_, List.getElem?_eq_getElem hlt⟩
        obtain ⟨s, hs⟩ : ∃ s, ys[k]? = some s := ⟨_, List.getElem?_eq_getElem (by have := HL.out; omega)⟩
        obtain ⟨g, off, rfl, hA⟩ := HX.out.get hr
        obtain ⟨g2, off2, rfl, hB⟩ := HY.out.get hs
        have hq := HQ.out
        rw [eqRows_drop hr hs] at hq
        have f1 := fitsAll_get FX.out hr
        have f2 := fitsAll_get FY.out hs
        have s1 : (Try.prog.info? 81).map (·.size) = some r.length := by rw [fits_length f1]; exact sizeS
        have s2 : (Try.prog.info? 81).map (·.size) = some s.length := by rw [fits_length f2]; exact sizeS
        have hgA : ∀ w1, (∃ m, w1 = (w.drewN n).drewN m) → w1.rangeAt g (off + k * 8) r := by
          rintro _ ⟨m, rfl⟩
          exact hA
        have hgB : ∀ w1, (∃ m, w1 = (w.drewN n).drewN m) → w1.rangeAt g2 (off2 + k * 8) s := by
          rintro _ ⟨m, rfl⟩
          exact hB
        have hlt2 : k < ys.length := by have := HL.out; omega
        have H1 := Lib.hid hgA
        have H2 := Lib.hid hgB
        have H3 := Lib.hid s1
        have H4 := Lib.hid s2
        have H5 := Lib.hid f1
        have H6 := Lib.hid f2
        have H7 := Lib.hid hq
        clear hgA hgB s1 s2 f1 f2 hq hA hB hr hs
        cases hc : eqCells r s with
        | true =>
          rw [hc, Bool.true_and] at H7
          have HC := Lib.hid hc
          clear hc
          go_wp2_with fail
          refine wp_region_quiet_lit (by kernel_rfl) (by kernel_rfl) ?_
          repeat (first | (first | refine wpQuiet_load_mid rfl _ _ rfl g _ rfl r _ H1.out Try.underlying81 rfl H3.out ?_ | refine wpQuiet_load_mid rfl _ _ rfl g2 _ rfl s _ H2.out Try.underlying81 rfl H4.out ?_ | (refine wpQuiet_neq_cells rfl _ _ _ _ rfl r s rfl rfl leavesS (by decide) aggS guardS H5.out H6.out ?_; rw [HC.out])) | quiet_step (fail))
          refine wpQuiet_nil ?_
          intro _ hw'
          obtain ⟨nq, hw''⟩ := hw'
          subst hw''
          go_wp2_with fail
          go_roundw
          case rel => exact ⟨k + 1, by omega, by go_num, H7.out, n + nq, rfl⟩
          case measure => simp [intOf]; omega
        | false =>
          rw [hc, Bool.false_and] at H7
          have HC := Lib.hid hc
          clear hc
          go_wp2_with fail
          refine wp_region_quiet_lit (by kernel_rfl) (by kernel_rfl) ?_
          repeat (first | (first | refine wpQuiet_load_mid rfl _ _ rfl g _ rfl r _ H1.out Try.underlying81 rfl H3.out ?_ | refine wpQuiet_load_mid rfl _ _ rfl g2 _ rfl s _ H2.out Try.underlying81 rfl H4.out ?_ | (refine wpQuiet_neq_cells rfl _ _ _ _ rfl r s rfl rfl leavesS (by decide) aggS guardS H5.out H6.out ?_; rw [HC.out])) | quiet_step (fail))
          refine wpQuiet_nil ?_
          intro _ hw'
          obtain ⟨nq, hw''⟩ := hw'
          subst hw''
          go_wp2_with fail
          go_ret
          exact ⟨by rw [← H7.out]; rfl, n + nq, rfl⟩
      · have e : eqRows xs ys = true := by
          rw [← HQ.out, List.drop_of_length_le (by omega), List.drop_of_length_le (by have := HL.out; omega)]
          rfl
        have E := Lib.hid e
        clear e
        go_wp2_with fail
        go_ret
        exact ⟨by rw [E.out]; rfl, n, rfl⟩
  · have e : eqRows xs ys = false := by
      cases h : eqRows xs ys with
      | false => rfl
      | true => exact absurd (eqRows_len h) hl
    have l2 : ((xs.length : Int) != (ys.length : Int)) = true := by simp; omega
    have E := Lib.hid e
    clear e hl
    go_enter Try.func54, Try.ntmps54
    go_wp2_with fail
    go_ret
    exact ⟨by rw [E.out]; rfl, 0, rfl⟩
set_option maxRecDepth 100000 in
theorem cloneS_calls (xs : List (List Value)) (A : Option Addr) (c : Nat) (w : World) (hx : RowsAt w 8 A xs) (fx : fitsAll ksS xs) (lx : xs.length ≤ 1000) :
    Calls Try.prog 58 #[.slice A xs.length c] w fun e w' => ∃ v, e = .returned v ∧ w'.ownsRow w.heap.size 81 8 v xs.length xs.flatten ∧ Kept noB w w' := by
  obtain ⟨i0, hi, hz0, hz1, hz2⟩ := info_parts infoS
  have HI := Lib.hid hi
  have HZ0 := Lib.hid hz0
  have HZ1 := Lib.hid hz1
  have HZ2 := Lib.hid hz2
  clear hi hz0 hz1 hz2
  have hnil := fun (w : World) (a : Option Addr) (n c n' c' : Nat) => Lib.run_eql_slice_nil (P := Try.prog) w 59 81 a n c n' c' Try.underlying59
  have hfl := flat_len hx.1
  have h1 : ∀ u ∈ xs.flatten, u.oneCell' = true := fun u hu => by
    obtain ⟨r, hr, hu⟩ := List.mem_flatten.1 hu
    exact one_fits (fx r hr) u hu
  have HFL := Lib.hid hfl
  have H1 := Lib.hid h1
  have HX := Lib.hid hx
  clear hfl h1 hx fx
  cases A with
  | none =>
    have e : xs = [] := by
      rcases HX.out.2 with h | ⟨g, off, hA, _⟩
      · exact h
      · cases hA
    subst e
    go_enter Try.func58, Try.ntmps58
    go_wp2_with fail
    go_ret
    exact ⟨_, rfl, World.ownsRow_nil _ _ _ _, Kept.refl _ _⟩
  | some a =>
    have hn : ∀ (w1 : World), Kept noB w w1 → ∀ j u, xs.flatten[j]? = some u → w1.cell? (a.add j) = some u := by
      intro w1 hk j u hj
      have hkx := HX.out.kept hk
      have hjl : j < xs.flatten.length := (List.getElem?_eq_some_iff.1 hj).1
      rcases hkx.2 with h | ⟨g, off, hA, _⟩
      · rw [h] at hj
        cases hj
      · cases hA
        rw [Addr.add_mid]
        have hfl := HFL.out
        have hi : j / 8 < xs.length := by omega
        obtain ⟨r, hr⟩ : ∃ r, xs[j / 8]? = some r := ⟨_, List.getElem?_eq_getElem hi⟩
        have hrl : r.length = 8 := hkx.1 r (List.mem_of_getElem? hr)
        obtain ⟨v, hv⟩ : ∃ v, r[j % 8]? = some v := ⟨_, List.getElem?_eq_getElem (by omega)⟩
        have h2 := flat_at hkx.1 hr hv
        rw [show j / 8 * 8 + j % 8 = j by omega, hj] at h2
        cases h2
        have := hkx.at hr _ _ hv
        rwa [show off + j / 8 * 8 + j % 8 = off + j by omega] at this
    have HN := Lib.hid hn
    clear hn
    have hmade := World.ownsRow_made w #[] 0 (base := w.heap.size) (e := 81) (size := 8) (Nat.le_refl _) (by unfold maxLen; omega) (by simp)
    have HM := Lib.hid hmade
    clear hmade
    go_enter Try.func58, Try.ntmps58
    go_wp2_with (at_builtin; refine wpList_append_own _ rfl (.tmp 5) (.tmp 6) 59 rfl w.heap.size 81 i0 (.agg #[.int .u16 0, .int .u8 0, .int .u8 0, .int .u8 0, .int .u8 0, .int .u8 0, .int .u8 0, .int .u32 0]) 8 12 Try.underlying59 HI.out HZ0.out HZ1.out HZ2.out rfl (by decide) _ 0 [] rfl HM.out a xs.length c xs.flatten rfl (by rw [HFL.out]) (HN.out _ ((Kept.refl _ _).alloc _)) H1.out (by unfold maxLen; omega) (by omega) (by simp) ?_; intro v6 w6 own6 grow6 _)
    have K6 := ((Kept.refl noB w).alloc (.cells #[] 81)).grown grow6 (fun k e hk => by cases e; exact absurd hk (Nat.lt_irrefl _))
    rw [Nat.zero_add, List.nil_append] at own6
    have HO := Lib.hid own6
    clear own6 grow6
    go_wp2_with fail
    go_ret
    exact ⟨_, rfl, HO.out, K6⟩

/-! ### fdb.Entry -/
def ksF : List Leaf := [.i .u16, .i .u8, .i .u8, .i .u8, .i .u8, .i .u8, .i .u8, .i .i64, .i .i64]
theorem leavesF : leavesOf Try.prog 4 85 = some ksF := by kernel_rfl
theorem aggF : aggT Try.prog 85 = true := by kernel_rfl
theorem guardF : Try.prog.eqGuardType Try.prog.depth 85 = false := by kernel_rfl
theorem sizeF : (Try.prog.info? 85).map (·.size) = some 9 := by kernel_rfl
theorem infoF : (Try.prog.info? 85).map (fun i => (i.zero, i.size, i.bytes)) = some (some (.agg #[.int .u16 0, .int .u8 0, .int .u8 0, .int .u8 0, .int .u8 0, .int .u8 0, .int .u8 0, .int .i64 0, .int .i64 0]), 9, 24) := by kernel_rfl
set_option maxRecDepth 100000 in
theorem equalF_calls (xs ys : List (List Value)) (A B : Option Addr) (c d : Nat) (w : World) (hx : RowsAt w 9 A xs) (hy : RowsAt w 9 B ys) (fx : fitsAll ksF xs) (fy : fitsAll ksF ys) (lx : xs.length ≤ maxLen) (ly : ys.length ≤ maxLen) :
    Calls Try.prog 55 #[.slice A xs.length c, .slice B ys.length d] w fun e w' => e = .returned (.bool (eqRows xs ys)) ∧ ∃ n, w' = w.drewN n := by
  unfold maxLen at lx ly
  by_cases hl : xs.length = ys.length
  · have HL := Lib.hid hl
    have l2 : ((xs.length : Int) != (ys.length : Int)) = false := by rw [hl]; simp
    clear hl
    have HX := Lib.hid hx
    have HY := Lib.hid hy
    have FX := Lib.hid fx
    have FY := Lib.hid fy
    clear hx hy fx fy
    go_enter Try.func55, Try.ntmps55
    go_wp2_with fail
    go_loopw [13] (fun i wr => ∃ k : Nat, k ≤ xs.length ∧ i = .int .i64 k ∧ eqRows (xs.drop k) (ys.drop k) = eqRows xs ys ∧ ∃ n, wr = w.drewN n) (fun i _ => xs.length - (intOf i).toNat)
    case atStart => exact ⟨0, Nat.zero_le _, rfl, rfl, 0, rfl⟩
    case round =>
      obtain ⟨k, hk, rfl, heq, n, rfl⟩ := hrel
      have HQ := Lib.hid heq
      clear heq
      by_cases hlt : k < xs.length
      · obtain ⟨r, hr⟩ : ∃ r, xs[k]? = some r := ⟨_, List.getElem?_eq_getElem hlt⟩
        obtain ⟨s, hs⟩ : ∃ s, ys[k]? = some s := ⟨_, List.getElem?_eq_getElem (by have := HL.out; omega)⟩
        obtain ⟨g, off, rfl, hA⟩ := HX.out.get hr
        obtain ⟨g2, off2, rfl, hB⟩ := HY.out.get hs
        have hq := HQ.out
        rw [eqRows_drop hr hs] at hq
        have f1 := fitsAll_get FX.out hr
        have f2 := fitsAll_get FY.out hs
        have s1 : (Try.prog.info? 85).map (·.size) = some r.length := by rw [fits_length f1]; exact sizeF
        have s2 : (Try.prog.info? 85).map (·.size) = some s.length := by rw [fits_length f2]; exact sizeF
        have hgA : ∀ w1, (∃ m, w1 = (w.drewN n).drewN m) → w1.rangeAt g (off + k * 9) r := by
          rintro _ ⟨m, rfl⟩
          exact hA
        have hgB : ∀ w1, (∃ m, w1 = (w.drewN n).drewN m) → w1.rangeAt g2 (off2 + k * 9) s := by
          rintro _ ⟨m, rfl⟩
          exact hB
        have hlt2 : k < ys.length := by have := HL.out; omega
        have H1 := Lib.hid hgA
        have H2 := Lib.hid hgB
        have H3 := Lib.hid s1
        have H4 := Lib.hid s2
        have H5 := Lib.hid f1
        have H6 := Lib.hid f2
        have H7 := Lib.hid hq
        clear hgA hgB s1 s2 f1 f2 hq hA hB hr hs
        cases hc : eqCells r s with
        | true =>
          rw [hc, Bool.true_and] at H7
          have HC := Lib.hid hc
          clear hc
          go_wp2_with fail
          refine wp_region_quiet_lit (by kernel_rfl) (by kernel_rfl) ?_
          repeat (first | (first | refine wpQuiet_load_mid rfl _ _ rfl g _ rfl r _ H1.out Try.underlying85 rfl H3.out ?_ | refine wpQuiet_load_mid rfl _ _ rfl g2 _ rfl s _ H2.out Try.underlying85 rfl H4.out ?_ | (refine wpQuiet_neq_cells rfl _ _ _ _ rfl r s rfl rfl leavesF (by decide) aggF guardF H5.out H6.out ?_; rw [HC.out])) | quiet_step (fail))
          refine wpQuiet_nil ?_
          intro _ hw'
          obtain ⟨nq, hw''⟩ := hw'
          subst hw''
          go_wp2_with fail
          go_roundw
          case rel => exact ⟨k + 1, by omega, by go_num, H7.out, n + nq, rfl⟩
          case measure => simp [intOf]; omega
        | false =>
          rw [hc, Bool.false_and] at H7
          have HC := Lib.hid hc
          clear hc
          go_wp2_with fail
          refine wp_region_quiet_lit (by kernel_rfl) (by kernel_rfl) ?_
          repeat (first | (first | refine wpQuiet_load_mid rfl _ _ rfl g _ rfl r _ H1.out Try.underlying85 rfl H3.out ?_ | refine wpQuiet_load_mid rfl _ _ rfl g2 _ rfl s _ H2.out Try.underlying85 rfl H4.out ?_ | (refine wpQuiet_neq_cells rfl _ _ _ _ rfl r s rfl rfl leavesF (by decide) aggF guardF H5.out H6.out ?_; rw [HC.out])) | quiet_step (fail))
          refine wpQuiet_nil ?_
          intro _ hw'
          obtain ⟨nq, hw''⟩ := hw'
          subst hw''
          go_wp2_with fail
          go_ret
          exact ⟨by rw [← H7.out]; rfl, n + nq, rfl⟩
      · have e : eqRows xs ys = true := by
          rw [← HQ.out, List.drop_of_length_le (by omega), List.drop_of_length_le (by have := HL.out; omega)]
          rfl
        have E := Lib.hid e
        clear e
        go_wp2_with fail
        go_ret
        exact ⟨by rw [E.out]; rfl, n, rfl⟩
  · have e : eqRows xs ys = false := by
      cases h : eqRows xs ys with
      | false => rfl
      | true => exact absurd (eqRows_len h) hl
    have l2 : ((xs.length : Int) != (ys.length : Int)) = true := by simp; omega
    have E := Lib.hid e
    clear e hl
    go_enter Try.func55, Try.ntmps55
    go_wp2_with fail
    go_ret
    exact ⟨by rw [E.out]; rfl, 0, rfl⟩
set_option maxRecDepth 100000 in
theorem cloneF_calls (xs : List (List Value)) (A : Option Addr) (c : Nat) (w : World) (hx : RowsAt w 9 A xs) (fx : fitsAll ksF xs) (lx : xs.length ≤ 1000) :
    Calls Try.prog 59 #[.slice A xs.length c] w fun e w' => ∃ v, e = .returned v ∧ w'.ownsRow w.heap.size 85 9 v xs.length xs.flatten ∧ Kept noB w w' := by
  obtain ⟨i0, hi, hz0, hz1, hz2⟩ := info_parts infoF
  have HI := Lib.hid hi
  have HZ0 := Lib.hid hz0
  have HZ1 := Lib.hid hz1
  have HZ2 := Lib.hid hz2
  clear hi hz0 hz1 hz2
  have hnil := fun (w : World) (a : Option Addr) (n c n' c' : Nat) => Lib.run_eql_slice_nil (P := Try.prog) w 60 85 a n c n' c' Try.underlying60
  have hfl := flat_len hx.1
  have h1 : ∀ u ∈ xs.flatten, u.oneCell' = true := fun u hu => by
    obtain ⟨r, hr, hu⟩ := List.mem_flatten.1 hu
    exact one_fits (fx r hr) u hu
  have HFL := Lib.hid hfl
  have H1 := Lib.hid h1
  have HX := Lib.hid hx
  clear hfl h1 hx fx
  cases A with
  | none =>
    have e : xs = [] := by
      rcases HX.out.2 with h | ⟨g, off, hA, _⟩
      · exact h
      · cases hA
    subst e
    go_enter Try.func59, Try.ntmps59
    go_wp2_with fail
    go_ret
    exact ⟨_, rfl, World.ownsRow_nil _ _ _ _, Kept.refl _ _⟩
  | some a =>
    have hn : ∀ (w1 : World), Kept noB w w1 → ∀ j u, xs.flatten[j]? = some u → w1.cell? (a.add j) = some u := by
      intro w1 hk j u hj
      have hkx := HX.out.kept hk
      have hjl : j < xs.flatten.length := (List.getElem?_eq_some_iff.1 hj).1
      rcases hkx.2 with h | ⟨g, off, hA, _⟩
      · rw [h] at hj
        cases hj
      · cases hA
        rw [Addr.add_mid]
        have hfl := HFL.out
        have hi : j / 9 < xs.length := by omega
        obtain ⟨r, hr⟩ : ∃ r, xs[j / 9]? = some r := ⟨_, List.getElem?_eq_getElem hi⟩
        have hrl : r.length = 9 := hkx.1 r (List.mem_of_getElem? hr)
        obtain ⟨v, hv⟩ : ∃ v, r[j % 9]? = some v := ⟨_, List.getElem?_eq_getElem (by omega)⟩
        have h2 := flat_at hkx.1 hr hv
        rw [show j / 9 * 9 + j % 9 = j by omega, hj] at h2
        cases h2
        have := hkx.at hr _ _ hv
        rwa [show off + j / 9 * 9 + j % 9 = off + j by omega] at this
    have HN := Lib.hid hn
    clear hn
    have hmade := World.ownsRow_made w #[] 0 (base := w.heap.size) (e := 85) (size := 9) (Nat.le_refl _) (by unfold maxLen; omega) (by simp)
    have HM := Lib.hid hmade
    clear hmade
    go_enter Try.func59, Try.ntmps59
    go_wp2_with (at_builtin; refine wpList_append_own _ rfl (.tmp 5) (.tmp 6) 60 rfl w.heap.size 85 i0 (.agg #[.int .u16 0, .int .u8 0, .int .u8 0, .int .u8 0, .int .u8 0, .int .u8 0, .int .u8 0, .int .i64 0, .int .i64 0]) 9 24 Try.underlying60 HI.out HZ0.out HZ1.out HZ2.out rfl (by decide) _ 0 [] rfl HM.out a xs.length c xs.flatten rfl (by rw [HFL.out]) (HN.out _ ((Kept.refl _ _).alloc _)) H1.out (by unfold maxLen; omega) (by omega) (by simp) ?_; intro v6 w6 own6 grow6 _)
    have K6 := ((Kept.refl noB w).alloc (.cells #[] 85)).grown grow6 (fun k e hk => by cases e; exact absurd hk (Nat.lt_irrefl _))
    rw [Nat.zero_add, List.nil_append] at own6
    have HO := Lib.hid own6
    clear own6 grow6
    go_wp2_with fail
    go_ret
    exact ⟨_, rfl, HO.out, K6⟩

end Go.Proofs.Ytngpfjmifaecjaa
