/- The walk of girderref04.Decode. Condition: the text's length. -/
import Derived.Test.YtclnginkplhlhaaFrame10
namespace Go.Proofs.Ytclnginkplhlhaa
open Go.RowKit
set_option maxRecDepth 100000 in
set_option maxHeartbeats 1000000 in
theorem rdecode_on (a0 a1 a2 a3 a4 a5 b0 b1 b2 b3 b4 b5 c d : UInt8) (rs : List UInt8) (w : World) (hl : rs.length ≤ 1504) :
    Calls Try.prog 22 #[.string (bs ([a0, a1, a2, a3, a4, a5] ++ ([b0, b1, b2, b3, b4, b5] ++ (c :: d :: rs))))] w fun e w' => e = .returned (.tuple #[frV (decF ([a0, a1, a2, a3, a4, a5] ++ ([b0, b1, b2, b3, b4, b5] ++ (c :: d :: rs)))), .int .i64 (decE ([a0, a1, a2, a3, a4, a5] ++ ([b0, b1, b2, b3, b4, b5] ++ (c :: d :: rs))) : Nat)]) ∧ Kept noB w w' := by
  have hbuild := rrun_build2 a0 a1 a2 a3 a4 a5 b0 b1 b2 b3 b4 b5
  have hz1 : ((bs ([a0, a1, a2, a3, a4, a5] ++ ([b0, b1, b2, b3, b4, b5] ++ (c :: d :: rs)))).size : Int) ≤ 1518 := by rw [bs_size]; simp; omega
  have hz : (14 : Int) ≤ (bs ([a0, a1, a2, a3, a4, a5] ++ ([b0, b1, b2, b3, b4, b5] ++ (c :: d :: rs)))).size := by rw [bs_size]; simp; omega
  have hzn : (bs ([a0, a1, a2, a3, a4, a5] ++ ([b0, b1, b2, b3, b4, b5] ++ (c :: d :: rs)))).size = 14 + rs.length := by rw [bs_size]; simp +arith
  have hlen : 12 ≤ ([a0, a1, a2, a3, a4, a5] ++ ([b0, b1, b2, b3, b4, b5] ++ (c :: d :: rs))).length := by simp +arith
  have hA : [a0, a1, a2, a3, a4, a5].length = 6 := rfl
  have hB : [b0, b1, b2, b3, b4, b5].length = 6 := rfl
  have hs1 : ∀ w, (Instr.sliceAt 9 (.string (bs ([a0, a1, a2, a3, a4, a5] ++ ([b0, b1, b2, b3, b4, b5] ++ (c :: d :: rs))))) none (some (.int .i64 6)) none).run Try.prog w = .ok (.string (bs [a0, a1, a2, a3, a4, a5])) w := fun w => run_slice_h6 _ 6 w (by simp)
  have hs2 : ∀ w, (Instr.sliceAt 9 (.string (bs ([a0, a1, a2, a3, a4, a5] ++ ([b0, b1, b2, b3, b4, b5] ++ (c :: d :: rs))))) (some (.int .i64 6)) (some (.int .i64 12)) none).run Try.prog w = .ok (.string (bs [b0, b1, b2, b3, b4, b5])) w := fun w => run_slice_lh6 _ 6 12 w (by simp) (by omega)
  have hx12 : (bs ([a0, a1, a2, a3, a4, a5] ++ ([b0, b1, b2, b3, b4, b5] ++ (c :: d :: rs)))).extract 12 (bs ([a0, a1, a2, a3, a4, a5] ++ ([b0, b1, b2, b3, b4, b5] ++ (c :: d :: rs)))).size = bs (c :: d :: rs) := bs_drop _ 12
  generalize hAe : [a0, a1, a2, a3, a4, a5] = A at *
  generalize hBe : [b0, b1, b2, b3, b4, b5] = B at *
  generalize hhalf : frHalf a0 a1 a2 a3 a4 a5 b0 b1 b2 b3 b4 b5 = half at *
  generalize hL : A ++ (B ++ (c :: d :: rs)) = l at *
  have HAE := Lib.hid hAe
  have HBE := Lib.hid hBe
  have HH := Lib.hid hhalf
  have HB := Lib.hid hbuild
  have HA := Lib.hid hA
  have HB6 := Lib.hid hB
  have HL := Lib.hid hL
  have HS1 := Lib.hid hs1
  have HS2 := Lib.hid hs2
  have HX := Lib.hid hx12
  have HZN := Lib.hid hzn
  clear hbuild hA hB hL hhalf hAe hBe hs1 hs2 hx12 hzn
  have k0 : Kept noB w (w.alloc (.cells (frC Fr.zero).toArray 56)) := (Kept.refl _ _).alloc _
  have r0 : Blk (w.alloc (.cells (frC Fr.zero).toArray 56)) w.heap.size 56 (frC Fr.zero) := Blk.new _ _ _
  have hza' := rrun_allocF
  have K0 := Lib.hid k0
  have R0 := Lib.hid r0
  clear k0 r0
  go_enter Try.func22, Try.ntmps22
  go_wp2_with fail
  have k0 := K0.out
  have r0 := R0.out
  have hA := HA.out
  have hB := HB6.out
  have hbu := HB.out
  have hsz : (w.alloc (.cells (frC Fr.zero).toArray 56)).heap.size = w.heap.size + 1 := by simp
  have hle := k0.size
  refine wp_region_inv (by kernel_rfl) (by kernel_rfl) (Slots _ rdecD (rdecS (w.heap.size + 1) l A B half) (rdecW (w.alloc (.cells (frC Fr.zero).toArray 56)) w.heap.size)) (Slots.start ⟨(Kept.refl _ _).drew, r0, fun h => h⟩) ?_ ?_
  · clear r0
    intro f a wz hI i o ho hfi hall
    have hi : i < 9 := (Array.getElem?_eq_some_iff.1 ho).1
    have hW := hI.world
    have hsz2 : w.heap.size + 1 ≤ wz.heap.size := by have := hW.1.size; omega
    rcases (by omega : i = 0 ∨ i = 1 ∨ i = 2 ∨ i = 3 ∨ i = 4 ∨ i = 5 ∨ i = 6 ∨ i = 7 ∨ i = 8) with rfl | rfl | rfl | rfl | rfl | rfl | rfl | rfl | rfl
    all_goals
      simp only [List.getElem?_toArray, List.getElem?_cons_zero, List.getElem?_cons_succ, Option.some.injEq] at ho
      subst ho
      simp [Region.binds] at hall
    · have e : a.eval (.tmp 0) = .string (bs l) := hI.old (by decide)
      exact wp_value rfl (hI.put (d := 15) (by kernel_rfl) (by decide) (rdecW_kept (by decide) hW (Kept.refl _ _)) e (fun p _ _ _ h => rdecS_kept (by decide) (Kept.refl _ _) _ _ h))
    · have e : a.eval (.tmp 15) = .string (bs l) := hI.eval (k := 0) (by decide) hall
      have hrun := HS1.out wz
      rw [← e] at hrun
      exact wp_value (run_val hrun) (hI.put (d := 16) (by kernel_rfl) (by decide) (rdecW_kept (by decide) hW (Kept.refl _ _)) rfl (fun p _ _ _ h => rdecS_kept (by decide) (Kept.refl _ _) _ _ h))
    · have e : a.eval (.tmp 16) = .string (bs A) := hI.eval (k := 1) (by decide) hall
      refine wp_go Try.func46 rfl rfl (args := #[.string (bs A)]) (by simp only [List.map_toArray, List.map_cons, List.map_nil, e]) ((six_calls A wz (by omega)).mono ?_)
      rintro e w' ⟨rfl, hk⟩
      rw [show A.take 6 = A by rw [List.take_of_length_le (by omega)]]
      exact ⟨_, rfl, hI.put (d := 17) (by kernel_rfl) (by decide) (rdecW_kept (by decide) hW hk) rfl (fun p _ _ _ h => rdecS_kept (by decide) hk _ _ h)⟩
    · have e : a.eval (.tmp 0) = .string (bs l) := hI.old (by decide)
      exact wp_value rfl (hI.put (d := 18) (by kernel_rfl) (by decide) (rdecW_kept (by decide) hW (Kept.refl _ _)) e (fun p _ _ _ h => rdecS_kept (by decide) (Kept.refl _ _) _ _ h))
    · have e : a.eval (.tmp 18) = .string (bs l) := hI.eval (k := 3) (by decide) hall
      have hrun := HS2.out wz
      rw [← e] at hrun
      exact wp_value (run_val hrun) (hI.put (d := 19) (by kernel_rfl) (by decide) (rdecW_kept (by decide) hW (Kept.refl _ _)) rfl (fun p _ _ _ h => rdecS_kept (by decide) (Kept.refl _ _) _ _ h))
    · have e : a.eval (.tmp 19) = .string (bs B) := hI.eval (k := 4) (by decide) (by first | exact hall | exact hall.1)
      refine wp_go Try.func46 rfl rfl (args := #[.string (bs B)]) (by simp only [List.map_toArray, List.map_cons, List.map_nil, e]) ((six_calls B wz (by omega)).mono ?_)
      rintro e w' ⟨rfl, hk⟩
      rw [show B.take 6 = B by rw [List.take_of_length_le (by omega)]]
      exact ⟨_, rfl, hI.put (d := 20) (by kernel_rfl) (by decide) (rdecW_kept (by decide) hW hk) rfl (fun p _ _ _ h => rdecS_kept (by decide) hk _ _ h)⟩
    · have e1 : a.eval (.tmp 17) = .agg (vb A).toArray := hI.eval (k := 2) (by decide) hall.1
      have e2 : a.eval (.tmp 20) = .agg (vb B).toArray := hI.eval (k := 5) (by decide) hall.2
      have hrun := hbu wz
      rw [← e1, ← e2] at hrun
      exact wp_value (v := .agg (frC half).toArray) (w' := wz) (run_val (by simp only [List.map_toArray, List.map_cons, List.map_nil]; exact hrun)) (hI.put (d := 21) (by kernel_rfl) (by decide) (rdecW_kept (by decide) hW (Kept.refl _ _)) rfl (fun p _ _ _ h => rdecS_kept (by decide) (Kept.refl _ _) _ _ h))
    · have f8 : f 8 = false := by
        cases h6 : f 8
        · rfl
        · have := hW.2.2 h6
          rw [hfi] at this
          cases this
      have hk : Kept noB wz (wz.alloc (.cells (frC Fr.zero).toArray 56)) := (Kept.refl _ _).alloc _
      refine wp_value (run_val (hza' wz)) (hI.put (d := 4) (by kernel_rfl) (by decide) (rdecW_kept (by decide) hW hk) ⟨_, rfl, hsz2, ?_⟩ (fun p _ _ _ h => rdecS_kept (by decide) hk _ _ h))
      simp only [f8]
      exact Blk.new _ _ _
    · have h7 : f 7 = true := hall.1
      have h6 : f 6 = true := hall.2.1
      obtain ⟨g, e5, hg, hb⟩ := hI.eval (k := 7) (d := 4) (by decide) h7
      have e29 : a.eval (.tmp 21) = .agg (frC half).toArray := hI.eval (k := 6) (by decide) h6
      simp only [hfi] at hb
      refine wp_store_row _ _ _ rfl g (frC half).toArray e5 e29 56 (frC Fr.zero).toArray hb rfrSize rfl (by rw [List.all_toArray]; rfl) (hI.pass (by decide) ⟨?_, hW.2.1.rowFar (by omega) _, fun _ => by simp [h7]⟩ ?_)
      · exact hW.1.setRow (fun h => by omega) _
      · intro p hp _ _ h
        simp only [rdecD, List.mem_cons, List.not_mem_nil, or_false] at hp
        rcases hp with rfl | rfl | rfl | rfl | rfl | rfl | rfl | rfl
        · exact h
        · exact h
        · exact h
        · exact h
        · exact h
        · exact h
        · exact h
        · exact ⟨g, e5, hg, by simpa using hb.row (frC half)⟩
  · intro f a wz hf hI
    have hkz := k0.no hI.world.1
    have hz2 := hI.world.2.1
    obtain ⟨g, e5, hg, hb⟩ := hI.slot (7, 4) (by decide) (hf 7 (by decide))
    rw [hf 8 (by decide), if_pos rfl] at hb
    have ho := hI.out
    clear hI hf r0 k0 hle
    simp only [rdecD, List.foldl_cons, List.foldl_nil] at ho
    generalize a.tmps.getD 15 undef = y19 at *
    generalize a.tmps.getD 16 undef = y20 at *
    generalize a.tmps.getD 17 undef = y21 at *
    generalize a.tmps.getD 18 undef = y22 at *
    generalize a.tmps.getD 19 undef = y23 at *
    generalize a.tmps.getD 20 undef = y24 at *
    generalize a.tmps.getD 21 undef = y25 at *
    rw [e5] at ho
    subst ho
    simp only [List.setIfInBounds_toArray, List.set_cons_zero, List.set_cons_succ]
    clear hbu hza' hsz hA hB
    rw [← HH.out] at hb
    have hx := HX.out
    have hx2 : (bs (c :: d :: rs)).extract 0 2 = bs [c, d] := by rw [bs_take]; rfl
    have hxs : (2 : Int) ≤ ((bs (c :: d :: rs)).size : Int) := by rw [bs_size]; simp; omega
    clear HX
    have HB := Lib.hid hb
    have HZ := Lib.hid hz2
    have HK := Lib.hid hkz
    clear hb hz2 hkz
    have hty := typ0_lt [c, d]
    rw [show List.take 2 [c, d] = [c, d] from rfl] at hty
    have hx3 : (bs (c :: d :: rs)).extract 2 (bs (c :: d :: rs)).size = bs rs := bs_drop _ 2
    have qn := fun w => number_calls [c, d] w (Nat.le_of_ble_eq_true rfl)
    by_cases ht : numU [c, d] = 33024
    · have ht' : ((bs [c, d]).toList == [129, 0]) = true := by
        rw [bs_toListE]
        have := beU_numU_two c d
        rw [ht] at this
        rw [← this]
        rfl
      have hz18 := HZN.out
      by_cases h4 : rs.length < 4
      · have h18 : ((bs l).size : Int) < 18 := by omega
        have hd : decE l = 2 ∧ decF l = Fr.zero := by
          rw [← HL.out, ← HAE.out, ← HBE.out]
          exact dec_short a0 a1 a2 a3 a4 a5 b0 b1 b2 b3 b4 b5 c d rs ht h4
        have HD := Lib.hid hd
        clear hd hz18 ht qn
        have hz3 := HZ.out
        have hz6 := hz3.row (frC Fr.zero)
        have HZ6 := Lib.hid hz6
        have hzv : frV Fr.zero = .agg (frC Fr.zero).toArray := rfl
        have HZV := Lib.hid hzv
        clear hz6 HZ HB hzv
        unfold Blk at hz3
        go_upto_region 9 with (fail)
        refine wp_region_lit (rwpList_build_zero rfl rfl (wpList_store_row rfl _ _ _ rfl w.heap.size (frC Fr.zero).toArray rfl rfl _ _ hz3 rfrSize rfl (by rw [List.all_toArray]; rfl) ?_))
        generalize hcs : (frC Fr.zero).toArray = zc at *
        go_wp2_with fail
        refine bodyPost_ret (v := .tuple #[.agg zc, .int .i64 2]) (results_cell_tmp rfl _ _ w.heap.size _ zc _ _ _ rfl rfl (by have h := HZ6.out; unfold Blk at h; rwa [hcs] at h) Try.underlying56 rfl (by rw [← hcs]; exact rfrSize)) rfl ⟨?_, ?_⟩
        · rw [HD.out.1, HD.out.2, HZV.out]
          rfl
        · exact HK.out.setRow (fun h => by omega) _
      · have h18 : decide (((bs l).size : Int) < 18) = false := by simp; omega
        have h18' : (18 : Int) ≤ ((bs l).size : Int) := by omega
        obtain ⟨g1, h1, c1, d1, rs, rfl⟩ : ∃ g1 h1 c1 d1 rs', rs = g1 :: h1 :: c1 :: d1 :: rs' := by
          match rs, h4 with
          | [], h => exact absurd (by simp) h
          | [_], h => exact absurd (by simp) h
          | [_, _], h => exact absurd (by simp) h
          | [_, _, _], h => exact absurd (by simp) h
          | g1 :: h1 :: c1 :: d1 :: rs', _ => exact ⟨g1, h1, c1, d1, rs', rfl⟩
        have hll2 : rs.length ≤ 1500 := by simp at hl; omega
        have hx4 : (bs (c :: d :: g1 :: h1 :: c1 :: d1 :: rs)).extract 2 4 = bs [g1, h1] := by rw [bs_extract]; rfl
        have hx5 : (bs (c :: d :: g1 :: h1 :: c1 :: d1 :: rs)).extract 4 (bs (c :: d :: g1 :: h1 :: c1 :: d1 :: rs)).size = bs (c1 :: d1 :: rs) := bs_drop _ 4
        have hx6 : (4 : Int) ≤ ((bs (c :: d :: g1 :: h1 :: c1 :: d1 :: rs)).size : Int) := by rw [bs_size]; simp; omega
        have hx7 : (bs (c1 :: d1 :: rs)).extract 0 2 = bs [c1, d1] := by rw [bs_take]; rfl
        have hx8 : (2 : Int) ≤ ((bs (c1 :: d1 :: rs)).size : Int) := by rw [bs_size]; simp; omega
        have hx9 : (bs (c1 :: d1 :: rs)).extract 2 (bs (c1 :: d1 :: rs)).size = bs rs := bs_drop _ 2
        have qm := fun w => number_calls [g1, h1] w (Nat.le_of_ble_eq_true rfl)
        have qt := fun w => number_calls [c1, d1] w (Nat.le_of_ble_eq_true rfl)
        have HT := Lib.hid ht
        clear qn hx3 hz18 h4 hl ht
        have hnl := typ0_lt [g1, h1]
        have htl := typ0_lt [c1, d1]
        rw [show List.take 2 [g1, h1] = [g1, h1] from rfl] at hnl
        rw [show List.take 2 [c1, d1] = [c1, d1] from rfl] at htl
        generalize hnv : numU [g1, h1] = n at *
        generalize htv : numU [c1, d1] = ty at *
        have hd : decE l = (if 4094 < n % 4096 then 16 else 0) ∧ decF l = (if 4094 < n % 4096 then Fr.zero else ⟨a0, a1, a2, a3, a4, a5, b0, b1, b2, b3, b4, b5, true, n / 8192, decide (n / 4096 % 2 = 1), n % 4096, ty, rs⟩) := by
          rw [← HL.out, ← HAE.out, ← HBE.out]
          exact dec_tag a0 a1 a2 a3 a4 a5 b0 b1 b2 b3 b4 b5 c d g1 h1 c1 d1 rs n ty HT.out hnv htv hll2
        clear hnv htv
        have e13 : ((n : Int) / 8192) = ((n / 8192 : Nat) : Int) := by simp
        have e12 : ((n : Int) / 4096 % 2) = ((n / 4096 % 2 : Nat) : Int) := by simp
        have e0 : ((n : Int) % 4096) = ((n % 4096 : Nat) : Int) := by simp
        have hp7 : n / 8192 ≤ 7 := by omega
        have hv9 : n % 4096 ≤ 4095 := by omega
        have hq1 : n / 4096 % 2 ≤ 1 := by omega
        generalize n / 8192 = p at *
        generalize n % 4096 = v at *
        generalize n / 4096 % 2 = q at *
        have HD := Lib.hid hd
        clear hd
        have hwv : IntKind.u16.wrap (v : Int) = (v : Int) := by rw [IntKind.wrap_u16]; omega
        have hwr : IntKind.u16.wrap (ty : Int) = (ty : Int) := by rw [IntKind.wrap_u16]; omega
        have c12 : wz.cell? ⟨g, 12, none⟩ = some (.bool false) := HB.out.cell 12
        have c13 : wz.cell? ⟨g, 13, none⟩ = some (.int .u8 0) := HB.out.cell 13
        have c14 : wz.cell? ⟨g, 14, none⟩ = some (.bool false) := HB.out.cell 14
        have c15 : wz.cell? ⟨g, 15, none⟩ = some (.int .u16 0) := HB.out.cell 15
        have f12 := HB.out.frozen 12
        have f13 := HB.out.frozen 13
        have f14 := HB.out.frozen 14
        have f15 := HB.out.frozen 15
        go_wp2_with fail
        refine (qm _).mono ?_
        rintro e w' ⟨rfl, rfl⟩
        go_upto_region 12 with (fail)
        have hzg : w.heap.size ≠ g := by omega
        have hb5 := (((HB.out.set 12 (.bool true)).set 13 (.int .u8 (p : Int))).set 14 (.bool ((q : Int) == 1))).set 15 (.int .u16 (v : Int))
        have hz5 := (((HZ.out.far (p := ⟨g, 12, none⟩) hzg (.bool true)).far (p := ⟨g, 13, none⟩) hzg (.int .u8 (p : Int))).far (p := ⟨g, 14, none⟩) hzg (.bool ((q : Int) == 1))).far (p := ⟨g, 15, none⟩) hzg (.int .u16 (v : Int))
        have hk5 := (((HK.out.setCell (p := ⟨g, 12, none⟩) (fun h => by simp at h; omega) (.bool true)).setCell (p := ⟨g, 13, none⟩) (fun h => by simp at h; omega) (.int .u8 (p : Int))).setCell (p := ⟨g, 14, none⟩) (fun h => by simp at h; omega) (.bool ((q : Int) == 1))).setCell (p := ⟨g, 15, none⟩) (fun h => by simp at h; omega) (.int .u16 (v : Int))
        clear HB HZ HK c12 c13 c14 c15 f12 f13 f14 f15 qm
        generalize ((((wz.setCell ⟨g, 12, none⟩ (.bool true)).setCell ⟨g, 13, none⟩ (.int .u8 (p : Int))).setCell ⟨g, 14, none⟩ (.bool ((q : Int) == 1))).setCell ⟨g, 15, none⟩ (.int .u16 (v : Int))) = w5 at *
        have ek : ((((frC (frHalf a0 a1 a2 a3 a4 a5 b0 b1 b2 b3 b4 b5)).set 12 (.bool true)).set 13 (.int .u8 (p : Int))).set 14 (.bool ((q : Int) == 1))).set 15 (.int .u16 (v : Int)) = frC ⟨a0, a1, a2, a3, a4, a5, b0, b1, b2, b3, b4, b5, true, p, ((q : Int) == 1), v, 0, []⟩ := rfl
        rw [ek] at hb5
        have c15 : w5.cell? ⟨g, 15, none⟩ = some (.int .u16 (v : Int)) := hb5.cell 15
        have HB := Lib.hid hb5
        have HZ := Lib.hid hz5
        have HK := Lib.hid hk5
        clear hb5 hz5 hk5 ek e13 e12 e0
        by_cases hv : 4094 < v
        · have hv' : (4094 : Int) < (v : Int) := by omega
          have hz3 := HZ.out
          have hz6 := hz3.row (frC Fr.zero)
          have HZ6 := Lib.hid hz6
          have hzv : frV Fr.zero = .agg (frC Fr.zero).toArray := rfl
          have HZV := Lib.hid hzv
          clear hz6 HZ HB hzv
          unfold Blk at hz3
          go_upto_region 13 with (fail)
          refine wp_region_lit (rwpList_build_zero rfl rfl (wpList_store_row rfl _ _ _ rfl w.heap.size (frC Fr.zero).toArray rfl rfl _ _ hz3 rfrSize rfl (by rw [List.all_toArray]; rfl) ?_))
          generalize hcs : (frC Fr.zero).toArray = zc at *
          go_wp2_with fail
          refine bodyPost_ret (v := .tuple #[.agg zc, .int .i64 16]) (results_cell_tmp rfl _ _ w.heap.size _ zc _ _ _ rfl rfl (by have h := HZ6.out; unfold Blk at h; rwa [hcs] at h) Try.underlying56 rfl (by rw [← hcs]; exact rfrSize)) rfl ⟨?_, ?_⟩
          · rw [HD.out.1, HD.out.2, if_pos hv, if_pos hv, HZV.out]
            rfl
          · exact HK.out.setRow (fun h => by omega) _
        · have hv' : decide ((4094 : Int) < (v : Int)) = false := by simp; omega
          have hv2 : (v : Int) ≤ 4094 := by omega
          go_wp2_with fail
          have c16 : w5.cell? ⟨g, 16, none⟩ = some (.int .u16 0) := HB.out.cell 16
          have c17 : w5.cell? ⟨g, 17, none⟩ = some (.string (bs [])) := HB.out.cell 17
          have f16 := HB.out.frozen 16
          have f17 := HB.out.frozen 17
          go_region_with ((go_at_call 47; refine (qt _).mono ?_; rintro e w' ⟨rfl, rfl⟩))
          have hb5 := ((HB.out.set 16 (.int .u16 (ty : Int))).set 17 (.string (bs rs))).drew
          have hz5 := ((HZ.out.far (p := ⟨g, 16, none⟩) (show w.heap.size ≠ g by omega) (.int .u16 (ty : Int))).far (p := ⟨g, 17, none⟩) (show w.heap.size ≠ g by omega) (.string (bs rs))).drew
          have hk5 := ((HK.out.setCell (p := ⟨g, 16, none⟩) (fun h => by simp at h; omega) (.int .u16 (ty : Int))).setCell (p := ⟨g, 17, none⟩) (fun h => by simp at h; omega) (.string (bs rs))).drew
          have ek : ((frC ⟨a0, a1, a2, a3, a4, a5, b0, b1, b2, b3, b4, b5, true, p, ((q : Int) == 1), v, 0, []⟩).set 16 (.int .u16 (ty : Int))).set 17 (.string (bs rs)) = frC ⟨a0, a1, a2, a3, a4, a5, b0, b1, b2, b3, b4, b5, true, p, ((q : Int) == 1), v, ty, rs⟩ := rfl
          rw [ek] at hb5
          clear c16 c17 f16 f17 HB HZ HK ek
          generalize ((w5.setCell ⟨g, 16, none⟩ (.int .u16 (ty : Int))).setCell ⟨g, 17, none⟩ (.string (bs rs))).drew = w9 at *
          have hs : (Try.prog.info? 56).map (·.size) = some (frC ⟨a0, a1, a2, a3, a4, a5, b0, b1, b2, b3, b4, b5, true, p, ((q : Int) == 1), v, ty, rs⟩).toArray.size := rfrSize
          have h1c : (frC ⟨a0, a1, a2, a3, a4, a5, b0, b1, b2, b3, b4, b5, true, p, ((q : Int) == 1), v, ty, rs⟩).toArray.all (·.oneCell') = true := by rw [List.all_toArray]; rfl
          have hold : (frC Fr.zero).toArray.size = (frC ⟨a0, a1, a2, a3, a4, a5, b0, b1, b2, b3, b4, b5, true, p, ((q : Int) == 1), v, ty, rs⟩).toArray.size := rfl
          have HK := Lib.hid hk5
          have hz6 := hz5.row (frC ⟨a0, a1, a2, a3, a4, a5, b0, b1, b2, b3, b4, b5, true, p, ((q : Int) == 1), v, ty, rs⟩)
          have HZ := Lib.hid hz6
          have hqb : ((q : Int) == 1) = decide (q = 1) := by rw [Bool.eq_iff_iff]; simp; omega
          have HQB := Lib.hid hqb
          clear hqb
          clear hk5 hz6
          unfold Blk at hb5 hz5
          generalize hcs : (frC ⟨a0, a1, a2, a3, a4, a5, b0, b1, b2, b3, b4, b5, true, p, ((q : Int) == 1), v, ty, rs⟩).toArray = cs at *
          go_wp2_with (first | refine wpList_load_row rfl _ _ rfl g rfl _ cs _ _ hb5 Try.underlying56 rfl hs ?_ | refine wpList_store_row rfl _ _ _ rfl w.heap.size cs rfl rfl _ _ hz5 hs hold h1c ?_)
          refine bodyPost_ret (v := .tuple #[.agg cs, .int .i64 0]) (results_cell_tmp rfl _ _ w.heap.size _ cs _ _ _ rfl rfl (by have h := HZ.out; unfold Blk at h; rwa [hcs] at h) Try.underlying56 rfl hs) rfl ⟨?_, ?_⟩
          · rw [HD.out.2, HD.out.1, if_neg hv, if_neg hv, frV, ← HQB.out, hcs]
            rfl
          · exact HK.out.setRow (fun h => by omega) _
    · have ht' : ((bs [c, d]).toList == [129, 0]) = false := by rw [beq_eq_false_iff_ne, bs_toListE]; exact fun h => ht (by rw [h]; rfl)
      generalize htv : numU [c, d] = ty at *
      have HT := Lib.hid htv
      clear htv
      have hwr : IntKind.u16.wrap (ty : Int) = (ty : Int) := by rw [IntKind.wrap_u16]; omega
      go_wp2_with fail
      have c16 : wz.cell? ⟨g, 16, none⟩ = some (.int .u16 0) := HB.out.cell 16
      have c17 : wz.cell? ⟨g, 17, none⟩ = some (.string (bs [])) := HB.out.cell 17
      have f16 := HB.out.frozen 16
      have f17 := HB.out.frozen 17
      go_region_with ((go_at_call 47; refine (qn _).mono ?_; rintro e w' ⟨rfl, rfl⟩))
      have hb5 := ((HB.out.set 16 (.int .u16 (ty : Int))).set 17 (.string (bs rs))).drew
      have hz5 := ((HZ.out.far (p := ⟨g, 16, none⟩) (show w.heap.size ≠ g by omega) (.int .u16 (ty : Int))).far (p := ⟨g, 17, none⟩) (show w.heap.size ≠ g by omega) (.string (bs rs))).drew
      have hk5 := ((HK.out.setCell (p := ⟨g, 16, none⟩) (fun h => by simp at h; omega) (.int .u16 (ty : Int))).setCell (p := ⟨g, 17, none⟩) (fun h => by simp at h; omega) (.string (bs rs))).drew
      have ek : ((frC (frHalf a0 a1 a2 a3 a4 a5 b0 b1 b2 b3 b4 b5)).set 16 (.int .u16 (ty : Int))).set 17 (.string (bs rs)) = frC ⟨a0, a1, a2, a3, a4, a5, b0, b1, b2, b3, b4, b5, false, 0, false, 0, ty, rs⟩ := rfl
      rw [ek] at hb5
      clear c16 c17 f16 f17 HB HZ HK ek
      generalize ((wz.setCell ⟨g, 16, none⟩ (.int .u16 (ty : Int))).setCell ⟨g, 17, none⟩ (.string (bs rs))).drew = w9 at *
      have hs : (Try.prog.info? 56).map (·.size) = some (frC ⟨a0, a1, a2, a3, a4, a5, b0, b1, b2, b3, b4, b5, false, 0, false, 0, ty, rs⟩).toArray.size := rfrSize
      have h1c : (frC ⟨a0, a1, a2, a3, a4, a5, b0, b1, b2, b3, b4, b5, false, 0, false, 0, ty, rs⟩).toArray.all (·.oneCell') = true := by rw [List.all_toArray]; rfl
      have hold : (frC Fr.zero).toArray.size = (frC ⟨a0, a1, a2, a3, a4, a5, b0, b1, b2, b3, b4, b5, false, 0, false, 0, ty, rs⟩).toArray.size := rfl
      have HK := Lib.hid hk5
      have hz6 := hz5.row (frC ⟨a0, a1, a2, a3, a4, a5, b0, b1, b2, b3, b4, b5, false, 0, false, 0, ty, rs⟩)
      have HZ := Lib.hid hz6
      have hd : decE l = 0 ∧ decF l = ⟨a0, a1, a2, a3, a4, a5, b0, b1, b2, b3, b4, b5, false, 0, false, 0, ty, rs⟩ := by
        rw [← HL.out, ← HAE.out, ← HBE.out]
        exact dec_plain a0 a1 a2 a3 a4 a5 b0 b1 b2 b3 b4 b5 c d rs ty HT.out ht hl
      have HD := Lib.hid hd
      clear hd
      clear hk5 hz6
      unfold Blk at hb5 hz5
      generalize hcs : (frC ⟨a0, a1, a2, a3, a4, a5, b0, b1, b2, b3, b4, b5, false, 0, false, 0, ty, rs⟩).toArray = cs at *
      go_wp2_with (first | refine wpList_load_row rfl _ _ rfl g rfl _ cs _ _ hb5 Try.underlying56 rfl hs ?_ | refine wpList_store_row rfl _ _ _ rfl w.heap.size cs rfl rfl _ _ hz5 hs hold h1c ?_)
      refine bodyPost_ret (v := .tuple #[.agg cs, .int .i64 0]) (results_cell_tmp rfl _ _ w.heap.size _ cs _ _ _ rfl rfl (by have h := HZ.out; unfold Blk at h; rwa [hcs] at h) Try.underlying56 rfl hs) rfl ⟨?_, ?_⟩
      · rw [HD.out.2, HD.out.1, frV, hcs]
        rfl
      · exact HK.out.setRow (fun h => by omega) _
end Go.Proofs.Ytclnginkplhlhaa
