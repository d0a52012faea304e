/- The walk of girderref04.Decode, whatever the bytes; the law's own first lines. Condition: the text's length. -/
import Derived.Test.YtclnginkplhlhaaFrame11
import Derived.Test.YtclnginkplhlhaaFrame4
import Derived.Test.YtclnginkplhlhaaEqCells
namespace Go.Proofs.Ytclnginkplhlhaa
open Go.RowKit
set_option maxRecDepth 100000 in
theorem rdecode_long (l : List UInt8) (w : World) (hl : 1518 < l.length) : Calls Try.prog 22 #[.string (bs l)] w fun e w' => e = .returned (.tuple #[frV Fr.zero, .int .i64 3]) ∧ Kept noB w w' := by
  have hz : (1518 : Int) < (bs l).size := by rw [bs_size]; omega
  have k0 : Kept noB w (w.alloc (.cells (frC Fr.zero).toArray 56)) := (Kept.refl _ _).alloc _
  have r0 : Blk (w.alloc (.cells (frC Fr.zero).toArray 56)) w.heap.size 56 (frC Fr.zero) := Blk.new _ _ _
  have hs0 : (Try.prog.info? 56).map (·.size) = some (frC Fr.zero).toArray.size := rfrSize
  have h1z : (frC Fr.zero).toArray.all (·.oneCell') = true := by rw [List.all_toArray]; rfl
  have hz6 := r0.row (frC Fr.zero)
  have HZ6 := Lib.hid hz6
  have HK := Lib.hid k0
  have R0 := Lib.hid r0
  have HS := Lib.hid hs0
  have H1 := Lib.hid h1z
  clear hz6 k0 r0 hs0 h1z
  go_enter Try.func22, Try.ntmps22
  go_upto_region 2 with (fail)
  refine wp_region_lit (rwpList_build_zero rfl rfl (wpList_store_row rfl _ _ _ rfl w.heap.size (frC Fr.zero).toArray rfl rfl _ _ R0.out HS.out rfl H1.out ?_))
  go_wp2_with fail
  refine bodyPost_ret (v := .tuple #[.agg (frC Fr.zero).toArray, .int .i64 3]) (results_cell_tmp rfl _ _ w.heap.size _ (frC Fr.zero).toArray _ _ _ rfl rfl HZ6.out Try.underlying56 rfl HS.out) rfl ⟨rfl, ?_⟩
  exact HK.out.setRow (fun h => by omega) _
set_option maxRecDepth 100000 in
theorem rdecode_short (l : List UInt8) (w : World) (hl : l.length < 14) : Calls Try.prog 22 #[.string (bs l)] w fun e w' => e = .returned (.tuple #[frV Fr.zero, .int .i64 2]) ∧ Kept noB w w' := by
  have hz : ((bs l).size : Int) < 14 := by rw [bs_size]; omega
  have hz1 : ((bs l).size : Int) ≤ 1518 := by rw [bs_size]; omega
  have k0 : Kept noB w (w.alloc (.cells (frC Fr.zero).toArray 56)) := (Kept.refl _ _).alloc _
  have r0 : Blk (w.alloc (.cells (frC Fr.zero).toArray 56)) w.heap.size 56 (frC Fr.zero) := Blk.new _ _ _
  have hs0 : (Try.prog.info? 56).map (·.size) = some (frC Fr.zero).toArray.size := rfrSize
  have h1z : (frC Fr.zero).toArray.all (·.oneCell') = true := by rw [List.all_toArray]; rfl
  have hz6 := r0.row (frC Fr.zero)
  have HZ6 := Lib.hid hz6
  have HK := Lib.hid k0
  have R0 := Lib.hid r0
  have HS := Lib.hid hs0
  have H1 := Lib.hid h1z
  clear hz6 k0 r0 hs0 h1z
  go_enter Try.func22, Try.ntmps22
  go_upto_region 4 with (fail)
  refine wp_region_lit (rwpList_build_zero rfl rfl (wpList_store_row rfl _ _ _ rfl w.heap.size (frC Fr.zero).toArray rfl rfl _ _ R0.out HS.out rfl H1.out ?_))
  go_wp2_with fail
  refine bodyPost_ret (v := .tuple #[.agg (frC Fr.zero).toArray, .int .i64 2]) (results_cell_tmp rfl _ _ w.heap.size _ (frC Fr.zero).toArray _ _ _ rfl rfl HZ6.out Try.underlying56 rfl HS.out) rfl ⟨rfl, ?_⟩
  exact HK.out.setRow (fun h => by omega) _
theorem rdecode_calls (l : List UInt8) (w : World) : Calls Try.prog 22 #[.string (bs l)] w fun e w' => e = .returned (.tuple #[frV (decF l), .int .i64 (decE l : Nat)]) ∧ Kept noB w w' := by
  by_cases h1 : 1518 < l.length
  · have e1 : decE l = 3 := by rw [decE, if_pos h1]
    have e2 : decF l = Fr.zero := by rw [decF, e1]; rfl
    rw [e1, e2]
    exact rdecode_long l w h1
  by_cases h2 : l.length < 14
  · have e1 : decE l = 2 := by rw [decE, if_neg h1, if_pos h2]
    have e2 : decF l = Fr.zero := by rw [decF, e1]; rfl
    rw [e1, e2]
    exact rdecode_short l w h2
  · obtain ⟨a0, a1, a2, a3, a4, a5, b0, b1, b2, b3, b4, b5, rs, rfl, hr⟩ := twelve_of l (by omega)
    match rs, hr with
    | c :: d :: rs, _ => exact rdecode_on a0 a1 a2 a3 a4 a5 b0 b1 b2 b3 b4 b5 c d rs w (by simp at h1; omega)
/-! ### the law's own first lines -/
def speakL : List UInt8 := [97, 98, 99, 100, 101, 102, 103, 104, 105, 106, 107, 108, 129, 0, 32, 5, 8, 0, 120]
def speakF : Fr := ⟨97, 98, 99, 100, 101, 102, 103, 104, 105, 106, 107, 108, true, 1, false, 5, 2048, [120]⟩
theorem speak_dec : decE speakL = 0 ∧ decF speakL = speakF := by
  have h := dec_tag 97 98 99 100 101 102 103 104 105 106 107 108 129 0 32 5 8 0 [120] 8197 2048 rfl rfl rfl (by decide)
  rw [if_neg (by decide), if_neg (by decide)] at h
  exact h
theorem dstRun (w : World) : (Instr.build 44 #[(0, .int .u8 97), (1, .int .u8 98), (2, .int .u8 99), (3, .int .u8 100), (4, .int .u8 101), (5, .int .u8 102)]).run Try.prog w = .ok (.agg #[.int .u8 97, .int .u8 98, .int .u8 99, .int .u8 100, .int .u8 101, .int .u8 102]) w := by kernel_rfl
theorem frS : (Try.prog.info? 46).map (·.size) = some 18 := frSize
theorem oneC (x : Fr) : (frC x).toArray.all (·.oneCell') = true := by rw [List.all_toArray]; rfl
def l6 : List Leaf := List.replicate 6 (.i .u8)
theorem leaves6 : leavesOf Try.prog 3 44 = some l6 := by kernel_rfl
theorem agg6 : aggT Try.prog 44 = true := by kernel_rfl
theorem guard6 : Try.prog.eqGuardType Try.prog.depth 44 = false := by kernel_rfl
set_option maxRecDepth 100000 in
theorem speaks04 (w : World) : Calls Try.prog 17 #[] w fun e w' => e = .returned (.bool true) ∧ Kept noB w w' := by
  have q := decode_calls speakL w
  rw [speak_dec.1, speak_dec.2] at q
  unfold frV at q
  have Q := Lib.hid q
  clear q
  have hs : (Try.prog.info? 46).map (·.size) = some (frC speakF).toArray.size := frSize
  have hold : (frC Fr.zero).toArray.size = (frC speakF).toArray.size := rfl
  have h1 := oneC speakF
  generalize hcs : (frC speakF).toArray = cs at *
  go_enter Try.func17, Try.ntmps17
  go_wp2_with fail
  refine Q.out.mono ?_
  rintro e w1 ⟨rfl, hk⟩
  have hz : (w1.alloc (.cells (frC Fr.zero).toArray 46)).heap[w1.heap.size]? = some (.cells (frC Fr.zero).toArray 46 (0, 0)) := heap_alloc_new w1 _
  have hb : Blk (World.setRow (w1.alloc (.cells (frC Fr.zero).toArray 46)) w1.heap.size (frC speakF).toArray) w1.heap.size 46 (frC speakF) := Blk.row hz (frC speakF)
  have hk2 : Kept noB w (World.setRow (w1.alloc (.cells (frC Fr.zero).toArray 46)) w1.heap.size (frC speakF).toArray) := (hk.alloc _).setRow (fun h => by have := hk.size; omega) _
  rw [hcs] at hb hk2
  have HB := Lib.hid hb
  have HK := Lib.hid hk2
  clear hb hk2
  go_upto_region 2 with (first | refine wpList_store_row rfl _ _ _ rfl w1.heap.size cs rfl rfl _ _ hz hs hold h1 ?_)
  change Code.wp _ _ _ _ (World.setRow (w1.alloc (.cells (frC Fr.zero).toArray 46)) w1.heap.size cs)
  have hb := HB.out
  have hk2 := HK.out
  clear HB HK hz
  generalize World.setRow (w1.alloc (.cells (frC Fr.zero).toArray 46)) w1.heap.size cs = W at *
  have c0 : W.cell? ⟨w1.heap.size, 0, none⟩ = some (.int .u8 97) := hb.cell 0
  have c1 : W.cell? ⟨w1.heap.size, 1, none⟩ = some (.int .u8 98) := hb.cell 1
  have c2 : W.cell? ⟨w1.heap.size, 2, none⟩ = some (.int .u8 99) := hb.cell 2
  have c3 : W.cell? ⟨w1.heap.size, 3, none⟩ = some (.int .u8 100) := hb.cell 3
  have c4 : W.cell? ⟨w1.heap.size, 4, none⟩ = some (.int .u8 101) := hb.cell 4
  have c5 : W.cell? ⟨w1.heap.size, 5, none⟩ = some (.int .u8 102) := hb.cell 5
  have c12 : W.cell? ⟨w1.heap.size, 12, none⟩ = some (.bool true) := hb.cell 12
  have c13 : W.cell? ⟨w1.heap.size, 13, none⟩ = some (.int .u8 1) := hb.cell 13
  have c15 : W.cell? ⟨w1.heap.size, 15, none⟩ = some (.int .u16 5) := hb.cell 15
  have c16 : W.cell? ⟨w1.heap.size, 16, none⟩ = some (.int .u16 2048) := hb.cell 16
  have c17 : W.cell? ⟨w1.heap.size, 17, none⟩ = some (.string ⟨#[120]⟩) := hb.cell 17
  have hq : ∀ w, (binOp .eql 44 (.agg #[.int .u8 97, .int .u8 98, .int .u8 99, .int .u8 100, .int .u8 101, .int .u8 102]) (.agg #[.int .u8 97, .int .u8 98, .int .u8 99, .int .u8 100, .int .u8 101, .int .u8 102])).run Try.prog w = .ok (.bool true) w := fun w =>
    run_eql_leaves leaves6 (by decide) agg6 [.int .u8 97, .int .u8 98, .int .u8 99, .int .u8 100, .int .u8 101, .int .u8 102] [.int .u8 97, .int .u8 98, .int .u8 99, .int .u8 100, .int .u8 101, .int .u8 102] (by simp [fits, l6, List.replicate, Leaf.fit]) (by simp [fits, l6, List.replicate, Leaf.fit]) w
  have hg := guard6
  clear hb
  go_wp2_with fail
  go_ret
  exact ⟨rfl, hk2⟩
end Go.Proofs.Ytclnginkplhlhaa
