/- The walks of package tlv and of its reference: sums. Condition: the text's length. -/
import Derived.Test.YtclnginkplhlhaaWire2
import Derived.Test.YtclnginkplhlhaaCrc
import Derived.Test.YtclnginkplhlhaaPlainTlv
namespace Go.Proofs.Ytclnginkplhlhaa
open Go.RowKit
attribute [local go_sem high] zero_run
attribute [local simp] zero_ne
theorem run_string4 (W : World) (a b c d : Int) : (convert 79 9 (.slice (some ⟨W.heap.size, 0, none⟩) 4 4)).run Try.prog (W.alloc (.cells #[.int .u8 a, .int .u8 b, .int .u8 c, .int .u8 d] 5)) = .ok (.string (strOfNums [a, b, c, d])) (W.alloc (.cells #[.int .u8 a, .int .u8 b, .int .u8 c, .int .u8 d] 5)) :=
  run_convert_bytes_arg (P := Try.prog) _ 79 5 Try.underlying79 Try.underlying5 W.heap.size 0 4 4 [a, b, c, d] (by simp) (fun i hi => by
    rcases (show i = 0 ∨ i = 1 ∨ i = 2 ∨ i = 3 by omega) with rfl | rfl | rfl | rfl <;> simp) 9 Try.underlying9
theorem le4_str (n : Nat) (_h : n < 4294967296) : strOfNums [(n : Int) % 256, (n : Int) / 256 % 256, (n : Int) / 65536 % 256, (n : Int) / 16777216] = bs (le4 n) := by
  rw [← strOf_vb]
  congr 1
  simp [le4]
  omega
theorem tab_new (w : World) : Tab (w.alloc (.cells (vw (tabN 256)).toArray 75)) w.heap.size := Blk.new w _ _
theorem tab_sizes : (Try.prog.info? 75).map (·.size) = some (vw (tabN 256)).toArray.size ∧ (vw (tabN 0)).toArray.size = (vw (tabN 256)).toArray.size := by
  constructor
  · rw [size_tab, List.size_toArray, vw_length, tabN_length]
  · simp [vw_length, tabN_length]
theorem store_tab (w : World) : (storeCells ⟨w.heap.size, 0, none⟩ (vw (tabN 256)) 0).run Try.prog (w.alloc (.cells zeroTab 75)) = .ok () (w.alloc (.cells (vw (tabN 256)).toArray 75)) := by
  rw [zero_tab]
  exact run_storeCells_new (P := Try.prog) w 75 (vw (tabN 0)).toArray (vw (tabN 256)).toArray tab_sizes.1 tab_sizes.2 (one_tab 256)
theorem vw_tab_len : (vw (tabN 256)).length = 256 := by rw [vw_length, tabN_length]
set_option maxRecDepth 100000 in
set_option maxHeartbeats 2000000 in
theorem tsum_calls (l : List UInt8) (w : World) (hl : l.length ≤ 1000000000000000) : Calls Try.prog 50 #[.string (bs l)] w fun e w' => e = .returned (.string (bs (sumL l))) ∧ Kept noB w w' := by
  have hst := store_tab
  have hvl := vw_tab_len
  have hC := fun g w (ht : Tab w g) => sum_calls g l w ht hl
  have hlt := crcSum_lt l
  unfold sumL
  generalize crcSum l = n at *
  go_enter Try.func50, Try.ntmps50
  go_wp2_with fail
  refine (make_calls _).mono ?_
  rintro e w2 ⟨rfl, hk2⟩
  go_wp2_with fail
  clear hst hvl
  have ht := tab_new w2
  have hk := hk2.alloc (.cells (vw (tabN 256)).toArray 75)
  generalize w2.alloc (.cells (vw (tabN 256)).toArray 75) = w3 at *
  refine (hC w2.heap.size w3 ht).mono ?_
  rintro e w4 ⟨rfl, d, rfl⟩
  have e4 := le4_str _ hlt
  have HE := Lib.hid e4
  clear e4
  have hc : ∀ a b c e : Int, (convert 79 9 (.slice (some ⟨w3.heap.size, 0, none⟩) 4 4)).run Try.prog ((w3.drewN d).alloc (.cells #[.int .u8 a, .int .u8 b, .int .u8 c, .int .u8 e] 5)) = .ok (.string (strOfNums [a, b, c, e])) ((w3.drewN d).alloc (.cells #[.int .u8 a, .int .u8 b, .int .u8 c, .int .u8 e] 5)) := fun a b c e => run_string4 (w3.drewN d) a b c e
  go_wp2_with fail
  go_ret
  have h4 : strOfNums _ = bs (le4 n) := HE
  exact ⟨by rw [h4]; rfl, (hk.drewN d).alloc _⟩
set_option maxHeartbeats 2000000 in
/-- the document's -/
theorem rtsum_calls (l : List UInt8) (w : World) (hl : l.length ≤ 1000000000000000) : Calls Try.prog 51 #[.string (bs l)] w fun e w' => e = .returned (.string (bs (sumL l))) ∧ Kept noB w w' := by
  have hC := rsum_calls l w hl
  have hlt := crcSum_lt l
  unfold sumL
  generalize crcSum l = n at *
  have hc := run_string4 w
  have e4 := le4_str _ hlt
  have HE := Lib.hid e4
  clear e4
  go_enter Try.func51, Try.ntmps51
  go_wp2_with (refine hC.mono ?_; rintro e w2 ⟨rfl, rfl⟩)
  go_ret
  have h4 : strOfNums _ = bs (le4 n) := HE
  exact ⟨by rw [h4]; rfl, (Kept.refl _ _).alloc _⟩
end Go.Proofs.Ytclnginkplhlhaa
