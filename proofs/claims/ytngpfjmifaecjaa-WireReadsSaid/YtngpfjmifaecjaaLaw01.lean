/- The walks of the statements of layer 1. -/
import Derived.Test.YtngpfjmifaecjaaWire2
namespace Go.Proofs.Ytngpfjmifaecjaa
open Go.RowKit

set_option maxHeartbeats 1000000 in
theorem speaks01 (w : World) : Calls Try.prog 35 #[] w fun e w' => e = .returned (.bool true) ∧ Kept noB w w' := by
  go_enter Try.func35, Try.ntmps35
  go_wp2_with fail
  refine (read_s (Kept.refl _ _) [1, 2, 120] (by decide)).mono ?_
  rintro e w1 ⟨g, rfl, h1⟩
  go_wp2_with fail
  refine (bytes_s h1 _ _ (by omega)).mono ?_
  rintro e w2 ⟨rfl, h2⟩
  rw [show bs (bytesV 258 2) = ⟨#[1, 2]⟩ by decide +kernel]
  clear h1
  go_wp2_with fail
  refine (num_s h2 _).mono ?_
  rintro e w3 ⟨rfl, h3⟩
  rw [show numU (rawOut [1, 2, 120] false (numSize 2)) = 258 by decide +kernel]
  replace h3 : RdS w w3 g [120] false := h3
  clear h2
  go_wp2_with fail
  refine (left_s h3).mono ?_
  rintro e w' ⟨rfl, rfl⟩
  go_wp2_with fail
  refine (end_s h3).mono ?_
  rintro e w' ⟨rfl, rfl⟩
  rw [show endV [120] false = 3 by decide +kernel]
  go_wp2_with fail
  refine (raw_s h3 _).mono ?_
  rintro e w4 ⟨rfl, h4⟩
  rw [show bs (rawOut [120] false 1) = ⟨#[120]⟩ by decide +kernel]
  replace h4 : RdS w w4 g [] false := h4
  clear h3
  go_wp2_with fail
  refine (end_s h4).mono ?_
  rintro e w' ⟨rfl, rfl⟩
  rw [show endV [] false = 0 by decide +kernel]
  go_wp2_with fail
  refine (field_calls _ _ _ _ (by omega) (by omega)).mono ?_
  rintro e w' ⟨rfl, rfl⟩
  rw [show fieldV 2748 4 8 = 171 by decide +kernel]
  go_wp2
  go_ret
  exact ⟨rfl, h4.2.1⟩
end Go.Proofs.Ytngpfjmifaecjaa
