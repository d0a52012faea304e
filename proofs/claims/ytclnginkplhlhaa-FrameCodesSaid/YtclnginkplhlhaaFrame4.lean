/- The walk of the law's 'told'. No condition. -/
import Derived.Test.YtclnginkplhlhaaFrame3
namespace Go.Proofs.Ytclnginkplhlhaa
open Go.RowKit
set_option maxRecDepth 100000 in
set_option maxHeartbeats 2000000 in
theorem told_calls (x : Fr) (w : World) : Calls Try.prog 19 #[frV x] w fun e w' => e = .returned (frV x) ∧ Kept noB w w' := by
  obtain ⟨a0, a1, a2, a3, a4, a5, b0, b1, b2, b3, b4, b5, tg, pcp, dei, vid, ty, data⟩ := x
  simp only [frV, frC]
  go_enter Try.func19, Try.ntmps19
  go_wp2_with fail
  have hh := heap_alloc_new (w.alloc (.cells (frC ⟨a0, a1, a2, a3, a4, a5, b0, b1, b2, b3, b4, b5, tg, pcp, dei, vid, ty, data⟩).toArray 50)) (.cells (frC ⟨a0, a1, a2, a3, a4, a5, b0, b1, b2, b3, b4, b5, tg, pcp, dei, vid, ty, data⟩).toArray 46)
  rw [World.size_alloc] at hh
  exact bodyPost_ret (v := frV ⟨a0, a1, a2, a3, a4, a5, b0, b1, b2, b3, b4, b5, tg, pcp, dei, vid, ty, data⟩) (results_cell_row rfl _ _ _ _ _ _ _ rfl hh Try.underlying46 rfl frSize) rfl ⟨rfl, ((Kept.refl _ _).alloc _).alloc _⟩
end Go.Proofs.Ytclnginkplhlhaa
