/- Layer 7: three ports; a set of any numbers and walks that are broken off. Condition: lists of at most 2^63 - 1. -/
import Derived.Test.YtngpfjmifaecjaaLaw07
import Derived.Test.YtngpfjmifaecjaaIter
namespace Go.Proofs.Ytngpfjmifaecjaa
open Go.RowKit Go.Shelf

theorem of_list (l : List Int) (w : World) (g : Nat) (hg : Blk w g 3 (l.map (fun z => .int .i64 z))) (hm : l.length ≤ 9) :
    Calls Try.prog 20 #[.slice (some ⟨g, 0, none⟩) l.length l.length] w fun e w' => e = .returned (.int .u32 ((ofN l l.length : Nat) : Int)) ∧ w = w' := by
  have h : IntsAt .i64 w g 0 l.length l := by
    intro i hi
    have e := hg.cell (0 + i)
    rw [Nat.zero_add] at e ⊢
    rw [e, List.getElem?_map, List.getElem?_eq_getElem hi, List.getD_eq_getElem?_getD, List.getElem?_eq_getElem hi]
    rfl
  have hm' : l.length ≤ maxLen := by unfold maxLen; omega
  exact of_calls l l.length l.length _ w hm' (.inr ⟨g, 0, rfl, h⟩)
theorem speaks07 (w : World) : Calls Try.prog 12 #[] w fun e w' => e = .returned (.bool true) ∧ Kept noB w w' := by
  have k1 : Kept noB w (w.alloc (.cells #[.int .i64 1, .int .i64 3] 3)) := (Kept.refl _ _).alloc _
  have b1 := Blk.new w 3 [.int .i64 1, .int .i64 3]
  go_enter Try.func12, Try.ntmps12
  go_wp2_with fail
  refine (of_list [1, 3] _ _ b1 (by decide)).mono ?_
  rintro e w1 ⟨rfl, rfl⟩
  rw [show ofN [1, 3] [(1 : Int), 3].length = 5 by decide]
  go_wp2_with fail
  refine (with_calls 5 2 _ (by omega)).mono ?_
  rintro e w1 ⟨rfl, rfl⟩
  rw [show withP 5 2 = 7 by decide]
  go_wp2_with fail
  refine (has_calls 7 3 _ (by omega)).mono ?_
  rintro e w1 ⟨rfl, rfl⟩
  rw [show hasB 7 3 = true by decide]
  go_wp2_with fail
  refine (has_calls 7 4 _ (by omega)).mono ?_
  rintro e w1 ⟨rfl, rfl⟩
  rw [show hasB 7 4 = false by decide]
  go_wp2_with fail
  refine (count_calls 7 _ (by omega)).mono ?_
  rintro e w1 ⟨rfl, d, rfl⟩
  rw [show cntN 7 16 = 3 by decide]
  go_wp2_with fail
  refine (without_calls 7 1 _ (by omega)).mono ?_
  rintro e w1 ⟨rfl, rfl⟩
  rw [show woutP 7 1 = 6 by decide]
  go_wp2_with fail
  obtain ⟨W, hW⟩ : ∃ W, (w.alloc (.cells #[.int .i64 1, .int .i64 3] 3)).drewN d = W := ⟨_, rfl⟩
  have k2 : Kept noB w W := by rw [← hW]; exact k1.drewN d
  have hs : W.heap.size = w.heap.size + 1 := by rw [← hW]; simp
  rw [hW]
  have b2 := Blk.new W 3 [.int .i64 1]
  rw [hs] at b2
  refine (of_list [1] _ _ b2 (by decide)).mono ?_
  rintro e w1 ⟨rfl, rfl⟩
  rw [show ofN [1] [(1 : Int)].length = 1 by decide]
  go_wp2_with fail
  refine (within_calls 1 7 _ (by omega) (by omega)).mono ?_
  rintro e w1 ⟨rfl, rfl⟩
  rw [show inP 1 7 = true by decide]
  go_wp2_with fail
  go_ret
  exact ⟨rfl, k2.alloc _⟩
end Go.Proofs.Ytngpfjmifaecjaa
