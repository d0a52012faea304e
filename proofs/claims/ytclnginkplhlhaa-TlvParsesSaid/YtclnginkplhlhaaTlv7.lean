/- The walk of girderlaw21.same, for lists that are the same. Condition: the number of sections. -/
import Derived.Test.YtclnginkplhlhaaTlv2
namespace Go.Proofs.Ytclnginkplhlhaa
open Go.RowKit
set_option maxRecDepth 100000 in
set_option maxHeartbeats 4000000 in
theorem same_calls (l : List Sec) (A B : Option Addr) (cap cap2 : Nat) (w : World) (hA : SecAt w A l) (hB : SecAt w B l) (hn : l.length ≤ maxLen) :
    Calls Try.prog 28 #[.slice A l.length cap, .slice B l.length cap2] w fun e w' => e = .returned (.bool true) ∧ ∃ d, w' = w.drewN d := by
  have hn' : l.length ≤ 9223372036854775807 := by unfold maxLen at hn; exact hn
  go_enter Try.func28, Try.ntmps28
  go_wp2_with fail
  go_loopw [5] (fun i wr => ∃ k : Nat, k ≤ l.length ∧ i = .int .i64 k ∧ ∃ d, wr = w.drewN d) (fun i _ => l.length - (intOf i).toNat)
  case atStart => exact ⟨0, Nat.zero_le _, rfl, 0, rfl⟩
  case round =>
    obtain ⟨k, hkl, rfl, d, rfl⟩ := hrel
    by_cases hlt : k < l.length
    · have hlt' : (k : Int) < (l.length : Int) := by omega
      obtain ⟨ba, oa, rfl, hca⟩ : ∃ bb off, A = some ⟨bb, off, none⟩ ∧ ∀ k x, l[k]? = some x → w.cell? ⟨bb, off + k * 2, none⟩ = some (.int .u8 (x.1.toNat : Int)) ∧ w.cell? ⟨bb, off + k * 2 + 1, none⟩ = some (.string (bs x.2)) := by
        rcases hA with h | h
        · subst h
          simp at hlt
        · exact h
      obtain ⟨bb, ob, rfl, hcb⟩ : ∃ bb off, B = some ⟨bb, off, none⟩ ∧ ∀ k x, l[k]? = some x → w.cell? ⟨bb, off + k * 2, none⟩ = some (.int .u8 (x.1.toNat : Int)) ∧ w.cell? ⟨bb, off + k * 2 + 1, none⟩ = some (.string (bs x.2)) := by
        rcases hB with h | h
        · subst h
          simp at hlt
        · exact h
      obtain ⟨x, hx⟩ : ∃ x, l[k]? = some x := ⟨_, List.getElem?_eq_getElem hlt⟩
      obtain ⟨a0, a1⟩ := hca _ _ hx
      obtain ⟨b0, b1⟩ := hcb _ _ hx
      clear hca hcb hA hB hx
      go_wp2_with fail
      go_quiet (fail)
      go_wp2_with fail
      exact ⟨⟨k + 1, by omega, by go_num, _, rfl⟩, by simp [intOf]; omega⟩
    · have hge : (l.length : Int) ≤ (k : Int) := by omega
      go_wp2_with fail
      go_ret
      exact ⟨rfl, d, rfl⟩
end Go.Proofs.Ytclnginkplhlhaa
